/- Transactions and blocks in memory. -/
import Derived.Test.YtkdnnekdldomeaaPackR
set_option linter.unusedSimpArgs false
namespace Go.Proofs.Ytkdnnekdldomeaa
open Go.RowKit
theorem flat_at {α : Type} {f : α → List Value} {k : Nat} (hf : ∀ x, (f x).length = k) : ∀ (X : List α) (i : Nat) {x : α}, X[i]? = some x → ∀ j, j < k → (X.flatMap f)[i * k + j]? = (f x)[j]?
  | [], i, x, h, _, _ => by simp at h
  | y :: r, 0, x, h, j, hj => by
    simp at h; subst h
    rw [List.flatMap_cons, Nat.zero_mul, Nat.zero_add, List.getElem?_append_left (by rw [hf]; exact hj)]
  | y :: r, i + 1, x, h, j, hj => by
    rw [List.flatMap_cons, List.getElem?_append_right (by rw [hf, Nat.succ_mul]; omega), hf]
    rw [show (i + 1) * k + j - k = i * k + j by rw [Nat.succ_mul]; omega]
    exact flat_at hf r i (by simpa using h) j hj
theorem flat_len {α : Type} {f : α → List Value} {k : Nat} (hf : ∀ x, (f x).length = k) (X : List α) : (X.flatMap f).length = X.length * k := by
  induction X with
  | nil => simp
  | cons x r ih => rw [List.flatMap_cons, List.length_append, hf, ih, List.length_cons, Nat.succ_mul, Nat.add_comm]
/-- A list of rows of k cells, read weakly: its address is plain where it is not empty. -/
theorem rows_at {w : World} {a : Option Addr} {n c : Nat} {α : Type} {f : α → List Value} {k : Nat} {X : List α} (hf : ∀ x, (f x).length = k) (hk : 0 < k) (hn : n = X.length) (h : RdC' w (.slice a n c) n (X.flatMap f)) {i : Nat} {x : α} (hx : X[i]? = some x) :
    ∃ b o, a = some ⟨b, o, none⟩ ∧ ∀ j u, j < k → (f x)[j]? = some u → w.cell? ⟨b, o + i * k + j, none⟩ = some u := by
  obtain ⟨a', c', he, h2, h3, h4, h5⟩ := h
  injection he with e1 e2 e3
  subst e1 e3
  have hX : X ≠ [] := by rintro rfl; simp at hx
  obtain ⟨y, r, hyr⟩ := List.exists_cons_of_ne_nil hX
  have hne : (X.flatMap f)[0]? = (f y)[0]? := by
    have := flat_at hf X 0 (x := y) (by rw [hyr]; rfl) 0 hk
    simpa using this
  have hfy : (f y)[0]? = some ((f y)[0]'(by rw [hf]; exact hk)) := List.getElem?_eq_getElem (by rw [hf]; exact hk)
  cases a with
  | none =>
    have hc := h4 rfl
    have : 0 < X.length := List.length_pos_iff.2 hX
    omega
  | some ad =>
    have hsp := spot_none (h5 ad rfl 0 _ (hne.trans hfy))
    refine ⟨ad.block, ad.off, by rw [← hsp], fun j u hj hu => ?_⟩
    have h6 := h5 ad rfl (i * k + j) u (by rw [flat_at hf X i hx j hj]; exact hu)
    rw [hsp, Addr.add_lit] at h6
    rw [Nat.add_assoc]; exact h6
theorem RdC'.shape {w : World} {v : Value} {n : Nat} {cells : List Value} (h : RdC' w v n cells) : ∃ a c, v = .slice a n c ∧ n ≤ c ∧ c ≤ maxLen := by
  obtain ⟨a, c, rfl, h2, h3, -⟩ := h
  exact ⟨a, c, rfl, h2, h3⟩
/-! ## outputs -/
def outCells (x : OutT × Value) : List Value := [uv x.1.commit, uv x.1.p.a, uv x.1.p.b, x.2]
theorem outCells_len (x : OutT × Value) : (outCells x).length = 4 := rfl
def RdOs (w : World) (v : Value) (l : List OutT) : Prop := ∃ X : List (OutT × Value), X.map (·.1) = l ∧ RdC' w v l.length (X.flatMap outCells) ∧ ∀ x ∈ X, RdU' w x.2 x.1.cipher
theorem RdOs.ext {w w' : World} {v : Value} {l : List OutT} (h : RdOs w v l) (k : Ext w w') : RdOs w' v l := by
  obtain ⟨X, h1, h2, h3⟩ := h
  exact ⟨X, h1, h2.ext k, fun x hx => (h3 x hx).ext k⟩
theorem RdOs.shape {w : World} {v : Value} {l : List OutT} (h : RdOs w v l) : ∃ a c, v = .slice a l.length c ∧ l.length ≤ c ∧ c ≤ maxLen := by
  obtain ⟨X, h1, h2, h3⟩ := h
  exact h2.shape
theorem RdOs.at {w : World} {a : Option Addr} {n c : Nat} {l : List OutT} (h : RdOs w (.slice a n c) l) {i : Nat} {o : OutT} (ho : l[i]? = some o) :
    ∃ b q ca cc, a = some ⟨b, q, none⟩ ∧ w.cell? ⟨b, q + i * 4, none⟩ = some (uv o.commit) ∧ w.cell? ⟨b, q + i * 4 + 1, none⟩ = some (uv o.p.a) ∧ w.cell? ⟨b, q + i * 4 + 2, none⟩ = some (uv o.p.b) ∧ w.cell? ⟨b, q + i * 4 + 3, none⟩ = some (.slice ca o.cipher.length cc) ∧ RdU' w (.slice ca o.cipher.length cc) o.cipher := by
  obtain ⟨X, h1, h2, h3⟩ := h
  have hn : n = l.length := by obtain ⟨a', c', he, -⟩ := h2; injection he
  have hXl : X.length = l.length := by rw [← h1, List.length_map]
  have hi : i < X.length := by rw [hXl]; exact (List.getElem?_eq_some_iff.1 ho).1
  have hx : X[i]? = some X[i] := List.getElem?_eq_getElem hi
  have hxo : X[i].1 = o := by
    have : l[i]? = some X[i].1 := by rw [← h1, List.getElem?_map, hx]; rfl
    rw [ho] at this
    exact (Option.some.inj this).symm
  have hr := h3 _ (List.getElem_mem hi)
  subst hn
  obtain ⟨b, q, rfl, hc⟩ := rows_at outCells_len (by omega) hXl.symm h2 hx
  rw [hxo] at hr
  obtain ⟨ca, cc, hv, -⟩ := hr.shape
  have e0 := hc 0 _ (by omega) rfl
  have e1 := hc 1 _ (by omega) rfl
  have e2 := hc 2 _ (by omega) rfl
  have e3 := hc 3 _ (by omega) rfl
  rw [hxo] at e0 e1 e2
  rw [hv] at e3 hr
  exact ⟨b, q, ca, cc, rfl, e0, e1, e2, e3, hr⟩
/-! ## transactions -/
abbrev txVal (t : TxT) (mv ov pv : Value) : Value := .agg #[uv t.anchor, mv, ov, uv t.deposit, uv t.withdraw, uv t.fee, uv t.account, uv t.nonce, .int .i64 t.expiry, pv]
structure RdT (w : World) (t : TxT) (mv ov pv : Value) : Prop where
  m : RdU' w mv t.marks
  o : RdOs w ov t.outs
  p : RdB' w pv t.proof
theorem RdT.ext {w w' : World} {t : TxT} {mv ov pv : Value} (h : RdT w t mv ov pv) (k : Ext w w') : RdT w' t mv ov pv := ⟨h.m.ext k, h.o.ext k, h.p.ext k⟩
theorem RdT.shape {w : World} {t : TxT} {mv ov pv : Value} (h : RdT w t mv ov pv) : ∃ ma mc oa oc pa pc, mv = .slice ma t.marks.length mc ∧ ov = .slice oa t.outs.length oc ∧ pv = .slice pa t.proof.length pc := by
  obtain ⟨ma, mc, h1, -⟩ := h.m.shape
  obtain ⟨oa, oc, h2, -⟩ := h.o.shape
  obtain ⟨pa, pc, h3, -⟩ := h.p.shape
  exact ⟨ma, mc, oa, oc, pa, pc, h1, h2, h3⟩
abbrev TxM := TxT × Value × Value × Value
def txCells (x : TxM) : List Value := [uv x.1.anchor, x.2.1, x.2.2.1, uv x.1.deposit, uv x.1.withdraw, uv x.1.fee, uv x.1.account, uv x.1.nonce, .int .i64 x.1.expiry, x.2.2.2]
theorem txCells_len (x : TxM) : (txCells x).length = 10 := rfl
def RdTs (w : World) (v : Value) (l : List TxT) : Prop := ∃ X : List TxM, X.map (·.1) = l ∧ RdC' w v l.length (X.flatMap txCells) ∧ ∀ x ∈ X, RdT w x.1 x.2.1 x.2.2.1 x.2.2.2
theorem RdTs.ext {w w' : World} {v : Value} {l : List TxT} (h : RdTs w v l) (k : Ext w w') : RdTs w' v l := by
  obtain ⟨X, h1, h2, h3⟩ := h
  exact ⟨X, h1, h2.ext k, fun x hx => (h3 x hx).ext k⟩
theorem RdTs.shape {w : World} {v : Value} {l : List TxT} (h : RdTs w v l) : ∃ a c, v = .slice a l.length c ∧ l.length ≤ c ∧ c ≤ maxLen := by
  obtain ⟨X, h1, h2, h3⟩ := h
  exact h2.shape
theorem RdTs.at {w : World} {a : Option Addr} {n c : Nat} {l : List TxT} (h : RdTs w (.slice a n c) l) {i : Nat} {t : TxT} (ht : l[i]? = some t) :
    ∃ b q ma mc oa oc pa pc, a = some ⟨b, q, none⟩ ∧ RdT w t (.slice ma t.marks.length mc) (.slice oa t.outs.length oc) (.slice pa t.proof.length pc) ∧
      (w.cell? ⟨b, q + i * 10, none⟩ = some (uv t.anchor) ∧ w.cell? ⟨b, q + i * 10 + 1, none⟩ = some (.slice ma t.marks.length mc) ∧ w.cell? ⟨b, q + i * 10 + 2, none⟩ = some (.slice oa t.outs.length oc) ∧ w.cell? ⟨b, q + i * 10 + 3, none⟩ = some (uv t.deposit) ∧ w.cell? ⟨b, q + i * 10 + 4, none⟩ = some (uv t.withdraw) ∧
      w.cell? ⟨b, q + i * 10 + 5, none⟩ = some (uv t.fee) ∧ w.cell? ⟨b, q + i * 10 + 6, none⟩ = some (uv t.account) ∧ w.cell? ⟨b, q + i * 10 + 7, none⟩ = some (uv t.nonce) ∧ w.cell? ⟨b, q + i * 10 + 8, none⟩ = some (.int .i64 t.expiry) ∧ w.cell? ⟨b, q + i * 10 + 9, none⟩ = some (.slice pa t.proof.length pc)) := by
  obtain ⟨X, h1, h2, h3⟩ := h
  have hn : n = l.length := by obtain ⟨a', c', he, -⟩ := h2; injection he
  have hXl : X.length = l.length := by rw [← h1, List.length_map]
  have hi : i < X.length := by rw [hXl]; exact (List.getElem?_eq_some_iff.1 ht).1
  have hx : X[i]? = some X[i] := List.getElem?_eq_getElem hi
  have hr := h3 _ (List.getElem_mem hi)
  obtain ⟨⟨t', mv, ov, pv⟩, hX⟩ : ∃ y, y = X[i] := ⟨_, rfl⟩
  rw [← hX] at hx hr
  have hxo : t' = t := by
    have : l[i]? = some t' := by rw [← h1, List.getElem?_map, hx]; rfl
    rw [ht] at this
    exact (Option.some.inj this).symm
  subst hn hxo
  obtain ⟨b, q, rfl, hc⟩ := rows_at txCells_len (by omega) hXl.symm h2 hx
  simp only at hr
  obtain ⟨ma, mc, oa, oc, pa, pc, rfl, rfl, rfl⟩ := hr.shape
  exact ⟨b, q, ma, mc, oa, oc, pa, pc, rfl, hr, hc 0 _ (by omega) rfl, hc 1 _ (by omega) rfl, hc 2 _ (by omega) rfl, hc 3 _ (by omega) rfl, hc 4 _ (by omega) rfl, hc 5 _ (by omega) rfl, hc 6 _ (by omega) rfl, hc 7 _ (by omega) rfl, hc 8 _ (by omega) rfl, hc 9 _ (by omega) rfl⟩
/-! ## blocks -/
abbrev blkVal (b : BlkT) (tv : Value) : Value := .agg #[uv b.parent, .int .i64 b.height, uv b.miner, uv b.work, uv b.nonce, tv]
/-- A boxed transaction's cells. -/
theorem ten_cells {w : World} {b : Nat} {c0 c1 c2 c3 c4 c5 c6 c7 c8 c9 : Value} {T : TypeId} (h : w.heap[b]? = some (.cells #[c0, c1, c2, c3, c4, c5, c6, c7, c8, c9] T (0, 0))) :
    w.cell? ⟨b, 0, none⟩ = some c0 ∧ w.cell? ⟨b, 1, none⟩ = some c1 ∧ w.cell? ⟨b, 2, none⟩ = some c2 ∧ w.cell? ⟨b, 3, none⟩ = some c3 ∧ w.cell? ⟨b, 4, none⟩ = some c4 ∧ w.cell? ⟨b, 5, none⟩ = some c5 ∧ w.cell? ⟨b, 6, none⟩ = some c6 ∧ w.cell? ⟨b, 7, none⟩ = some c7 ∧ w.cell? ⟨b, 8, none⟩ = some c8 ∧ w.cell? ⟨b, 9, none⟩ = some c9 :=
  ⟨cell_of h 0, cell_of h 1, cell_of h 2, cell_of h 3, cell_of h 4, cell_of h 5, cell_of h 6, cell_of h 7, cell_of h 8, cell_of h 9⟩
theorem six_cellsB {w : World} {b : Nat} {c0 c1 c2 c3 c4 c5 : Value} {T : TypeId} (h : w.heap[b]? = some (.cells #[c0, c1, c2, c3, c4, c5] T (0, 0))) :
    w.cell? ⟨b, 0, none⟩ = some c0 ∧ w.cell? ⟨b, 1, none⟩ = some c1 ∧ w.cell? ⟨b, 2, none⟩ = some c2 ∧ w.cell? ⟨b, 3, none⟩ = some c3 ∧ w.cell? ⟨b, 4, none⟩ = some c4 ∧ w.cell? ⟨b, 5, none⟩ = some c5 :=
  ⟨cell_of h 0, cell_of h 1, cell_of h 2, cell_of h 3, cell_of h 4, cell_of h 5⟩
theorem four_cellsO {w : World} {b : Nat} {c0 c1 c2 c3 : Value} {T : TypeId} (h : w.heap[b]? = some (.cells #[c0, c1, c2, c3] T (0, 0))) :
    w.cell? ⟨b, 0, none⟩ = some c0 ∧ w.cell? ⟨b, 1, none⟩ = some c1 ∧ w.cell? ⟨b, 2, none⟩ = some c2 ∧ w.cell? ⟨b, 3, none⟩ = some c3 := ⟨cell_of h 0, cell_of h 1, cell_of h 2, cell_of h 3⟩
end Go.Proofs.Ytkdnnekdldomeaa
