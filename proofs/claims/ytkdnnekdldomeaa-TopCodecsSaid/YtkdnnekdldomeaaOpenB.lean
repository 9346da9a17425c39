/- Arguments opened: transactions, blocks. -/
import Derived.Test.YtkdnnekdldomeaaTxMem
import Derived.Deep.Slices
import Derived.ProofKit
import Derived.Lib.SmallJoins
import Derived.Deep.Strs
namespace Go.Proofs.Ytkdnnekdldomeaa
open Go.ChangeShapes Go.WideShapes Go.ChangeAt Go.RowKit Go.Joins
theorem own : ownKnob Try.prog.godebug = none := by kernel_rfl
theorem laidOut : laidOutB Try.prog = true := by kernel_rfl
theorem u64_back {a : Int} (h : (Lit.int .u64 a).wf = true) : ∃ x : UInt64, a = (x.toNat : Int) := by
  simp [Lit.wf, IntKind.min, IntKind.max, IntKind.signed, IntKind.bits] at h
  exact ⟨UInt64.ofNat a.toNat, by rw [toNat_ofNat_lt (by omega)]; omega⟩
theorem u8_back {a : Int} (h : (Lit.int .u8 a).wf = true) : ∃ x : UInt8, a = (x.toNat : Int) := by
  simp [Lit.wf, IntKind.min, IntKind.max, IntKind.signed, IntKind.bits] at h
  exact ⟨UInt8.ofNat a.toNat, by rw [UInt8.toNat_ofNat']; omega⟩
theorem choose_list {α : Type} {p : Nat → α → Prop} : ∀ (n : Nat), (∀ i, i < n → ∃ x, p i x) → ∃ l : List α, l.length = n ∧ ∀ i x, l[i]? = some x → p i x
  | 0, _ => ⟨[], rfl, by simp⟩
  | n + 1, h => by
    obtain ⟨l, hl, hp⟩ := choose_list n fun i hi => h i (by omega)
    obtain ⟨x, hx⟩ := h n (by omega)
    refine ⟨l ++ [x], by simp [hl], fun i y hy => ?_⟩
    rcases Nat.lt_or_ge i n with hi | hi
    · rw [List.getElem?_append_left (by omega)] at hy; exact hp i y hy
    · have hlt := (List.getElem?_eq_some_iff.1 hy).1
      have : i = n := by simp at hlt; omega
      subst this
      rw [List.getElem?_append_right (by omega), hl] at hy
      simp at hy
      subst hy
      exact hx
theorem u64_cell1 : Try.prog.cellsOf 22 = 1 := by kernel_rfl
theorem u8_cell1 : Try.prog.cellsOf 5 = 1 := by kernel_rfl
theorem int_cell1 : Try.prog.cellsOf 3 = 1 := by kernel_rfl
theorem u64s_cell1 : Try.prog.cellsOf 36 = 1 := by kernel_rfl
theorem u8s_cell1 : Try.prog.cellsOf 33 = 1 := by kernel_rfl
theorem outs_cell1 : Try.prog.cellsOf 37 = 1 := by kernel_rfl
theorem txs_cell1 : Try.prog.cellsOf 23 = 1 := by kernel_rfl
theorem arr2_cells : Try.prog.cellsOf 62 = 2 := by kernel_rfl
theorem out_cells4 : Try.prog.cellsOf 64 = 4 := by kernel_rfl
theorem tx_cells10 : Try.prog.cellsOf 39 = 10 := by kernel_rfl
theorem blk_cells6 : Try.prog.cellsOf 25 = 6 := by kernel_rfl
section
variable {H : Type} {enc : TypeId × Value → H} {W : World} {base : Nat} {sp : Nat → Bool} {held : Bool}
theorem open_u64 {n : Nat} {v : Value} {x : DataW H × List MemPlace} (h : DataW.trod enc Try.prog W base sp held n 22 [v] = some x) : ∃ a : UInt64, v = uv a := by
  obtain ⟨a, e0, hd0, wa⟩ := DataW.trod_int Try.underlying22 h
  simp only [List.cons.injEq, and_true] at e0
  subst e0
  obtain ⟨a, rfl⟩ := u64_back wa
  exact ⟨a, rfl⟩
theorem open_u8 {n : Nat} {v : Value} {x : DataW H × List MemPlace} (h : DataW.trod enc Try.prog W base sp held n 5 [v] = some x) : ∃ a : UInt8, v = .int .u8 (a.toNat : Int) := by
  obtain ⟨a, e0, hd0, wa⟩ := DataW.trod_int Try.underlying5 h
  simp only [List.cons.injEq, and_true] at e0
  subst e0
  obtain ⟨a, rfl⟩ := u8_back wa
  exact ⟨a, rfl⟩
theorem open_int {n : Nat} {v : Value} {x : DataW H × List MemPlace} (h : DataW.trod enc Try.prog W base sp held n 3 [v] = some x) : ∃ a : Int, v = .int .i64 a := by
  obtain ⟨a, e0, hd0, wa⟩ := DataW.trod_int Try.underlying3 h
  simp only [List.cons.injEq, and_true] at e0
  exact ⟨a, e0⟩
set_option maxRecDepth 100000 in
theorem open_rows {α : Type} {f : α → List Value} {R : α → Prop} {k : Nat} {t e : TypeId} (ht : Try.prog.underlying t = some (.slice e)) (hk : Try.prog.cellsOf e = k) (hk0 : 0 < k) (hf : ∀ x, (f x).length = k)
    (hel : ∀ (n : Nat) (cs : List Value) (x : DataW H × List MemPlace), cs.length = k → DataW.trod enc Try.prog W base sp held n e cs = some x → ∃ y : α, cs = f y ∧ R y)
    {n : Nat} {v : Value} {x : DataW H × List MemPlace} (h : DataW.trod enc Try.prog W base sp held n t [v] = some x) : ∃ X : List α, RdC' W v X.length (X.flatMap f) ∧ ∀ x ∈ X, R x := by
  rcases Go.Deep.open_slice ht h with ⟨hc, -⟩ | ⟨a, len, cap, m, n', D, Pl, hc, hb, hl, hm, hmm, -, hx⟩
  · simp only [List.cons.injEq, and_true] at hc
    subst hc
    exact ⟨[], (RdC.nil W).weak, by simp⟩
  · simp only [List.cons.injEq, and_true] at hc
    subst hc
    have hlm : len ≤ m := by rw [hmm]; split <;> omega
    obtain ⟨X, hX, hp⟩ := choose_list (α := α) (p := fun i y => R y ∧ ∀ j, j < k → W.cell? (a.add (i * k + j)) = (f y)[j]?) len (fun i hi => by
      obtain ⟨cs', hcs, htr⟩ := hx i (by omega)
      rw [hk] at hcs
      obtain ⟨_, hlen, hcell⟩ := World.cells?_some hcs
      obtain ⟨y, rfl, hy⟩ := hel _ _ _ hlen htr
      refine ⟨y, hy, fun j hj => ?_⟩
      rw [← hcell j hj, Addr.add_add])
    subst hX
    refine ⟨X, ⟨some a, cap, rfl, hl, hm, (fun h => by cases h), fun ad ha j u hu => ?_⟩, fun x hx => ?_⟩
    · injection ha with ha
      subst ha
      have hj : j < X.length * k := by
        have := (List.getElem?_eq_some_iff.1 hu).1
        rwa [flat_len hf] at this
      have hi : j / k < X.length := Nat.div_lt_of_lt_mul (by rw [Nat.mul_comm]; exact hj)
      have hr : j % k < k := Nat.mod_lt _ hk0
      have he : j / k * k + j % k = j := by rw [Nat.mul_comm]; exact Nat.div_add_mod j k
      have h1 := (hp (j / k) _ (List.getElem?_eq_getElem hi)).2 (j % k) hr
      have h2 := flat_at hf X (j / k) (List.getElem?_eq_getElem hi) (j % k) hr
      rw [he] at h1 h2
      rw [h1, ← h2, hu]
    · obtain ⟨i, hi, rfl⟩ := List.getElem_of_mem hx
      exact (hp i _ (List.getElem?_eq_getElem hi)).1
theorem flat1 {α : Type} (g : α → Value) (X : List α) : X.flatMap (fun x => [g x]) = X.map g := by
  induction X with
  | nil => rfl
  | cons x r ih => rw [List.flatMap_cons, ih]; rfl
theorem open_u64s {n : Nat} {v : Value} {x : DataW H × List MemPlace} (h : DataW.trod enc Try.prog W base sp held n 36 [v] = some x) : ∃ l : List UInt64, RdU' W v l := by
  obtain ⟨X, h1, -⟩ := open_rows (f := fun x : UInt64 => [uv x]) (R := fun _ => True) Try.underlying36 u64_cell1 (by omega) (fun _ => rfl) (fun n cs x hl hx => by
    match cs, hl with
    | [c], _ => obtain ⟨a, rfl⟩ := open_u64 hx; exact ⟨a, rfl, trivial⟩) h
  rw [flat1] at h1
  exact ⟨X, h1⟩
theorem open_u8s {n : Nat} {v : Value} {x : DataW H × List MemPlace} (h : DataW.trod enc Try.prog W base sp held n 33 [v] = some x) : ∃ l : List UInt8, RdB' W v l := by
  obtain ⟨X, h1, -⟩ := open_rows (f := fun x : UInt8 => [.int .u8 (x.toNat : Int)]) (R := fun _ => True) Try.underlying33 u8_cell1 (by omega) (fun _ => rfl) (fun n cs x hl hx => by
    match cs, hl with
    | [c], _ => obtain ⟨a, rfl⟩ := open_u8 hx; exact ⟨a, rfl, trivial⟩) h
  rw [flat1] at h1
  exact ⟨X, h1⟩
set_option maxRecDepth 100000 in
theorem e2_of_cells {n : Nat} {c0 c1 : Value} {x : DataW H × List MemPlace} (h : DataW.trod enc Try.prog W base sp held n 62 [c0, c1] = some x) : ∃ y : E2, c0 = uv y.a ∧ c1 = uv y.b := by
  have ht : Try.prog.underlying 62 = some (.array 2 22) := by kernel_rfl
  obtain ⟨xs, m, -, -, -, hl, hx⟩ := DataW.trod_array ht h
  have h0 := hx 0 (by omega)
  have h1 := hx 1 (by omega)
  rw [u64_cell1, List.getElem?_eq_getElem (by omega)] at h0 h1
  obtain ⟨a, rfl⟩ := open_u64 (v := c0) (by simpa [Value.cells] using h0)
  obtain ⟨b, rfl⟩ := open_u64 (v := c1) (by simpa [Value.cells] using h1)
  exact ⟨⟨a, b⟩, rfl, rfl⟩
set_option maxRecDepth 100000 in
theorem out_of_cells {n : Nat} {cs : List Value} {x : DataW H × List MemPlace} (hl : cs.length = 4) (h : DataW.trod enc Try.prog W base sp held n 64 cs = some x) : ∃ y : OutT × Value, cs = outCells y ∧ RdU' W y.2 y.1.cipher := by
  obtain ⟨y0, y1, y2, m, -, -, h0, h1, h2⟩ := Go.Deep.trod_struct3 Try.underlying64 h
  match cs, hl with
  | [c0, c1, c2, c3], _ =>
    simp only [u64_cell1, arr2_cells, u64s_cell1] at h0 h1 h2
    obtain ⟨a, rfl⟩ := open_u64 (v := c0) h0
    obtain ⟨p, rfl, rfl⟩ := e2_of_cells (c0 := c1) (c1 := c2) h1
    obtain ⟨l, hl⟩ := open_u64s (v := c3) h2
    exact ⟨(⟨a, p, l⟩, c3), rfl, hl⟩
set_option maxRecDepth 100000 in
theorem open_outs {n : Nat} {v : Value} {x : DataW H × List MemPlace} (h : DataW.trod enc Try.prog W base sp held n 37 [v] = some x) : ∃ l : List OutT, RdOs W v l := by
  obtain ⟨X, h1, h2⟩ := open_rows (f := outCells) (R := fun y => RdU' W y.2 y.1.cipher) Try.underlying37 out_cells4 (by omega) outCells_len (fun n cs x hl hx => out_of_cells hl hx) h
  exact ⟨X.map (·.1), X, rfl, by rw [List.length_map]; exact h1, h2⟩
theorem fld {fs : Array Field} {cs : List Value} {xs : List (DataW H × List MemPlace)} {m : Nat} (hf : ∀ (i : Nat) (f : Field), fs[i]? = some f → DataW.trod enc Try.prog W base sp held m f.type ((cs.drop f.offset).take (Try.prog.cellsOf f.type)) = xs[i]?)
    (i : Nat) {f : Field} (hi : fs[i]? = some f) (hx : i < xs.length) (ty : TypeId) (off k : Nat) (h1 : f.type = ty) (h2 : f.offset = off) (hk : Try.prog.cellsOf ty = k) : DataW.trod enc Try.prog W base sp held m ty ((cs.drop off).take k) = some xs[i] := by
  subst h1 h2 hk
  rw [hf i f hi, List.getElem?_eq_getElem hx]
set_option maxRecDepth 100000 in
set_option maxHeartbeats 1000000 in
theorem tx_of_cells {n : Nat} {cs : List Value} {x : DataW H × List MemPlace} (hl : cs.length = 10) (h : DataW.trod enc Try.prog W base sp held n 39 cs = some x) : ∃ y : TxM, cs = txCells y ∧ RdT W y.1 y.2.1 y.2.2.1 y.2.2.2 := by
  obtain ⟨xs, m, -, -, -, hxs, hf⟩ := DataW.trod_struct Try.underlying39 h
  have hxl : xs.length = 10 := hxs
  match cs, hl with
  | [c0, c1, c2, c3, c4, c5, c6, c7, c8, c9], _ =>
    have h0 := fld hf 0 rfl (by omega) 22 0 1 rfl rfl u64_cell1
    have h1 := fld hf 1 rfl (by omega) 36 1 1 rfl rfl u64s_cell1
    have h2 := fld hf 2 rfl (by omega) 37 2 1 rfl rfl outs_cell1
    have h3 := fld hf 3 rfl (by omega) 22 3 1 rfl rfl u64_cell1
    have h4 := fld hf 4 rfl (by omega) 22 4 1 rfl rfl u64_cell1
    have h5 := fld hf 5 rfl (by omega) 22 5 1 rfl rfl u64_cell1
    have h6 := fld hf 6 rfl (by omega) 22 6 1 rfl rfl u64_cell1
    have h7 := fld hf 7 rfl (by omega) 22 7 1 rfl rfl u64_cell1
    have h8 := fld hf 8 rfl (by omega) 3 8 1 rfl rfl int_cell1
    have h9 := fld hf 9 rfl (by omega) 33 9 1 rfl rfl u8s_cell1
    obtain ⟨a0, rfl⟩ := open_u64 (v := c0) h0
    obtain ⟨a1, m1⟩ := open_u64s (v := c1) h1
    obtain ⟨a2, m2⟩ := open_outs (v := c2) h2
    obtain ⟨a3, rfl⟩ := open_u64 (v := c3) h3
    obtain ⟨a4, rfl⟩ := open_u64 (v := c4) h4
    obtain ⟨a5, rfl⟩ := open_u64 (v := c5) h5
    obtain ⟨a6, rfl⟩ := open_u64 (v := c6) h6
    obtain ⟨a7, rfl⟩ := open_u64 (v := c7) h7
    obtain ⟨a8, rfl⟩ := open_int (v := c8) h8
    obtain ⟨a9, m9⟩ := open_u8s (v := c9) h9
    exact ⟨(⟨a0, a1, a2, a3, a4, a5, a6, a7, a8, a9⟩, c1, c2, c9), rfl, ⟨m1, m2, m9⟩⟩
set_option maxRecDepth 100000 in
theorem open_txs {n : Nat} {v : Value} {x : DataW H × List MemPlace} (h : DataW.trod enc Try.prog W base sp held n 23 [v] = some x) : ∃ l : List TxT, RdTs W v l := by
  obtain ⟨X, h1, h2⟩ := open_rows (f := txCells) (R := fun y => RdT W y.1 y.2.1 y.2.2.1 y.2.2.2) Try.underlying23 tx_cells10 (by omega) txCells_len (fun n cs x hl hx => tx_of_cells hl hx) h
  exact ⟨X.map (·.1), X, rfl, by rw [List.length_map]; exact h1, h2⟩
set_option maxRecDepth 100000 in
theorem open_block {r : Reach} {v : Value} {d : DataW H} {p : List MemPlace} {b0 : Nat} (hv : Value.okWide Try.prog W r b0 25 v) {b' : Nat} (h : DataW.Trod enc Try.prog W b' sp held 25 v d p) : ∃ (b : BlkT) (tv : Value), v = blkVal b tv ∧ RdTs W tv b.txs := by
  obtain ⟨cs, rfl, hsz⟩ := okWide_struct Try.underlying25 hv
  rw [blk_cells6] at hsz
  obtain ⟨fuel, hf⟩ := h
  obtain ⟨cl⟩ := cs
  obtain ⟨xs, m, -, -, -, hxs, hf⟩ := DataW.trod_struct Try.underlying25 hf
  have hxl : xs.length = 6 := hxs
  match cl, hsz with
  | [c0, c1, c2, c3, c4, c5], _ =>
    have h0 := fld hf 0 rfl (by omega) 22 0 1 rfl rfl u64_cell1
    have h1 := fld hf 1 rfl (by omega) 3 1 1 rfl rfl int_cell1
    have h2 := fld hf 2 rfl (by omega) 22 2 1 rfl rfl u64_cell1
    have h3 := fld hf 3 rfl (by omega) 22 3 1 rfl rfl u64_cell1
    have h4 := fld hf 4 rfl (by omega) 22 4 1 rfl rfl u64_cell1
    have h5 := fld hf 5 rfl (by omega) 23 5 1 rfl rfl txs_cell1
    obtain ⟨a0, rfl⟩ := open_u64 (v := c0) h0
    obtain ⟨a1, rfl⟩ := open_int (v := c1) h1
    obtain ⟨a2, rfl⟩ := open_u64 (v := c2) h2
    obtain ⟨a3, rfl⟩ := open_u64 (v := c3) h3
    obtain ⟨a4, rfl⟩ := open_u64 (v := c4) h4
    obtain ⟨a5, m5⟩ := open_txs (v := c5) h5
    exact ⟨⟨a0, a1, a2, a3, a4, a5⟩, c5, rfl, m5⟩
end
end Go.Proofs.Ytkdnnekdldomeaa
