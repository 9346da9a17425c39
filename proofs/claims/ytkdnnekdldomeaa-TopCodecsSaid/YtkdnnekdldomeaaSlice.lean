/- Slices: a value that reads as a list of cells (RdC), a slice of the call's own (ownsRow with base 0), append of the one to the other. Maps with string keys (and with keys of 64-bit numbers) as lists of pairs: what a look-up gives, what an update leaves. -/
import Derived.Test.YtkdnnekdldomeaaBase
namespace Go.Proofs.Ytkdnnekdldomeaa
open Go.RowKit

/-- The slice value v reads as n elements, whose cells are 'cells'. -/
def RdC (w : World) (v : Value) (n : Nat) (cells : List Value) : Prop :=
  ∃ a c, v = .slice a n c ∧ n ≤ c ∧ c ≤ maxLen ∧ (a = none → c = 0) ∧
    ∀ ad, a = some ad → ad.spot = none ∧ ∀ j u, cells[j]? = some u → w.cell? ⟨ad.block, ad.off + j, none⟩ = some u

/-- The block that a slice value points into. -/
abbrev blk (v : Value) : Option Nat := v.ownBlock

theorem RdC.of_cells {w w' : World} {v : Value} {n : Nat} {cells : List Value} (h : RdC w v n cells) (hb : ∀ k, blk v = some k → cells ≠ [] → w'.heap[k]? = w.heap[k]?) : RdC w' v n cells := by
  obtain ⟨a, c, rfl, h2, h3, h4, h5⟩ := h
  refine ⟨a, c, rfl, h2, h3, h4, fun ad ha => ⟨(h5 ad ha).1, fun j u hu => ?_⟩⟩
  subst ha
  rw [World.cell?_of_block (w := w) (a := ⟨ad.block, ad.off + j, none⟩) (hb ad.block rfl (by rintro rfl; simp at hu))]
  exact (h5 ad rfl).2 j u hu
theorem RdC.lt {w : World} {v : Value} {n : Nat} {cells : List Value} (h : RdC w v n cells) {k : Nat} (hk : blk v = some k) (hc : cells ≠ []) : k < w.heap.size := by
  obtain ⟨a, c, rfl, _, _, _, h5⟩ := h
  cases a with
  | none => simp [Value.ownBlock] at hk
  | some ad =>
    simp only [Value.ownBlock, Option.some.injEq] at hk
    subst hk
    cases cells with
    | nil => exact absurd rfl hc
    | cons x r => exact cell_lt ((h5 ad rfl).2 0 x rfl)
theorem RdC.ext {w w' : World} {v : Value} {n : Nat} {cells : List Value} (h : RdC w v n cells) (k : Ext w w') : RdC w' v n cells :=
  h.of_cells fun b hb hc => k.block b (h.lt hb hc)
theorem RdC.kp {F : Nat → Prop} {w w' : World} {v : Value} {n : Nat} {cells : List Value} (h : RdC w v n cells) (k : Kp F w w') (hF : ∀ b, blk v = some b → ¬ F b) : RdC w' v n cells :=
  h.of_cells fun b hb hc => k.block b (h.lt hb hc) (hF b hb)
theorem RdC.nil (w : World) : RdC w (.slice none 0 0) 0 [] := ⟨none, 0, rfl, Nat.le_refl _, Nat.zero_le _, fun _ => rfl, fun ad h => by cases h⟩

theorem ownsRow_rd {w : World} {e : TypeId} {size n : Nat} {v : Value} {xs : List Value} (h : w.ownsRow 0 e size v n xs) : RdC w v n xs := by
  have h0 := h
  rcases h.2 with ⟨rfl, rfl⟩ | ⟨g, cap, cur, rfl, _, hg, hnc, hcm, hcs, ht⟩
  · have : xs = [] := List.eq_nil_of_length_eq_zero (by simpa using h.1)
    subst this; exact .nil w
  · refine ⟨some ⟨g, 0, none⟩, cap, rfl, hnc, hcm, (fun h => by cases h), fun ad ha => ?_⟩
    obtain rfl := Option.some.inj ha
    refine ⟨rfl, fun j u hu => ?_⟩
    have := h0.cells (g := g) rfl j u hu
    simpa [Addr.add_lit] using this
theorem ownsRow_lt {w : World} {e : TypeId} {size n : Nat} {v : Value} {xs : List Value} (h : w.ownsRow 0 e size v n xs) {k : Nat} (hk : blk v = some k) : k < w.heap.size := (h.lt k hk).2
theorem ownsRow_of {w w' : World} {e : TypeId} {size n : Nat} {v : Value} {xs : List Value} (h : w.ownsRow 0 e size v n xs) (hb : ∀ k, blk v = some k → w'.heap[k]? = w.heap[k]?) : w'.ownsRow 0 e size v n xs := by
  refine ⟨h.1, ?_⟩
  rcases h.2 with h2 | ⟨g, cap, cur, rfl, h3, hg, r⟩
  · exact .inl h2
  · exact .inr ⟨g, cap, cur, rfl, h3, (hb g rfl).trans hg, r⟩
theorem ownsRow_ext {w w' : World} {e : TypeId} {size n : Nat} {v : Value} {xs : List Value} (h : w.ownsRow 0 e size v n xs) (k : Ext w w') : w'.ownsRow 0 e size v n xs :=
  ownsRow_of h fun b hb => k.block b (ownsRow_lt h hb)
theorem ownsRow_kp {F : Nat → Prop} {w w' : World} {e : TypeId} {size n : Nat} {v : Value} {xs : List Value} (h : w.ownsRow 0 e size v n xs) (k : Kp F w w') (hF : ∀ b, blk v = some b → ¬ F b) : w'.ownsRow 0 e size v n xs :=
  ownsRow_of h fun b hb => k.block b (ownsRow_lt h hb) (hF b hb)
theorem grown_kp {w w' : World} {row : Option Nat} (h : w.grownBy w' row) : Kp (fun k => some k = row) w w' :=
  ⟨h.os, h.tape, h.output, h.size, fun k hk hF => h.block k hk hF⟩

theorem Kp.trans2 {F G : Nat → Prop} {a b c : World} (h : Kp F a b) (k : Kp G b c) (hG : ∀ i, i < a.heap.size → G i → F i) : Kp F a c :=
  ⟨k.os.trans h.os, k.tape.trans h.tape, k.output.trans h.output, Nat.le_trans h.size k.size, fun i hi hF => (k.block i (Nat.lt_of_lt_of_le hi h.size) (fun hg => hF (hG i hi hg))).trans (h.block i hi hF)⟩
/-- A slice of one element that was just made. -/
theorem RdC.new1 (w : World) (c : Value) (T : TypeId) : RdC (w.alloc (.cells #[c] T)) (.slice (some ⟨w.heap.size, 0, none⟩) 1 1) 1 [c] := by
  refine ⟨_, 1, rfl, Nat.le_refl _, by unfold maxLen; omega, (fun h => by cases h), fun ad ha => ?_⟩
  obtain rfl := Option.some.inj ha
  refine ⟨rfl, fun j u hu => ?_⟩
  rw [cell_of (heap_new _ _)]
  cases j with
  | zero => simpa using hu
  | succ j => simp at hu
/-- The same, where nothing is said of an empty slice's address. -/
def RdC' (w : World) (v : Value) (n : Nat) (cells : List Value) : Prop :=
  ∃ a c, v = .slice a n c ∧ n ≤ c ∧ c ≤ maxLen ∧ (a = none → c = 0) ∧ ∀ ad, a = some ad → ∀ j u, cells[j]? = some u → w.cell? (ad.add j) = some u
theorem RdC.weak {w : World} {v : Value} {n : Nat} {cells : List Value} (h : RdC w v n cells) : RdC' w v n cells := by
  obtain ⟨a, c, rfl, h2, h3, h4, h5⟩ := h
  refine ⟨a, c, rfl, h2, h3, h4, fun ad ha j u hu => ?_⟩
  obtain ⟨hsp, hc⟩ := h5 ad ha
  have := hc j u hu
  have e : ad.add j = ⟨ad.block, ad.off + j, none⟩ := by
    cases ad; simp only at hsp; subst hsp; exact Addr.add_lit _ _ _
  rw [e]; exact this
section
variable {P : Program}
theorem run_app' (w : World) (t ty e : TypeId) (i : TypeInfo) (z : Value) (size bytes : Nat) (ht : P.underlying t = some (.slice e)) (hi : P.info? e = some i) (hz : i.zero = some z)
    (hsize : i.size = size) (hby : i.bytes = bytes) (hzs : z.cells.size = size) (hsz : 0 < size)
    (v : Value) (n : Nat) (xs : List Value) (hown : w.ownsRow 0 e size v n xs) (y : Value) (m : Nat) (news : List Value) (hy : RdC' w y m news) (hl : news.length = m * size) (h1 : ∀ u ∈ news, u.oneCell' = true)
    (h63 : n + m ≤ maxLen) (hbytes : (n + m) * bytes ≤ 140737488355328) :
    ∃ v' w', (Builtin.append_ #[t, t] ty #[v, y]).run P w = .ok v' w' ∧ w'.ownsRow 0 e size v' (n + m) (xs ++ news) ∧ w.grownBy w' v.ownBlock ∧
      (blk v' = blk v ∨ blk v' = some w.heap.size) := by
  obtain ⟨a, c, rfl, hmc, hcm, hnil, hcell⟩ := hy
  cases a with
  | none =>
    obtain rfl : c = 0 := hnil rfl
    obtain rfl : m = 0 := by omega
    have hn : news = [] := List.eq_nil_of_length_eq_zero (by simpa using hl)
    subst hn
    exact ⟨v, w, run_append_owned_none (P := P) w 0 t ty e i size ht hi v n xs hown, by simpa using hown, ⟨rfl, rfl, rfl, Nat.le_refl _, fun _ _ _ => rfl⟩, .inl rfl⟩
  | some ad =>
    have hnews : ∀ j u, news[j]? = some u → w.cell? (ad.add j) = some u := hcell ad rfl
    obtain ⟨v', w', hr, h2, h3, h4⟩ := run_append_own (P := P) w 0 t ty e i z size bytes ht hi hz hsize hby hzs hsz v n xs hown ad m c news hl hnews h1 h63 hbytes (Nat.zero_le _)
    refine ⟨v', w', hr, h2, h3, ?_⟩
    have hsmall : n + m ≤ 9223372036854775807 := by simp only [maxLen] at h63; omega
    subst hsize hby
    rcases hown.2 with ⟨rfl, rfl⟩ | ⟨g, cap, cur, rfl, _, hg, hnc, _, hcs, htake⟩
    · by_cases hm : m = 0
      · exact .inl (by rw [(h4.2 ⟨rfl, hm⟩)])
      · have hr2 := run_append_nil (P := P) w t ty e i z ht hi hz ad m c news hl hnews (by omega) (by omega) (by have hb := hbytes; simp only [Nat.zero_add] at hb; omega)
        rw [hr] at hr2
        injection hr2 with e1 e2
        exact .inr (by rw [e1]; rfl)
    · by_cases hroom : n + m ≤ cap
      · have hfit : n * i.size + news.length ≤ cur.size := by rw [hl, hcs, ← Nat.add_mul]; exact Nat.mul_le_mul_right _ hroom
        have hr2 := run_append_room (P := P) w t ty e i ht hi g n cap cur hg ad m c news hl hnews h1 hroom hfit
        rw [hr] at hr2
        injection hr2 with e1 e2
        exact .inl (by rw [e1]; rfl)
      · have holds : ∀ j u, xs[j]? = some u → w.cell? ((⟨g, 0, none⟩ : Addr).add j) = some u := hown.cells (g := g) rfl
        have hr2 := run_append_grow (P := P) w t ty e i z ht hi hz ⟨g, 0, none⟩ n cap xs hown.1 holds ad m c news hl hnews (by omega) (by omega) (growslice_fits (by omega) hbytes)
        rw [hr] at hr2
        injection hr2 with e1 e2
        exact .inr (by rw [e1]; rfl)

theorem wp_app' {w : World} {o : Oper} {a : Act} {K : Act → World → Prop} {Q : Exit → Act → World → Prop} (s x : Operand) (t : TypeId)
    (ho : o.op = .call { callee := .builtin .append, args := #[s, x], argTypes := #[t, t] })
    (e : TypeId) (i : TypeInfo) (z : Value) (size bytes : Nat) (ht : P.underlying t = some (.slice e)) (hi : P.info? e = some i) (hz : i.zero = some z)
    (hsize : i.size = size) (hby : i.bytes = bytes) (hzs : z.cells.size = size) (hsz : 0 < size)
    (v : Value) (n : Nat) (xs : List Value) (hs : a.eval s = v) (hown : w.ownsRow 0 e size v n xs) (y : Value) (m : Nat) (news : List Value) (hx : a.eval x = y) (hy : RdC' w y m news)
    (hl : news.length = m * size) (h1 : ∀ u ∈ news, u.oneCell' = true) (h63 : n + m ≤ maxLen) (hbytes : (n + m) * bytes ≤ 140737488355328)
    (h : ∀ v' w', w'.ownsRow 0 e size v' (n + m) (xs ++ news) → Kp (fun k => some k = blk v) w w' → (blk v' = blk v ∨ blk v' = some w.heap.size) → K (a.put o.dst v') w') : o.wp P a w K Q := by
  obtain ⟨v', w', hr, h2, h3, h4⟩ := run_app' (P := P) w t o.type e i z size bytes ht hi hz hsize hby hzs hsz v n xs hown y m news hy hl h1 h63 hbytes
  unfold Oper.wp execOp
  simp only [ho, resolve, invoke, builtin, Sem.run_bind, Sem.run_pure, Result.andThen_ok, List.map_toArray, List.map_cons, List.map_nil, hs, hx, hr]
  exact h v' w' h2 (grown_kp h3) h4

theorem wpList_app' {w : World} {ops : Array Oper} {rest : List Oper} {o : Oper} {a : Act} {Q : Exit → Act → World → Prop} (hgd : o.guard = none) (s x : Operand) (t : TypeId)
    (ho : o.op = .call { callee := .builtin .append, args := #[s, x], argTypes := #[t, t] })
    (e : TypeId) (i : TypeInfo) (z : Value) (size bytes : Nat) (ht : P.underlying t = some (.slice e)) (hi : P.info? e = some i) (hz : i.zero = some z)
    (hsize : i.size = size) (hby : i.bytes = bytes) (hzs : z.cells.size = size) (hsz : 0 < size)
    (v : Value) (n : Nat) (xs : List Value) (hs : a.eval s = v) (hown : w.ownsRow 0 e size v n xs) (y : Value) (m : Nat) (news : List Value) (hx : a.eval x = y) (hy : RdC' w y m news)
    (hl : news.length = m * size) (h1 : ∀ u ∈ news, u.oneCell' = true) (h63 : n + m ≤ maxLen) (hbytes : (n + m) * bytes ≤ 140737488355328)
    (h : ∀ v' w', w'.ownsRow 0 e size v' (n + m) (xs ++ news) → Kp (fun k => some k = blk v) w w' → (blk v' = blk v ∨ blk v' = some w.heap.size) → wpList P ops Q rest (a.put o.dst v') w') : wpList P ops Q (o :: rest) a w :=
  wpList_plain hgd fun _ hK => wp_app' s x t ho e i z size bytes ht hi hz hsize hby hzs hsz v n xs hs hown y m news hx hy hl h1 h63 hbytes fun v' w' h2 h3 h4 => hK _ _ (h v' w' h2 h3 h4)
theorem run_app (w : World) (t ty e : TypeId) (i : TypeInfo) (z : Value) (size bytes : Nat) (ht : P.underlying t = some (.slice e)) (hi : P.info? e = some i) (hz : i.zero = some z)
    (hsize : i.size = size) (hby : i.bytes = bytes) (hzs : z.cells.size = size) (hsz : 0 < size)
    (v : Value) (n : Nat) (xs : List Value) (hown : w.ownsRow 0 e size v n xs) (y : Value) (m : Nat) (news : List Value) (hy : RdC w y m news) (hl : news.length = m * size) (h1 : ∀ u ∈ news, u.oneCell' = true)
    (h63 : n + m ≤ maxLen) (hbytes : (n + m) * bytes ≤ 140737488355328) :
    ∃ v' w', (Builtin.append_ #[t, t] ty #[v, y]).run P w = .ok v' w' ∧ w'.ownsRow 0 e size v' (n + m) (xs ++ news) ∧ w.grownBy w' v.ownBlock ∧
      (blk v' = blk v ∨ blk v' = some w.heap.size) :=
  run_app' w t ty e i z size bytes ht hi hz hsize hby hzs hsz v n xs hown y m news hy.weak hl h1 h63 hbytes
theorem wp_app {w : World} {o : Oper} {a : Act} {K : Act → World → Prop} {Q : Exit → Act → World → Prop} (s x : Operand) (t : TypeId)
    (ho : o.op = .call { callee := .builtin .append, args := #[s, x], argTypes := #[t, t] })
    (e : TypeId) (i : TypeInfo) (z : Value) (size bytes : Nat) (ht : P.underlying t = some (.slice e)) (hi : P.info? e = some i) (hz : i.zero = some z)
    (hsize : i.size = size) (hby : i.bytes = bytes) (hzs : z.cells.size = size) (hsz : 0 < size)
    (v : Value) (n : Nat) (xs : List Value) (hs : a.eval s = v) (hown : w.ownsRow 0 e size v n xs) (y : Value) (m : Nat) (news : List Value) (hx : a.eval x = y) (hy : RdC w y m news)
    (hl : news.length = m * size) (h1 : ∀ u ∈ news, u.oneCell' = true) (h63 : n + m ≤ maxLen) (hbytes : (n + m) * bytes ≤ 140737488355328)
    (h : ∀ v' w', w'.ownsRow 0 e size v' (n + m) (xs ++ news) → Kp (fun k => some k = blk v) w w' → (blk v' = blk v ∨ blk v' = some w.heap.size) → K (a.put o.dst v') w') : o.wp P a w K Q :=
  wp_app' s x t ho e i z size bytes ht hi hz hsize hby hzs hsz v n xs hs hown y m news hx hy.weak hl h1 h63 hbytes h
theorem wpList_app {w : World} {ops : Array Oper} {rest : List Oper} {o : Oper} {a : Act} {Q : Exit → Act → World → Prop} (hgd : o.guard = none) (s x : Operand) (t : TypeId)
    (ho : o.op = .call { callee := .builtin .append, args := #[s, x], argTypes := #[t, t] })
    (e : TypeId) (i : TypeInfo) (z : Value) (size bytes : Nat) (ht : P.underlying t = some (.slice e)) (hi : P.info? e = some i) (hz : i.zero = some z)
    (hsize : i.size = size) (hby : i.bytes = bytes) (hzs : z.cells.size = size) (hsz : 0 < size)
    (v : Value) (n : Nat) (xs : List Value) (hs : a.eval s = v) (hown : w.ownsRow 0 e size v n xs) (y : Value) (m : Nat) (news : List Value) (hx : a.eval x = y) (hy : RdC w y m news)
    (hl : news.length = m * size) (h1 : ∀ u ∈ news, u.oneCell' = true) (h63 : n + m ≤ maxLen) (hbytes : (n + m) * bytes ≤ 140737488355328)
    (h : ∀ v' w', w'.ownsRow 0 e size v' (n + m) (xs ++ news) → Kp (fun k => some k = blk v) w w' → (blk v' = blk v ∨ blk v' = some w.heap.size) → wpList P ops Q rest (a.put o.dst v') w') : wpList P ops Q (o :: rest) a w :=
  wpList_app' hgd s x t ho e i z size bytes ht hi hz hsize hby hzs hsz v n xs hs hown y m news hx hy.weak hl h1 h63 hbytes h
end
end Go.Proofs.Ytkdnnekdldomeaa
namespace Go.Proofs.Ytkdnnekdldomeaa
open Go.RowKit
section
variable {P : Program}

/-- The first entry of a key. -/
def assoc {κ ν : Type} [BEq κ] (L : List (κ × ν)) (k : κ) : Option ν :=
  match L with
  | [] => none
  | x :: r => if x.1 == k then some x.2 else assoc r k
def assocSet {κ ν : Type} [BEq κ] (L : List (κ × ν)) (k : κ) (v : ν) : List (κ × ν) :=
  match L with
  | [] => [(k, v)]
  | x :: r => if x.1 == k then (x.1, v) :: r else x :: assocSet r k v

/-- Block m is a map whose entries are, in the order of their making, those of L, keys as 'key' writes them. -/
def KMap {κ : Type} (key : κ → Value) (w : World) (m : Nat) (L : List (κ × Value)) : Prop :=
  ∃ es clock, w.heap[m]? = some (.map es clock) ∧ es.toList.map (fun e => (e.key, e.val)) = L.map (fun x => (key x.1, x.2))

theorem KMap.of_heap {κ : Type} {key : κ → Value} {w w' : World} {m : Nat} {L : List (κ × Value)} (h : KMap key w m L) (he : w'.heap[m]? = w.heap[m]?) : KMap key w' m L := by
  obtain ⟨es, c, h1, h2⟩ := h; exact ⟨es, c, he.trans h1, h2⟩
theorem KMap.lt {κ : Type} {key : κ → Value} {w : World} {m : Nat} {L : List (κ × Value)} (h : KMap key w m L) : m < w.heap.size := by
  obtain ⟨es, c, h1, _⟩ := h; exact heap_lt h1
theorem KMap.made {κ : Type} {key : κ → Value} (w : World) : KMap key (w.alloc (.map #[] 0)) w.heap.size ([] : List (κ × Value)) := ⟨#[], 0, heap_new _ _, rfl⟩

/-- How a kind of keys is compared. -/
structure KeyLaw {κ : Type} [BEq κ] [LawfulBEq κ] (key : κ → Value) (d : TypeDesc) : Prop where
  same : ∀ a b, Instr.sameNow d (key a) (key b) = some (a == b)
  bits : ∀ a, Instr.sameBits 10000 (key a) (key a) = true
  check : ∀ (P : Program) (t : TypeId) (w : World) (e : Bool) (a : κ), P.underlying t = some d → (Instr.checkKey e 10000 t (key a)).run P w = .ok () w

variable {κ : Type} [BEq κ] [LawfulBEq κ] {key : κ → Value} {d : TypeDesc}

theorem findNow_none (hk : KeyLaw key d) (k : κ) : ∀ (es : List MapEntry) (L : List (κ × Value)) (i : Nat), es.map (fun e => (e.key, e.val)) = L.map (fun x => (key x.1, x.2)) → assoc L k = none →
    Instr.findNow d (key k) es i = some none
  | [], L, i, _, _ => rfl
  | e :: es, [], i, h, _ => by simp at h
  | e :: es, x :: L, i, h, ha => by
    simp only [List.map_cons, List.cons.injEq, Prod.mk.injEq] at h
    obtain ⟨⟨h1, h2⟩, h3⟩ := h
    simp only [assoc] at ha
    by_cases hx : x.1 == k
    · simp [hx] at ha
    · simp only [hx] at ha
      unfold Instr.findNow
      rw [h1, hk.same, show (k == x.1) = false from by
        rw [Bool.eq_false_iff]; intro h; exact hx (by rw [beq_iff_eq] at h ⊢; exact h.symm)]
      exact findNow_none hk k es L (i + 1) h3 ha

theorem findNow_some (hk : KeyLaw key d) (k : κ) (v : Value) : ∀ (es : List MapEntry) (L : List (κ × Value)) (i : Nat), es.map (fun e => (e.key, e.val)) = L.map (fun x => (key x.1, x.2)) → assoc L k = some v →
    ∃ j, Instr.findNow d (key k) es i = some (some (i + j, v)) ∧ (es[j]?).map (·.key) = some (key k) ∧
      ∀ u : Value, (es.modify j fun e => { e with key := key k, val := u }).map (fun e => (e.key, e.val)) = (assocSet L k u).map (fun x => (key x.1, x.2))
  | [], [], i, _, ha => by simp [assoc] at ha
  | [], x :: L, i, h, ha => by simp at h
  | e :: es, [], i, h, _ => by simp at h
  | e :: es, x :: L, i, h, ha => by
    simp only [List.map_cons, List.cons.injEq, Prod.mk.injEq] at h
    obtain ⟨⟨h1, h2⟩, h3⟩ := h
    simp only [assoc] at ha
    by_cases hx : x.1 == k
    · have hxk : x.1 = k := by rw [beq_iff_eq] at hx; exact hx
      simp only [hx, if_true, Option.some.injEq] at ha
      refine ⟨0, ?_, by simp [h1, hxk], fun u => ?_⟩
      · unfold Instr.findNow
        rw [h1, hk.same, hxk, show (k == k) = true from by simp, h2, ha]; rfl
      · simp [assocSet, hxk, h3]
    · simp only [hx] at ha
      obtain ⟨j, g1, g2, g3⟩ := findNow_some hk k v es L (i + 1) h3 ha
      refine ⟨j + 1, ?_, by simpa using g2, fun u => ?_⟩
      · unfold Instr.findNow
        rw [h1, hk.same, show (k == x.1) = false from by
          rw [Bool.eq_false_iff]; intro h; exact hx (by rw [beq_iff_eq] at h ⊢; exact h.symm)]
        simp only
        rw [g1, show i + 1 + j = i + (j + 1) from by omega]
      · simp only [List.modify_succ_cons, List.map_cons, assocSet]
        rw [g3 u]
        simp [hx, h1, h2]

theorem run_lookup (hk : KeyLaw key d) (w : World) (t tk te : TypeId) (z : Value) (ht : P.underlying t = some (.map tk te)) (htk : P.underlying tk = some d) (hz : (zeroValue te).run P w = .ok z w)
    (m : Nat) (L : List (κ × Value)) (hm : KMap key w m L) (k : κ) :
    (Instr.lookup t (.map (some m)) (key k) true).run P w = .ok (.tuple #[(assoc L k).getD z, .bool (assoc L k).isSome]) w := by
  obtain ⟨es, c, h1, h2⟩ := hm
  have hc := hk.check P tk w es.isEmpty k htk
  cases ha : assoc L k with
  | none => simp [Instr.lookup, run_underlying ht, MapKept.run_getObj_map h1, hc, Instr.findKey, run_underlying htk, findNow_none hk k es.toList L 0 h2 ha, hz, Result.andThen]
  | some v =>
    obtain ⟨j, g1, _⟩ := findNow_some hk k v es.toList L 0 h2 ha
    simp [Instr.lookup, run_underlying ht, MapKept.run_getObj_map h1, hc, Instr.findKey, run_underlying htk, g1, Result.andThen]

theorem run_update (hk : KeyLaw key d) (w : World) (t tk te : TypeId) (ht : P.underlying t = some (.map tk te)) (htk : P.underlying tk = some d)
    (m : Nat) (L : List (κ × Value)) (hm : KMap key w m L) (k : κ) (v : Value) :
    ∃ w', (Instr.mapUpdate t (.map (some m)) (key k) v).run P w = .ok () w' ∧ KMap key w' m (assocSet L k v) ∧ Kp (fun b => b = m) w w' := by
  obtain ⟨es, c, h1, h2⟩ := hm
  have hc := hk.check P tk w false k htk
  have hml := heap_lt h1
  have hset : ∀ o : Obj, (setObj m o).run P w = .ok () { w with heap := w.heap.setIfInBounds m o } := fun o => by
    simp [setObj, Sem.run, h1]
  have hkp : ∀ o : Obj, Kp (fun b => b = m) w { w with heap := w.heap.setIfInBounds m o } := fun o =>
    ⟨rfl, rfl, rfl, by simp, fun b _ hb => by simp [Ne.symm hb]⟩
  have hget : ∀ o : Obj, (w.heap.setIfInBounds m o)[m]? = some o := fun o => by simp [hml]
  cases ha : assoc L k with
  | none =>
    refine ⟨{ w with heap := w.heap.setIfInBounds m (.map (es.push { key := key k, val := v, born := c }) (c + 1)) }, ?_, ⟨_, _, hget _, ?_⟩, hkp _⟩
    · simp [Instr.mapUpdate, run_underlying ht, MapKept.run_getObj_map h1, hc, Instr.findKey, run_underlying htk, findNow_none hk k es.toList L 0 h2 ha, hset, Result.andThen]
    · have : ∀ L : List (κ × Value), assoc L k = none → assocSet L k v = L ++ [(k, v)] := by
        intro L
        induction L with
        | nil => intro _; rfl
        | cons x r ih =>
          intro h
          simp only [assoc] at h
          by_cases hx : x.1 == k
          · simp [hx] at h
          · simp only [hx] at h
            simp [assocSet, hx, ih h]
      rw [this L ha]
      simp [h2]
  | some v0 =>
    obtain ⟨j, g1, g2, g3⟩ := findNow_some hk k v0 es.toList L 0 h2 ha
    have hkey : ((es[j]?).map (·.key)).getD (key k) = key k := by
      have : es[j]? = es.toList[j]? := by simp
      rw [this, g2]; rfl
    refine ⟨{ w with heap := w.heap.setIfInBounds m (.map (es.modify j fun e => { e with key := key k, val := v }) c) }, ?_, ⟨_, _, hget _, ?_⟩, hkp _⟩
    · simp only [Nat.zero_add] at g1
      simp [Instr.mapUpdate, run_underlying ht, MapKept.run_getObj_map h1, hc, Instr.findKey, run_underlying htk, g1, hkey, Instr.keyThatStays, hk.bits, hset, Result.andThen]
    · rw [Array.toList_modify]; exact g3 v

theorem assoc_set_same (L : List (κ × Value)) (k : κ) (v : Value) : assoc (assocSet L k v) k = some v := by
  induction L with
  | nil => simp [assocSet, assoc]
  | cons x r ih => by_cases hx : x.1 == k <;> simp [assocSet, assoc, hx, ih]
theorem assoc_set_other (L : List (κ × Value)) (k k' : κ) (v : Value) (h : k' ≠ k) : assoc (assocSet L k v) k' = assoc L k' := by
  induction L with
  | nil => simp [assocSet, assoc, Ne.symm h]
  | cons x r ih =>
    by_cases hx : x.1 == k
    · have : x.1 = k := by rw [beq_iff_eq] at hx; exact hx
      simp [assocSet, assoc, this, Ne.symm h]
    · simp [assocSet, assoc, hx, ih]
end

instance lawfulBytes : LawfulBEq ByteArray where
  rfl {a} := by
    show (a.data == a.data) = true
    simp
  eq_of_beq {a b} h := by
    have : a.data = b.data := by
      have h' : (a.data == b.data) = true := h
      simpa using h'
    cases a; cases b; simpa using this
theorem keyStr : KeyLaw Value.string .string where
  same _ _ := rfl
  bits a := by simp [Instr.sameBits]
  check P t w e a h := by
    unfold Instr.checkKey
    simp [run_underlying h]
theorem keyU64 : KeyLaw (fun x : UInt64 => Value.int .u64 (x.toNat : Int)) (.int .u64) where
  same a b := by
    simp only [Instr.sameNow, if_true]
    congr 1
    rw [Bool.eq_iff_iff]
    simp only [beq_iff_eq]
    constructor
    · intro h; exact UInt64.toNat_inj.1 (by omega)
    · rintro rfl; rfl
  bits a := by simp [Instr.sameBits]
  check P t w e a h := by
    unfold Instr.checkKey
    simp [run_underlying h]
end Go.Proofs.Ytkdnnekdldomeaa
