/- Texts of this claim, joined: Slice, Bytes, Key, Orc, Rec. -/
import Derived.Laws.Bits64
import Derived.Deep.Heap
import Derived.Test.YtcikjcjfcanloaaGreatJr1
import Derived.Test.YtcikjcjfcanloaaGreatJr2
set_option linter.unusedSimpArgs false
namespace Go.Proofs.YtcikjcjfcanloaaGreat
open Go.RowKit
/-- The slice value v reads as n elements, whose cells are 'cells'. -/
def RdC (w : World) (v : Value) (n : Nat) (cells : List Value) : Prop :=
  ∃ a c, v = .slice a n c ∧ n ≤ c ∧ c ≤ maxLen ∧ (a = none → c = 0) ∧
    ∀ ad, a = some ad → ad.spot = none ∧ ∀ j u, cells[j]? = some u → w.cell? ⟨ad.block, ad.off + j, none⟩ = some u
/-- The block that a slice value points into. -/
abbrev blk (v : Value) : Option Nat := v.ownBlock
theorem RdC.of_cells {w w' : World} {v : Value} {n : Nat} {cells : List Value} (h : RdC w v n cells) (hb : ∀ k, blk v = some k → cells ≠ [] → w'.heap[k]? = w.heap[k]?) : RdC w' v n cells := by
  obtain ⟨a, c, rfl, h2, h3, h4, h5⟩ := h
  refine ⟨a, c, rfl, h2, h3, h4, fun ad ha => ⟨(h5 ad ha).1, fun j u hu => ?_⟩⟩
  subst ha
  rw [World.cell?_of_block (w := w) (a := ⟨ad.block, ad.off + j, none⟩) (hb ad.block rfl (by rintro rfl; simp at hu))]
  exact (h5 ad rfl).2 j u hu
theorem RdC.lt {w : World} {v : Value} {n : Nat} {cells : List Value} (h : RdC w v n cells) {k : Nat} (hk : blk v = some k) (hc : cells ≠ []) : k < w.heap.size := by
  obtain ⟨a, c, rfl, _, _, _, h5⟩ := h
  cases a with
  | none => simp [Value.ownBlock] at hk
  | some ad =>
    simp only [Value.ownBlock, Option.some.injEq] at hk
    subst hk
    cases cells with
    | nil => exact absurd rfl hc
    | cons x r => exact cell_lt ((h5 ad rfl).2 0 x rfl)
theorem RdC.ext {w w' : World} {v : Value} {n : Nat} {cells : List Value} (h : RdC w v n cells) (k : Ext w w') : RdC w' v n cells :=
  h.of_cells fun b hb hc => k.block b (h.lt hb hc)
theorem RdC.kp {F : Nat → Prop} {w w' : World} {v : Value} {n : Nat} {cells : List Value} (h : RdC w v n cells) (k : Kp F w w') (hF : ∀ b, blk v = some b → ¬ F b) : RdC w' v n cells :=
  h.of_cells fun b hb hc => k.block b (h.lt hb hc) (hF b hb)
theorem RdC.nil (w : World) : RdC w (.slice none 0 0) 0 [] := ⟨none, 0, rfl, Nat.le_refl _, Nat.zero_le _, fun _ => rfl, fun ad h => by cases h⟩
theorem ownsRow_rd {w : World} {e : TypeId} {size n : Nat} {v : Value} {xs : List Value} (h : w.ownsRow 0 e size v n xs) : RdC w v n xs := by
  have h0 := h
  rcases h.2 with ⟨rfl, rfl⟩ | ⟨g, cap, cur, rfl, _, hg, hnc, hcm, hcs, ht⟩
  · have : xs = [] := List.eq_nil_of_length_eq_zero (by simpa using h.1)
    subst this; exact .nil w
  · refine ⟨some ⟨g, 0, none⟩, cap, rfl, hnc, hcm, (fun h => by cases h), fun ad ha => ?_⟩
    obtain rfl := Option.some.inj ha
    refine ⟨rfl, fun j u hu => ?_⟩
    have := h0.cells (g := g) rfl j u hu
    simpa [Addr.add_lit] using this
theorem ownsRow_lt {w : World} {e : TypeId} {size n : Nat} {v : Value} {xs : List Value} (h : w.ownsRow 0 e size v n xs) {k : Nat} (hk : blk v = some k) : k < w.heap.size := (h.lt k hk).2
theorem ownsRow_of {w w' : World} {e : TypeId} {size n : Nat} {v : Value} {xs : List Value} (h : w.ownsRow 0 e size v n xs) (hb : ∀ k, blk v = some k → w'.heap[k]? = w.heap[k]?) : w'.ownsRow 0 e size v n xs := by
  refine ⟨h.1, ?_⟩
  rcases h.2 with h2 | ⟨g, cap, cur, rfl, h3, hg, r⟩
  · exact .inl h2
  · exact .inr ⟨g, cap, cur, rfl, h3, (hb g rfl).trans hg, r⟩
theorem ownsRow_ext {w w' : World} {e : TypeId} {size n : Nat} {v : Value} {xs : List Value} (h : w.ownsRow 0 e size v n xs) (k : Ext w w') : w'.ownsRow 0 e size v n xs :=
  ownsRow_of h fun b hb => k.block b (ownsRow_lt h hb)
theorem ownsRow_kp {F : Nat → Prop} {w w' : World} {e : TypeId} {size n : Nat} {v : Value} {xs : List Value} (h : w.ownsRow 0 e size v n xs) (k : Kp F w w') (hF : ∀ b, blk v = some b → ¬ F b) : w'.ownsRow 0 e size v n xs :=
  ownsRow_of h fun b hb => k.block b (ownsRow_lt h hb) (hF b hb)
theorem grown_kp {w w' : World} {row : Option Nat} (h : w.grownBy w' row) : Kp (fun k => some k = row) w w' :=
  ⟨h.os, h.tape, h.output, h.size, fun k hk hF => h.block k hk hF⟩
theorem Kp.trans2 {F G : Nat → Prop} {a b c : World} (h : Kp F a b) (k : Kp G b c) (hG : ∀ i, i < a.heap.size → G i → F i) : Kp F a c :=
  ⟨k.os.trans h.os, k.tape.trans h.tape, k.output.trans h.output, Nat.le_trans h.size k.size, fun i hi hF => (k.block i (Nat.lt_of_lt_of_le hi h.size) (fun hg => hF (hG i hi hg))).trans (h.block i hi hF)⟩
/-- A slice of one element that was just made. -/
theorem RdC.new1 (w : World) (c : Value) (T : TypeId) : RdC (w.alloc (.cells #[c] T)) (.slice (some ⟨w.heap.size, 0, none⟩) 1 1) 1 [c] := by
  refine ⟨_, 1, rfl, Nat.le_refl _, by unfold maxLen; omega, (fun h => by cases h), fun ad ha => ?_⟩
  obtain rfl := Option.some.inj ha
  refine ⟨rfl, fun j u hu => ?_⟩
  rw [cell_of (heap_new _ _)]
  cases j with
  | zero => simpa using hu
  | succ j => simp at hu
/-- The same, where nothing is said of an empty slice's address. -/
def RdC' (w : World) (v : Value) (n : Nat) (cells : List Value) : Prop :=
  ∃ a c, v = .slice a n c ∧ n ≤ c ∧ c ≤ maxLen ∧ (a = none → c = 0) ∧ ∀ ad, a = some ad → ∀ j u, cells[j]? = some u → w.cell? (ad.add j) = some u
theorem RdC.weak {w : World} {v : Value} {n : Nat} {cells : List Value} (h : RdC w v n cells) : RdC' w v n cells := by
  obtain ⟨a, c, rfl, h2, h3, h4, h5⟩ := h
  refine ⟨a, c, rfl, h2, h3, h4, fun ad ha j u hu => ?_⟩
  obtain ⟨hsp, hc⟩ := h5 ad ha
  have := hc j u hu
  have e : ad.add j = ⟨ad.block, ad.off + j, none⟩ := by
    cases ad; simp only at hsp; subst hsp; exact Addr.add_lit _ _ _
  rw [e]; exact this
section
variable {P : Program}
theorem run_app' (w : World) (t ty e : TypeId) (i : TypeInfo) (z : Value) (size bytes : Nat) (ht : P.underlying t = some (.slice e)) (hi : P.info? e = some i) (hz : i.zero = some z)
    (hsize : i.size = size) (hby : i.bytes = bytes) (hzs : z.cells.size = size) (hsz : 0 < size)
    (v : Value) (n : Nat) (xs : List Value) (hown : w.ownsRow 0 e size v n xs) (y : Value) (m : Nat) (news : List Value) (hy : RdC' w y m news) (hl : news.length = m * size) (h1 : ∀ u ∈ news, u.oneCell' = true)
    (h63 : n + m ≤ maxLen) (hbytes : (n + m) * bytes ≤ 140737488355328) :
    ∃ v' w', (Builtin.append_ #[t, t] ty #[v, y]).run P w = .ok v' w' ∧ w'.ownsRow 0 e size v' (n + m) (xs ++ news) ∧ w.grownBy w' v.ownBlock ∧
      (blk v' = blk v ∨ blk v' = some w.heap.size) := by
  obtain ⟨a, c, rfl, hmc, hcm, hnil, hcell⟩ := hy
  cases a with
  | none =>
    obtain rfl : c = 0 := hnil rfl
    obtain rfl : m = 0 := by omega
    have hn : news = [] := List.eq_nil_of_length_eq_zero (by simpa using hl)
    subst hn
    exact ⟨v, w, run_append_owned_none (P := P) w 0 t ty e i size ht hi v n xs hown, by simpa using hown, ⟨rfl, rfl, rfl, Nat.le_refl _, fun _ _ _ => rfl⟩, .inl rfl⟩
  | some ad =>
    have hnews : ∀ j u, news[j]? = some u → w.cell? (ad.add j) = some u := hcell ad rfl
    obtain ⟨v', w', hr, h2, h3, h4⟩ := run_append_own (P := P) w 0 t ty e i z size bytes ht hi hz hsize hby hzs hsz v n xs hown ad m c news hl hnews h1 h63 hbytes (Nat.zero_le _)
    refine ⟨v', w', hr, h2, h3, ?_⟩
    have hsmall : n + m ≤ 9223372036854775807 := by simp only [maxLen] at h63; omega
    subst hsize hby
    rcases hown.2 with ⟨rfl, rfl⟩ | ⟨g, cap, cur, rfl, _, hg, hnc, _, hcs, htake⟩
    · by_cases hm : m = 0
      · exact .inl (by rw [(h4.2 ⟨rfl, hm⟩)])
      · have hr2 := run_append_nil (P := P) w t ty e i z ht hi hz ad m c news hl hnews (by omega) (by omega) (by have hb := hbytes; simp only [Nat.zero_add] at hb; omega)
        rw [hr] at hr2
        injection hr2 with e1 e2
        exact .inr (by rw [e1]; rfl)
    · by_cases hroom : n + m ≤ cap
      · have hfit : n * i.size + news.length ≤ cur.size := by rw [hl, hcs, ← Nat.add_mul]; exact Nat.mul_le_mul_right _ hroom
        have hr2 := run_append_room (P := P) w t ty e i ht hi g n cap cur hg ad m c news hl hnews h1 hroom hfit
        rw [hr] at hr2
        injection hr2 with e1 e2
        exact .inl (by rw [e1]; rfl)
      · have holds : ∀ j u, xs[j]? = some u → w.cell? ((⟨g, 0, none⟩ : Addr).add j) = some u := hown.cells (g := g) rfl
        have hr2 := run_append_grow (P := P) w t ty e i z ht hi hz ⟨g, 0, none⟩ n cap xs hown.1 holds ad m c news hl hnews (by omega) (by omega) (growslice_fits (by omega) hbytes)
        rw [hr] at hr2
        injection hr2 with e1 e2
        exact .inr (by rw [e1]; rfl)
theorem wp_app' {w : World} {o : Oper} {a : Act} {K : Act → World → Prop} {Q : Exit → Act → World → Prop} (s x : Operand) (t : TypeId)
    (ho : o.op = .call { callee := .builtin .append, args := #[s, x], argTypes := #[t, t] })
    (e : TypeId) (i : TypeInfo) (z : Value) (size bytes : Nat) (ht : P.underlying t = some (.slice e)) (hi : P.info? e = some i) (hz : i.zero = some z)
    (hsize : i.size = size) (hby : i.bytes = bytes) (hzs : z.cells.size = size) (hsz : 0 < size)
    (v : Value) (n : Nat) (xs : List Value) (hs : a.eval s = v) (hown : w.ownsRow 0 e size v n xs) (y : Value) (m : Nat) (news : List Value) (hx : a.eval x = y) (hy : RdC' w y m news)
    (hl : news.length = m * size) (h1 : ∀ u ∈ news, u.oneCell' = true) (h63 : n + m ≤ maxLen) (hbytes : (n + m) * bytes ≤ 140737488355328)
    (h : ∀ v' w', w'.ownsRow 0 e size v' (n + m) (xs ++ news) → Kp (fun k => some k = blk v) w w' → (blk v' = blk v ∨ blk v' = some w.heap.size) → K (a.put o.dst v') w') : o.wp P a w K Q := by
  obtain ⟨v', w', hr, h2, h3, h4⟩ := run_app' (P := P) w t o.type e i z size bytes ht hi hz hsize hby hzs hsz v n xs hown y m news hy hl h1 h63 hbytes
  unfold Oper.wp execOp
  simp only [ho, resolve, invoke, builtin, Sem.run_bind, Sem.run_pure, Result.andThen_ok, List.map_toArray, List.map_cons, List.map_nil, hs, hx, hr]
  exact h v' w' h2 (grown_kp h3) h4
theorem wpList_app' {w : World} {ops : Array Oper} {rest : List Oper} {o : Oper} {a : Act} {Q : Exit → Act → World → Prop} (hgd : o.guard = none) (s x : Operand) (t : TypeId)
    (ho : o.op = .call { callee := .builtin .append, args := #[s, x], argTypes := #[t, t] })
    (e : TypeId) (i : TypeInfo) (z : Value) (size bytes : Nat) (ht : P.underlying t = some (.slice e)) (hi : P.info? e = some i) (hz : i.zero = some z)
    (hsize : i.size = size) (hby : i.bytes = bytes) (hzs : z.cells.size = size) (hsz : 0 < size)
    (v : Value) (n : Nat) (xs : List Value) (hs : a.eval s = v) (hown : w.ownsRow 0 e size v n xs) (y : Value) (m : Nat) (news : List Value) (hx : a.eval x = y) (hy : RdC' w y m news)
    (hl : news.length = m * size) (h1 : ∀ u ∈ news, u.oneCell' = true) (h63 : n + m ≤ maxLen) (hbytes : (n + m) * bytes ≤ 140737488355328)
    (h : ∀ v' w', w'.ownsRow 0 e size v' (n + m) (xs ++ news) → Kp (fun k => some k = blk v) w w' → (blk v' = blk v ∨ blk v' = some w.heap.size) → wpList P ops Q rest (a.put o.dst v') w') : wpList P ops Q (o :: rest) a w :=
  wpList_plain hgd fun _ hK => wp_app' s x t ho e i z size bytes ht hi hz hsize hby hzs hsz v n xs hs hown y m news hx hy hl h1 h63 hbytes fun v' w' h2 h3 h4 => hK _ _ (h v' w' h2 h3 h4)
theorem wpList_app {w : World} {ops : Array Oper} {rest : List Oper} {o : Oper} {a : Act} {Q : Exit → Act → World → Prop} (hgd : o.guard = none) (s x : Operand) (t : TypeId)
    (ho : o.op = .call { callee := .builtin .append, args := #[s, x], argTypes := #[t, t] })
    (e : TypeId) (i : TypeInfo) (z : Value) (size bytes : Nat) (ht : P.underlying t = some (.slice e)) (hi : P.info? e = some i) (hz : i.zero = some z)
    (hsize : i.size = size) (hby : i.bytes = bytes) (hzs : z.cells.size = size) (hsz : 0 < size)
    (v : Value) (n : Nat) (xs : List Value) (hs : a.eval s = v) (hown : w.ownsRow 0 e size v n xs) (y : Value) (m : Nat) (news : List Value) (hx : a.eval x = y) (hy : RdC w y m news)
    (hl : news.length = m * size) (h1 : ∀ u ∈ news, u.oneCell' = true) (h63 : n + m ≤ maxLen) (hbytes : (n + m) * bytes ≤ 140737488355328)
    (h : ∀ v' w', w'.ownsRow 0 e size v' (n + m) (xs ++ news) → Kp (fun k => some k = blk v) w w' → (blk v' = blk v ∨ blk v' = some w.heap.size) → wpList P ops Q rest (a.put o.dst v') w') : wpList P ops Q (o :: rest) a w :=
  wpList_app' hgd s x t ho e i z size bytes ht hi hz hsize hby hzs hsz v n xs hs hown y m news hx hy.weak hl h1 h63 hbytes h
end
end Go.Proofs.YtcikjcjfcanloaaGreat
namespace Go.Proofs.YtcikjcjfcanloaaGreat
open Go.RowKit
section
variable {P : Program}
/-- The first entry of a key. -/
def assoc {κ ν : Type} [BEq κ] (L : List (κ × ν)) (k : κ) : Option ν :=
  match L with
  | [] => none
  | x :: r => if x.1 == k then some x.2 else assoc r k
def assocSet {κ ν : Type} [BEq κ] (L : List (κ × ν)) (k : κ) (v : ν) : List (κ × ν) :=
  match L with
  | [] => [(k, v)]
  | x :: r => if x.1 == k then (x.1, v) :: r else x :: assocSet r k v
/-- Block m is a map whose entries are, in the order of their making, those of L, keys as 'key' writes them. -/
def KMap {κ : Type} (key : κ → Value) (w : World) (m : Nat) (L : List (κ × Value)) : Prop :=
  ∃ es clock, w.heap[m]? = some (.map es clock) ∧ es.toList.map (fun e => (e.key, e.val)) = L.map (fun x => (key x.1, x.2))
theorem KMap.of_heap {κ : Type} {key : κ → Value} {w w' : World} {m : Nat} {L : List (κ × Value)} (h : KMap key w m L) (he : w'.heap[m]? = w.heap[m]?) : KMap key w' m L := by
  obtain ⟨es, c, h1, h2⟩ := h; exact ⟨es, c, he.trans h1, h2⟩
theorem KMap.lt {κ : Type} {key : κ → Value} {w : World} {m : Nat} {L : List (κ × Value)} (h : KMap key w m L) : m < w.heap.size := by
  obtain ⟨es, c, h1, _⟩ := h; exact heap_lt h1
theorem KMap.made {κ : Type} {key : κ → Value} (w : World) : KMap key (w.alloc (.map #[] 0)) w.heap.size ([] : List (κ × Value)) := ⟨#[], 0, heap_new _ _, rfl⟩
/-- How a kind of keys is compared. -/
structure KeyLaw {κ : Type} [BEq κ] [LawfulBEq κ] (key : κ → Value) (d : TypeDesc) : Prop where
  same : ∀ a b, Instr.sameNow d (key a) (key b) = some (a == b)
  bits : ∀ a, Instr.sameBits 10000 (key a) (key a) = true
  check : ∀ (P : Program) (t : TypeId) (w : World) (e : Bool) (a : κ), P.underlying t = some d → (Instr.checkKey e 10000 t (key a)).run P w = .ok () w
variable {κ : Type} [BEq κ] [LawfulBEq κ] {key : κ → Value} {d : TypeDesc}
theorem findNow_none (hk : KeyLaw key d) (k : κ) : ∀ (es : List MapEntry) (L : List (κ × Value)) (i : Nat), es.map (fun e => (e.key, e.val)) = L.map (fun x => (key x.1, x.2)) → assoc L k = none →
    Instr.findNow d (key k) es i = some none
  | [], L, i, _, _ => rfl
  | e :: es, [], i, h, _ => by simp at h
  | e :: es, x :: L, i, h, ha => by
    simp only [List.map_cons, List.cons.injEq, Prod.mk.injEq] at h
    obtain ⟨⟨h1, h2⟩, h3⟩ := h
    simp only [assoc] at ha
    by_cases hx : x.1 == k
    · simp [hx] at ha
    · simp only [hx] at ha
      unfold Instr.findNow
      rw [h1, hk.same, show (k == x.1) = false from by
        rw [Bool.eq_false_iff]; intro h; exact hx (by rw [beq_iff_eq] at h ⊢; exact h.symm)]
      exact findNow_none hk k es L (i + 1) h3 ha
theorem findNow_some (hk : KeyLaw key d) (k : κ) (v : Value) : ∀ (es : List MapEntry) (L : List (κ × Value)) (i : Nat), es.map (fun e => (e.key, e.val)) = L.map (fun x => (key x.1, x.2)) → assoc L k = some v →
    ∃ j, Instr.findNow d (key k) es i = some (some (i + j, v)) ∧ (es[j]?).map (·.key) = some (key k) ∧
      ∀ u : Value, (es.modify j fun e => { e with key := key k, val := u }).map (fun e => (e.key, e.val)) = (assocSet L k u).map (fun x => (key x.1, x.2))
  | [], [], i, _, ha => by simp [assoc] at ha
  | [], x :: L, i, h, ha => by simp at h
  | e :: es, [], i, h, _ => by simp at h
  | e :: es, x :: L, i, h, ha => by
    simp only [List.map_cons, List.cons.injEq, Prod.mk.injEq] at h
    obtain ⟨⟨h1, h2⟩, h3⟩ := h
    simp only [assoc] at ha
    by_cases hx : x.1 == k
    · have hxk : x.1 = k := by rw [beq_iff_eq] at hx; exact hx
      simp only [hx, if_true, Option.some.injEq] at ha
      refine ⟨0, ?_, by simp [h1, hxk], fun u => ?_⟩
      · unfold Instr.findNow
        rw [h1, hk.same, hxk, show (k == k) = true from by simp, h2, ha]; rfl
      · simp [assocSet, hxk, h3]
    · simp only [hx] at ha
      obtain ⟨j, g1, g2, g3⟩ := findNow_some hk k v es L (i + 1) h3 ha
      refine ⟨j + 1, ?_, by simpa using g2, fun u => ?_⟩
      · unfold Instr.findNow
        rw [h1, hk.same, show (k == x.1) = false from by
          rw [Bool.eq_false_iff]; intro h; exact hx (by rw [beq_iff_eq] at h ⊢; exact h.symm)]
        simp only
        rw [g1, show i + 1 + j = i + (j + 1) from by omega]
      · simp only [List.modify_succ_cons, List.map_cons, assocSet]
        rw [g3 u]
        simp [hx, h1, h2]
theorem run_lookup (hk : KeyLaw key d) (w : World) (t tk te : TypeId) (z : Value) (ht : P.underlying t = some (.map tk te)) (htk : P.underlying tk = some d) (hz : (zeroValue te).run P w = .ok z w)
    (m : Nat) (L : List (κ × Value)) (hm : KMap key w m L) (k : κ) :
    (Instr.lookup t (.map (some m)) (key k) true).run P w = .ok (.tuple #[(assoc L k).getD z, .bool (assoc L k).isSome]) w := by
  obtain ⟨es, c, h1, h2⟩ := hm
  have hc := hk.check P tk w es.isEmpty k htk
  cases ha : assoc L k with
  | none => simp [Instr.lookup, run_underlying ht, MapKept.run_getObj_map h1, hc, Instr.findKey, run_underlying htk, findNow_none hk k es.toList L 0 h2 ha, hz, Result.andThen]
  | some v =>
    obtain ⟨j, g1, _⟩ := findNow_some hk k v es.toList L 0 h2 ha
    simp [Instr.lookup, run_underlying ht, MapKept.run_getObj_map h1, hc, Instr.findKey, run_underlying htk, g1, Result.andThen]
end
instance lawfulBytes : LawfulBEq ByteArray where
  rfl {a} := by
    show (a.data == a.data) = true
    simp
  eq_of_beq {a b} h := by
    have : a.data = b.data := by
      have h' : (a.data == b.data) = true := h
      simpa using h'
    cases a; cases b; simpa using this
theorem keyStr : KeyLaw Value.string .string where
  same _ _ := rfl
  bits a := by simp [Instr.sameBits]
  check P t w e a h := by
    unfold Instr.checkKey
    simp [run_underlying h]
end Go.Proofs.YtcikjcjfcanloaaGreat
namespace Go.Proofs.YtcikjcjfcanloaaGreat
open Go.RowKit
attribute [local irreducible] perm fAdd fMul fPow fSub fNeg fRed
abbrev uv (x : UInt64) : Value := .int .u64 (x.toNat : Int)
abbrev us (l : List UInt64) : List Value := l.map fun x => Value.int .u64 (x.toNat : Int)
theorem RdU.rdc {w : World} {v : Value} {l : List UInt64} (h : RdU w v l) : RdC w v l.length (us l) := by
  obtain ⟨a, c, h1, h2, h3, h4, h5⟩ := h
  refine ⟨a, c, h1, h2, h3, h4, fun ad ha => ⟨(h5 ad ha).1, fun j u hu => ?_⟩⟩
  simp only [us, List.getElem?_map, Option.map_eq_some_iff] at hu
  obtain ⟨x, hx, rfl⟩ := hu
  exact (h5 ad ha).2 j x hx
theorem RdC.rdu {w : World} {v : Value} {l : List UInt64} {n : Nat} (h : RdC w v n (us l)) (hn : n = l.length) : RdU w v l := by
  subst hn
  obtain ⟨a, c, h1, h2, h3, h4, h5⟩ := h
  refine ⟨a, c, h1, h2, h3, h4, fun ad ha => ⟨(h5 ad ha).1, fun j x hx => ?_⟩⟩
  exact (h5 ad ha).2 j _ (by simp [us, hx])
theorem RdU.ext {w w' : World} {v : Value} {l : List UInt64} (h : RdU w v l) (k : Ext w w') : RdU w' v l := (h.rdc.ext k).rdu rfl
theorem RdU.kp {F : Nat → Prop} {w w' : World} {v : Value} {l : List UInt64} (h : RdU w v l) (k : Kp F w w') (hF : ∀ b, blk v = some b → ¬ F b) : RdU w' v l := (h.rdc.kp k hF).rdu rfl
theorem us_one (l : List UInt64) : ∀ u ∈ us l, u.oneCell' = true := by
  intro u hu
  obtain ⟨_, _, rfl⟩ := List.mem_map.1 hu
  rfl
/-- A list of numbers that a slice of the call's own holds. -/
abbrev OwnU (w : World) (v : Value) (l : List UInt64) : Prop := w.ownsRow 0 22 1 v l.length (us l)
theorem OwnU.rdu {w : World} {v : Value} {l : List UInt64} (h : OwnU w v l) : RdU w v l := (ownsRow_rd h).rdu rfl
theorem Tryz.infoU : (Tryz.prog.info? 22).map (fun i => (i.zero, i.size, i.bytes)) = some (some (.int .u64 0), 1, 8) := by kernel_rfl
theorem Tryz.infoB : (Tryz.prog.info? 5).map (fun i => (i.zero, i.size, i.bytes)) = some (some (.int .u8 0), 1, 1) := by kernel_rfl
def allE (l : List UInt64) : Bool := l.all fun x => decide (x < big)
theorem lt_big_iff (x : UInt64) : x < big ↔ (x.toNat : Int) < 18446744069414584321 := by
  rw [UInt64.lt_iff_toNat_lt]
  show x.toNat < 18446744069414584321 ↔ _
  omega
theorem allE_snoc {l : List UInt64} {i : Nat} {x : UInt64} (hx : l[i]? = some x) (h : (l.take i).all (fun x => decide (x < big)) = true) (hb : x < big) : (l.take (i + 1)).all (fun x => decide (x < big)) = true := by
  have hi : i < l.length := (List.getElem?_eq_some_iff.1 hx).1
  rw [List.take_add_one, hx]
  simp only [List.all_append, h, Option.toList_some, List.all_cons, List.all_nil, Bool.and_true, Bool.true_and]
  simpa using hb
theorem allE_bad {l : List UInt64} {i : Nat} {x : UInt64} (hx : l[i]? = some x) (hb : ¬ x < big) : allE l = false := by
  unfold allE
  rw [List.all_eq_false]
  exact ⟨x, List.mem_of_getElem? hx, by simpa using hb⟩
/-- A new list that reads as l, nothing else turned. -/
def NewU (w : World) (l : List UInt64) (e : Ending) (w' : World) : Prop := ∃ v, e = .returned v ∧ OwnU w' v l ∧ Ext w w' ∧ (∀ k, blk v = some k → w.heap.size ≤ k)
abbrev bs (l : List UInt8) : List Value := l.map fun x => Value.int .u8 (x.toNat : Int)
abbrev OwnB (w : World) (v : Value) (l : List UInt8) : Prop := w.ownsRow 0 5 1 v l.length (bs l)
def leB : Nat → UInt64 → List UInt8
  | 0, _ => []
  | n + 1, x => x.toUInt8 :: leB n (x / 256)
theorem leB_length (n : Nat) (x : UInt64) : (leB n x).length = n := by
  induction n generalizing x with
  | zero => rfl
  | succ n ih => simp [leB, ih]
def lenOk (n k : Nat) : Prop := n ≤ 100000000000000 + k
/-- The list has become m, in the old block or in a new one. -/
def MoreB (w : World) (v : Value) (m : List UInt8) (e : Ending) (w' : World) : Prop :=
  ∃ v', e = .returned v' ∧ OwnB w' v' m ∧ Kp (fun k => some k = blk v) w w' ∧ (blk v' = blk v ∨ ∃ k, blk v' = some k ∧ w.heap.size ≤ k)
theorem byte_of (x : UInt64) : IntKind.u8.wrap (x.toNat : Int) = ((x.toUInt8).toNat : Int) := by
  rw [IntKind.wrap_u8, UInt64.toNat_toUInt8]; omega
theorem div_of (x : UInt64) : (x.toNat : Int) / 256 = ((x / 256).toNat : Int) := by
  rw [UInt64.toNat_div]; rfl
def cat (l : List UInt64) : List UInt8 := l.flatMap (leB 8)
theorem cat_length (l : List UInt64) : (cat l).length = 8 * l.length := by
  induction l with
  | nil => rfl
  | cons x r ih => simp only [cat, List.flatMap_cons, List.length_append, leB_length, List.length_cons] at *; omega
theorem cat_snoc (l : List UInt64) (x : UInt64) : cat (l ++ [x]) = cat l ++ leB 8 x := by simp [cat]
theorem div_mod_256 {x y : UInt64} (h1 : x.toUInt8 = y.toUInt8) (h2 : x / 256 = y / 256) : x = y := by
  have e1 : x.toNat % 256 = y.toNat % 256 := by rw [← UInt64.toNat_toUInt8, ← UInt64.toNat_toUInt8, h1]
  have e2 : x.toNat / 256 = y.toNat / 256 := by
    have a := congrArg UInt64.toNat h2
    rw [UInt64.toNat_div, UInt64.toNat_div] at a; exact a
  apply UInt64.toNat_inj.1; omega
theorem leB_small : ∀ (n : Nat) (x y : UInt64), x.toNat < 256 ^ n → y.toNat < 256 ^ n → leB n x = leB n y → x = y
  | 0, x, y, hx, hy, _ => by apply UInt64.toNat_inj.1; simp at hx hy; rw [hx, hy]
  | n + 1, x, y, hx, hy, h => by
    simp only [leB, List.cons.injEq] at h
    refine div_mod_256 h.1 (leB_small n _ _ ?_ ?_ h.2)
    · rw [UInt64.toNat_div]; show x.toNat / 256 < _; rw [Nat.pow_succ] at hx; omega
    · rw [UInt64.toNat_div]; show y.toNat / 256 < _; rw [Nat.pow_succ] at hy; omega
theorem leB_inj {x y : UInt64} (h : leB 8 x = leB 8 y) : x = y := leB_small 8 x y (by have := x.toNat_lt; omega) (by have := y.toNat_lt; omega) h
theorem cat_inj : ∀ {l m : List UInt64}, cat l = cat m → l = m
  | [], [], _ => rfl
  | [], y :: m, h => by have := congrArg List.length h; simp [cat_length] at this
  | x :: l, [], h => by have := congrArg List.length h; simp [cat_length] at this
  | x :: l, y :: m, h => by
    simp only [cat, List.flatMap_cons] at h
    have h2 := List.append_inj h (by simp [leB_length])
    rw [leB_inj h2.1, cat_inj (l := l) (m := m) h2.2]
set_option maxRecDepth 100000 in
theorem run_str (w : World) (v : Value) (l : List UInt8) (h : OwnB w v l) : (convert 69 9 v).run Tryz.prog w = .ok (.string ⟨l.toArray⟩) w := by
  have hd : Tryz.prog.underlying 9 = some .string := Tryz.underlying9
  rcases h.2 with ⟨rfl, h0⟩ | ⟨g, cap, cur, rfl, _, hg, hnc, _⟩
  · rw [run_convert_bytes_nil w _ _ Tryz.underlying69 Tryz.underlying5 _ _ _ hd]
    obtain rfl : l = [] := List.eq_nil_of_length_eq_zero h0
    simp [ByteArray.empty, ByteArray.emptyWithCapacity]
    rfl
  · have hr := run_convert_bytes_arg (P := Tryz.prog) w 69 5 Tryz.underlying69 Tryz.underlying5 g 0 l.length cap (l.map fun x => (x.toNat : Int)) (by simp) (fun i hi => by
      have hget : (bs l)[i]? = some (.int .u8 ((l[i]).toNat : Int)) := by rw [List.getElem?_map, List.getElem?_eq_getElem hi]; rfl
      have h2 := h.cells (g := g) rfl i _ hget
      rw [Addr.add_lit] at h2
      rw [h2, List.getD_eq_getElem?_getD, List.getElem?_map, List.getElem?_eq_getElem hi]; rfl) _ hd
    rw [hr]
    congr 2
    unfold strOfNums
    congr 1
    rw [List.map_map]
    congr 1
    refine (List.map_congr_left (g := id) fun x _ => ?_).trans (List.map_id l)
    show UInt8.ofNat ((x.toNat : Int)).toNat = x
    rw [Int.toNat_natCast]
    exact UInt8.ofNat_toNat
abbrev NewOf (w : World) (v : Value) : Prop := ∃ k, blk v = some k ∧ w.heap.size ≤ k
abbrev RdU' (w : World) (v : Value) (l : List UInt64) : Prop := RdC' w v l.length (us l)
theorem add_spot {w : World} {ad : Addr} {j : Nat} {u : Value} (h6 : w.cell? (ad.add j) = some u) : ad.add j = ⟨ad.block, ad.off + j, none⟩ := by
  have hs : (ad.add j).spot = none := by
    unfold World.cell? at h6
    split at h6
    · split at h6
      · cases h6
      · next h => simpa using h
    · cases h6
  unfold Addr.add at hs ⊢
  split at hs
  · next h0 => subst h0; cases ad; simp_all
  · next h0 => simp [h0]
theorem RdC'.of_blocks {w w' : World} {v : Value} {n : Nat} {cells : List Value} (h : RdC' w v n cells) (hb : ∀ k, blk v = some k → cells ≠ [] → w'.heap[k]? = w.heap[k]?) : RdC' w' v n cells := by
  obtain ⟨a, c, rfl, h2, h3, h4, h5⟩ := h
  refine ⟨a, c, rfl, h2, h3, h4, fun ad ha j u hu => ?_⟩
  subst ha
  have h6 := h5 ad rfl j u hu
  have e6 := add_spot h6
  rw [e6] at h6 ⊢
  rw [World.cell?_of_block (w := w) (a := ⟨ad.block, ad.off + j, none⟩) (hb ad.block rfl (by rintro rfl; simp at hu))]
  exact h6
theorem RdC'.lt {w : World} {v : Value} {n : Nat} {cells : List Value} (h : RdC' w v n cells) {k : Nat} (hk : blk v = some k) (hc : cells ≠ []) : k < w.heap.size := by
  obtain ⟨a, c, rfl, _, _, _, h5⟩ := h
  cases a with
  | none => simp [Value.ownBlock] at hk
  | some ad =>
    simp only [Value.ownBlock, Option.some.injEq] at hk
    subst hk
    cases cells with
    | nil => exact absurd rfl hc
    | cons x r =>
      have h6 := h5 ad rfl 0 x rfl
      rw [add_spot h6] at h6
      exact cell_lt h6
theorem RdC'.ext {w w' : World} {v : Value} {n : Nat} {cells : List Value} (h : RdC' w v n cells) (k : Ext w w') : RdC' w' v n cells :=
  h.of_blocks fun b hb hc => k.block b (h.lt hb hc)
theorem RdC'.kp {F : Nat → Prop} {w w' : World} {v : Value} {n : Nat} {cells : List Value} (h : RdC' w v n cells) (k : Kp F w w') (hF : ∀ b, blk v = some b → b < w.heap.size → ¬ F b) : RdC' w' v n cells :=
  h.of_blocks fun b hb hc => k.block b (h.lt hb hc) (hF b hb (h.lt hb hc))
theorem RdU.weak {w : World} {v : Value} {l : List UInt64} (h : RdU w v l) : RdU' w v l := h.rdc.weak
theorem RdC'.rdu {w : World} {v : Value} {l : List UInt64} (h : RdU' w v l) (hne : l ≠ []) : RdU w v l := by
  obtain ⟨a, c, rfl, h2, h3, h4, h5⟩ := h
  refine ⟨a, c, rfl, h2, h3, h4, fun ad ha => ?_⟩
  subst ha
  have hsp : ad.spot = none := by
    cases l with
    | nil => exact absurd rfl hne
    | cons x r =>
      have h6 := add_spot (h5 ad rfl 0 (uv x) rfl)
      rw [show ad.add 0 = ad by unfold Addr.add; simp] at h6
      rw [h6]
  refine ⟨hsp, fun i x hx => ?_⟩
  have h6 := h5 ad rfl i (uv x) (by simp [us, hx])
  rw [add_spot h6] at h6
  exact h6
theorem RdU.at {w : World} {a : Option Addr} {c : Nat} {l : List UInt64} (h : RdU w (.slice a l.length c) l) {i : Nat} {x : UInt64} (hx : l[i]? = some x) : ∃ b o, a = some ⟨b, o, none⟩ ∧ w.cell? ⟨b, o + i, none⟩ = some (.int .u64 x.toNat) := by
  obtain ⟨a', c', he, hlc, _, hnil, hcell⟩ := h
  injection he with h1 h2 h3
  subst h1
  have hi : i < l.length := (List.getElem?_eq_some_iff.1 hx).1
  cases a with
  | none => have := hnil rfl; omega
  | some ad =>
    obtain ⟨g1, g2⟩ := hcell ad rfl
    refine ⟨ad.block, ad.off, ?_, g2 i x hx⟩
    cases ad; simp only at g1; subst g1; rfl
theorem RdC'.uat {w : World} {a : Option Addr} {c : Nat} {l : List UInt64} (h : RdU' w (.slice a l.length c) l) {i : Nat} {x : UInt64} (hx : l[i]? = some x) : ∃ b o, a = some ⟨b, o, none⟩ ∧ w.cell? ⟨b, o + i, none⟩ = some (.int .u64 x.toNat) :=
  (h.rdu (by rintro rfl; simp at hx)).at hx
theorem own_empty (v : World) : (v.alloc (.cells #[] 22)).ownsRow 0 22 1 (.slice (some ⟨v.heap.size, 0, none⟩) 0 0) 0 [] := ⟨rfl, .inr ⟨v.heap.size, 0, #[], rfl, Nat.zero_le _, heap_new v _, Nat.le_refl _, Nat.zero_le _, rfl, rfl⟩⟩
end Go.Proofs.YtcikjcjfcanloaaGreat
namespace Go.Proofs.YtcikjcjfcanloaaGreat
open Go.RowKit
attribute [local irreducible] perm fAdd fMul fPow fSub fNeg fRed
set_option maxRecDepth 100000 in
set_option maxHeartbeats 800000 in
theorem elements_any (lv : Value) (l : List UInt64) (w : World) (hl : RdU w lv l) (hL : l.length ≤ 1000000000000) :
    Calls Tryz.prog 161 #[lv] w fun e w' => e = .returned (.bool (allE l)) ∧ w = w' := by
  obtain ⟨a, c, rfl, hlc, hcm, hnil, hcell⟩ := hl
  have hL1 : (l.length : Int) ≤ 1000000000000 := by omega
  have HC := hid hcell
  have HN := hid hnil
  clear hcell hnil hcm
  go_enter Tryz.func161, Tryz.ntmps161
  go_wp2
  go_loop [7] (fun iv => ∃ i : Nat, i ≤ l.length ∧ iv = .int .i64 i ∧ Hid ((l.take i).all (fun x => decide (x < big)) = true)) (fun iv => l.length - (intOf iv).toNat)
  case atStart => exact ⟨0, by omega, rfl, hid rfl⟩
  case round =>
    obtain ⟨i, hi, rfl, hI⟩ := hrel
    by_cases hlt : i < l.length
    · obtain ⟨b, o, rfl⟩ : ∃ b o, a = some ⟨b, o, none⟩ := by
        cases a with
        | none => have := HN.out rfl; omega
        | some ad => obtain ⟨h1, _⟩ := HC.out ad rfl; exact ⟨ad.block, ad.off, by cases ad; simp only at h1; subst h1; rfl⟩
      have hc := (HC.out _ rfl).2 i l[i] (List.getElem?_eq_getElem hlt)
      have hx : l[i]? = some l[i] := List.getElem?_eq_getElem hlt
      generalize l[i] = x at *
      have hc' : w.cell? ⟨b, o + i, none⟩ = some (.int .u64 x.toNat) := hc
      have HX := hid hx
      clear hc hx
      obtain ⟨pb, hpb⟩ : ∃ pb : Int, pb = 18446744069414584321 := ⟨_, rfl⟩
      by_cases hb : x < big
      · have hbi := (lt_big_iff x).1 hb
        have hB := hid hb
        clear hb
        have hd : decide ((18446744069414584321 : Int) ≤ (x.toNat : Int)) = false := by simp; omega
        clear hbi hpb
        go_wp2
        go_round
        case rel => exact ⟨i + 1, by omega, by go_num, hid (allE_snoc HX.out hI.out hB.out)⟩
        case measure => simp [intOf]; omega
      · have hbi : ¬ (x.toNat : Int) < 18446744069414584321 := fun h => hb ((lt_big_iff x).2 h)
        have hfin := allE_bad HX.out hb
        have HF := hid hfin
        have hd : decide ((18446744069414584321 : Int) ≤ (x.toNat : Int)) = true := by simp; omega
        clear hbi hb hfin hpb
        go_wp2
        go_ret
        exact ⟨ret_bool HF.out.symm, rfl⟩
    · have hfin : allE l = true := by
        have := hI.out
        rwa [List.take_of_length_le (by omega)] at this
      have HF := hid hfin
      clear hfin
      go_wp2
      go_ret
      exact ⟨ret_bool HF.out.symm, rfl⟩
set_option maxHeartbeats 400000 in
theorem copied_any (lv : Value) (l : List UInt64) (w : World) (hl : RdU w lv l) (hL : l.length ≤ 1000000000000) :
    Calls Tryz.prog 184 #[lv] w (NewU w l) := by
  obtain ⟨i0, hi, hz0, hz1, hz2⟩ := info_parts Tryz.infoU
  go_enter Tryz.func184, Tryz.ntmps184
  go_wp2_with (at_builtin; refine wpList_app rfl _ _ 57 rfl 22 i0 (.int .u64 0) 1 8 Tryz.underlying57 hi hz0 hz1 hz2 rfl (by decide) _ 0 [] rfl (World.ownsRow_nil _ _ _ _) _ l.length (us l) rfl hl.rdc (by simp) (us_one l) (by unfold maxLen; omega) (by omega) ?_)
  intro v' w1 hown0 hk hb
  have hown : OwnU w1 v' l := by simpa using hown0
  clear hown0
  have hE := hk.toExt (by intro k h; simp [Value.ownBlock] at h)
  have hfr : ∀ k, blk v' = some k → w.heap.size ≤ k := by
    intro k h
    rcases hb with hb | hb
    · rw [hb] at h; simp [Value.ownBlock] at h
    · rw [hb] at h; simp at h; omega
  have H1 := hid hown
  have H2 := hid hE
  have H3 := hid hfr
  clear hown hk hb hE hfr
  go_wp2
  go_ret
  exact ⟨v', rfl, H1.out, H2.out, H3.out⟩
set_option maxRecDepth 5000 in
set_option maxHeartbeats 1000000 in
theorem appendNumber_any (v : Value) (l : List UInt8) (x : UInt64) (w : World) (hown : OwnB w v l) (hL : l.length ≤ 100000000000000) :
    Calls Tryz.prog 180 #[v, .int .u64 x.toNat] w (MoreB w v (l ++ leB 8 x)) := by
  obtain ⟨i0, hi, hz0, hz1, hz2⟩ := info_parts Tryz.infoB
  obtain ⟨T, hT⟩ : ∃ T, T = l ++ leB 8 x := ⟨_, rfl⟩
  rw [← hT]
  have HT := hid hT
  have HO := hid hown
  clear hT hown
  go_enter Tryz.func180, Tryz.ntmps180
  go_wp2
  go_loopw [0, 1, 5] (fun vv xv kv wr => ∃ (k : Nat) (y : UInt64) (cur : List UInt8), k ≤ 8 ∧ kv = .int .i64 k ∧ xv = .int .u64 y.toNat ∧ Hid (cur ++ leB (8 - k) y = T) ∧ lenOk cur.length k ∧ OwnB wr vv cur ∧ Kp (fun k => some k = blk v) w wr ∧ (blk vv = blk v ∨ ∃ k, blk vv = some k ∧ w.heap.size ≤ k)) (fun _ _ kv _ => 8 - (intOf kv).toNat)
  case atStart => exact ⟨0, x, l, by omega, rfl, rfl, hid HT.out.symm, by unfold lenOk; omega, HO.out, Kp.refl _ _, .inl rfl⟩
  case round =>
    obtain ⟨k, y, cur, hk, rfl, rfl, hcur, hlen0, how, hkp, hbl⟩ := hrel
    have H1 := hid how
    have H2 := hid hkp
    have H3 := hid hbl
    clear how hkp hbl
    by_cases hlt : k < 8
    · obtain ⟨c, hc⟩ : ∃ c, c = y.toUInt8 := ⟨_, rfl⟩
      obtain ⟨z, hz⟩ : ∃ z, z = y / 256 := ⟨_, rfl⟩
      have hcv := byte_of y
      have hzv := div_of y
      rw [← hc] at hcv
      rw [← hz] at hzv
      have HC := hid hc
      have HZ := hid hz
      clear hc hz
      have hlen : cur.length ≤ 100000000000000 + k := hlen0
      have hb1 : cur.length + 1 ≤ maxLen := by unfold maxLen; omega
      have hb2 : (cur.length + 1) * 1 ≤ 140737488355328 := by omega
      have hone : ∀ u ∈ [Value.int .u8 (c.toNat : Int)], u.oneCell' = true := by simp [Value.oneCell']
      have B1 := hid hb1
      have B2 := hid hb2
      have B3 := hid hone
      clear hb1 hb2 hone hlen hL
      go_wp2_with (at_builtin; refine wpList_app rfl _ _ 69 rfl 5 i0 (.int .u8 0) 1 1 Tryz.underlying69 hi hz0 hz1 hz2 rfl (by decide) _ cur.length (bs cur) rfl (ownsRow_ext H1.out ((Ext.refl _).alloc _)) _ 1 [.int .u8 c.toNat] rfl (RdC.new1 _ _ _) rfl B3.out B1.out B2.out ?_)
      intro v' w1 hown0 hk2 hb
      have hown : OwnB w1 v' (cur ++ [c]) := by
        show w1.ownsRow 0 5 1 v' (cur ++ [c]).length (bs (cur ++ [c]))
        rw [show (cur ++ [c]).length = cur.length + 1 from by simp, show bs (cur ++ [c]) = bs cur ++ [.int .u8 c.toNat] from by simp]
        exact hown0
      have hk3 : Kp (fun k => some k = blk v) w w1 := by
        refine (H2.out.alloc (.cells #[.int .u8 c.toNat] 5)).trans2 hk2 fun i hi he => ?_
        rcases H3.out with h | ⟨j, hj, hjl⟩
        · rw [← h]; exact he
        · rw [hj] at he; injection he with he; omega
      have hb3 : blk v' = blk v ∨ ∃ k, blk v' = some k ∧ w.heap.size ≤ k := by
        rcases hb with hb | hb
        · rw [hb]; exact H3.out
        · refine .inr ⟨_, hb, ?_⟩
          have := H2.out.size
          simp; omega
      have K1 := hid hown
      have K2 := hid hk3
      have K3 := hid hb3
      clear hown0 hown hk2 hb hk3 hb3
      go_wp2
      go_roundw
      case rel =>
        refine ⟨k + 1, z, cur ++ [c], by omega, by go_num, rfl, ?_, ?_, K1.out, K2.out, K3.out⟩
        · have := hcur.out
          rw [show 8 - k = (8 - (k + 1)) + 1 from by omega] at this
          rw [← this, HC.out, HZ.out]
          simp [leB, Hid]
        · unfold lenOk at *; simp; omega
      case measure => simp [intOf]; omega
    · have hk8 : k = 8 := by omega
      subst hk8
      have hfin : cur = T := by have := hcur.out; simpa [leB] using this
      have HF := hid hfin
      clear hfin
      go_wp2
      go_ret
      exact ⟨_, rfl, by rw [← HF.out]; exact H1.out, H2.out, H3.out⟩
end Go.Proofs.YtcikjcjfcanloaaGreat
namespace Go.Proofs.YtcikjcjfcanloaaGreat
open Go.RowKit
attribute [local irreducible] perm fAdd fMul fPow fSub fNeg fRed
def keyS (ns l : List UInt64) : ByteArray := ⟨(cat ns ++ cat l).toArray⟩
theorem keyS_inj {ns ms l m : List UInt64} (hn : ns.length = ms.length) (h : keyS ns l = keyS ms m) : ns = ms ∧ l = m := by
  unfold keyS at h
  injection h with h
  have h1 : cat ns ++ cat l = cat ms ++ cat m := by simpa using congrArg Array.toList h
  have h2 := List.append_inj h1 (by simp [cat_length, hn])
  exact ⟨cat_inj h2.1, cat_inj h2.2⟩
set_option maxRecDepth 100000 in
set_option maxHeartbeats 1000000 in
theorem key_any (lv nv : Value) (l ns : List UInt64) (w : World) (hl : RdU w lv l) (hn : RdU w nv ns) (hL : l.length ≤ 1000000000000) (hN : ns.length ≤ 1000) :
    Calls Tryz.prog 162 #[lv, nv] w fun e w' => e = .returned (.string (keyS ns l)) ∧ Ext w w' := by
  obtain ⟨i0, hi, hz0, hz1, hz2⟩ := info_parts Tryz.infoB
  have hl0 := hid hl
  have hn0 := hid hn
  obtain ⟨a1, c1, rfl, hlc1, hcm1, hnil1, hcell1⟩ := hl
  obtain ⟨a2, c2, rfl, hlc2, hcm2, hnil2, hcell2⟩ := hn
  have hL1 : (l.length : Int) ≤ 1000000000000 := by omega
  have hN1 : (ns.length : Int) ≤ 1000 := by omega
  have HC1 := hid hcell1
  have HC2 := hid hcell2
  have HI1 := hid hnil1
  have HI2 := hid hnil2
  clear hcell1 hcell2 hnil1 hnil2 hcm1 hcm2
  have hb1 : i0.bytes * (8 * (ns.length + l.length)) ≤ 281474976710656 := by rw [hz2]; omega
  have hb2 : 8 * (ns.length + l.length) ≤ maxLen := by unfold maxLen; omega
  have hb3 : 8 * ((ns.length : Int) + (l.length : Int)) = ((8 * (ns.length + l.length) : Nat) : Int) := by omega
  have B1 := hid hb1
  have B2 := hid hb2
  have B3 := hid hb3
  clear hb1 hb2 hb3
  go_enter Tryz.func162, Tryz.ntmps162
  go_wp2_with (at_make; refine wpList_make_own _ rfl _ _ 69 rfl 0 5 i0 (.int .u8 0) 1 Tryz.underlying69 hi hz0 hz1 _ _ _ (8 * (ns.length + l.length)) rfl rfl B3.out B1.out B2.out (Nat.zero_le _) ?_)
  intro w1 hown0 hg
  have hown : OwnB w1 (.slice (some ⟨w.heap.size, 0, none⟩) 0 (8 * (ns.length + l.length))) [] := hown0
  have hE : Ext w w1 := (grown_kp hg).toExt (by intro k h; cases h)
  have hnew : NewOf w (.slice (some ⟨w.heap.size, 0, none⟩) 0 (8 * (ns.length + l.length))) := ⟨_, rfl, Nat.le_refl _⟩
  have H1 := hid hown
  have H2 := hid hE
  have H3 := hid hnew
  clear hown0 hown hg hE hnew
  go_wp2
  go_loopw [5, 19] (fun bv iv wr => ∃ i : Nat, i ≤ ns.length ∧ iv = .int .i64 i ∧ OwnB wr bv (cat (ns.take i)) ∧ Ext w wr ∧ NewOf w bv) (fun _ iv _ => ns.length - (intOf iv).toNat)
  case atStart => exact ⟨0, by omega, rfl, H1.out, H2.out, H3.out⟩
  case round =>
    obtain ⟨i, hin, rfl, how, hE, hnew⟩ := hrel
    have G1 := hid how
    have G2 := hid hE
    have G3 := hid hnew
    clear how hE hnew
    by_cases hlt : i < ns.length
    · obtain ⟨b, o, rfl⟩ : ∃ b o, a2 = some ⟨b, o, none⟩ := by
        cases a2 with
        | none => have := HI2.out rfl; omega
        | some ad => obtain ⟨h1, _⟩ := HC2.out ad rfl; exact ⟨ad.block, ad.off, by cases ad; simp only at h1; subst h1; rfl⟩
      have hx : ns[i]? = some ns[i] := List.getElem?_eq_getElem hlt
      have hc : wr.cell? ⟨b, o + i, none⟩ = some (.int .u64 (ns[i]).toNat) := G2.out.cell_some ((HC2.out _ rfl).2 i ns[i] hx)
      have htk : ns.take (i + 1) = ns.take i ++ [ns[i]] := by rw [List.take_add_one, hx]; rfl
      generalize ns[i] = x at *
      have HTK := hid htk
      have hlen : (cat (ns.take i)).length ≤ 100000000000000 := by rw [cat_length, List.length_take]; omega
      have HLEN := hid hlen
      clear hx htk hlen
      go_wp2_with fail
      refine (appendNumber_any _ _ x _ G1.out HLEN.out).mono ?_
      rintro e w2 ⟨v2, rfl, ho2, hk2, hb2⟩
      have hE2 : Ext w w2 := G2.out.kp hk2 (by
        intro k h
        obtain ⟨k', h1, h2⟩ := G3.out
        rw [h1] at h; injection h with h; omega)
      have hn2 : NewOf w v2 := by
        rcases hb2 with h | ⟨k, h1, h2⟩
        · rw [NewOf, h]; exact G3.out
        · exact ⟨k, h1, Nat.le_trans G2.out.size h2⟩
      have K1 := hid ho2
      have K2 := hid hE2
      have K3 := hid hn2
      clear ho2 hk2 hb2 hE2 hn2 hc
      go_wp2
      go_roundw
      case rel => exact ⟨i + 1, by omega, by go_num, by rw [HTK.out, cat_snoc]; exact K1.out, K2.out, K3.out⟩
      case measure => simp [intOf]; omega
    · have G4 : Hid (OwnB wr u5 (cat ns)) := by
        have := G1.out
        rw [List.take_of_length_le (by omega)] at this; exact this
      clear G1
      have HW := G2
      have HV := G3
      clear G2 G3
      go_wp2_with fail
      clear hlt
      obtain ⟨wo, rfl⟩ : ∃ wo : World, wo = wr := ⟨_, rfl⟩
      go_loopw [5, 29] (fun bv iv wr => ∃ i : Nat, i ≤ l.length ∧ iv = .int .i64 i ∧ OwnB wr bv (cat ns ++ cat (l.take i)) ∧ Ext w wr ∧ NewOf w bv) (fun _ iv _ => l.length - (intOf iv).toNat)
      case atStart => exact ⟨0, by omega, rfl, by simpa [cat] using G4.out, HW.out, HV.out⟩
      case round =>
        obtain ⟨j, hjn, rfl, how, hE, hnew⟩ := hrel
        have G1 := hid how
        have G2 := hid hE
        have G3 := hid hnew
        clear how hE hnew G4
        by_cases hlt : j < l.length
        · obtain ⟨b, o, rfl⟩ : ∃ b o, a1 = some ⟨b, o, none⟩ := by
            cases a1 with
            | none => have := HI1.out rfl; omega
            | some ad => obtain ⟨h1, _⟩ := HC1.out ad rfl; exact ⟨ad.block, ad.off, by cases ad; simp only at h1; subst h1; rfl⟩
          have hx : l[j]? = some l[j] := List.getElem?_eq_getElem hlt
          have hc : wr.cell? ⟨b, o + j, none⟩ = some (.int .u64 (l[j]).toNat) := G2.out.cell_some ((HC1.out _ rfl).2 j l[j] hx)
          have htk : l.take (j + 1) = l.take j ++ [l[j]] := by rw [List.take_add_one, hx]; rfl
          generalize l[j] = x at *
          have HTK := hid htk
          have hlen : (cat ns ++ cat (l.take j)).length ≤ 100000000000000 := by rw [List.length_append, cat_length, cat_length, List.length_take]; omega
          have HLEN := hid hlen
          clear hx htk hlen
          go_wp2_with fail
          refine (appendNumber_any _ _ x _ G1.out HLEN.out).mono ?_
          rintro e w2 ⟨v2, rfl, ho2, hk2, hb2⟩
          have hE2 : Ext w w2 := G2.out.kp hk2 (by
            intro k h
            obtain ⟨k', h1, h2⟩ := G3.out
            rw [h1] at h; injection h with h; omega)
          have hn2 : NewOf w v2 := by
            rcases hb2 with h | ⟨k, h1, h2⟩
            · rw [NewOf, h]; exact G3.out
            · exact ⟨k, h1, Nat.le_trans G2.out.size h2⟩
          have K1 := hid ho2
          have K2 := hid hE2
          have K3 := hid hn2
          clear ho2 hk2 hb2 hE2 hn2 hc
          go_wp2
          go_roundw
          case rel => exact ⟨j + 1, by omega, by go_num, by rw [HTK.out, cat_snoc, ← List.append_assoc]; exact K1.out, K2.out, K3.out⟩
          case measure => simp [intOf]; omega
        · have G5 : Hid (OwnB wr u5 (cat ns ++ cat l)) := by
            have := G1.out
            rw [List.take_of_length_le (by omega)] at this; exact this
          have hcv := run_str wr _ _ G5.out
          have hks : (⟨(cat ns ++ cat l).toArray⟩ : ByteArray) = keyS ns l := rfl
          rw [hks] at hcv
          clear G1 G5 hks
          go_wp2
          go_ret
          exact ⟨rfl, G2.out⟩
end Go.Proofs.YtcikjcjfcanloaaGreat
namespace Go.Proofs.YtcikjcjfcanloaaGreat
open Go.RowKit
attribute [local irreducible] perm fAdd fMul fPow fSub fNeg fRed
structure Qn where
  label : UInt64
  elems : List UInt64
  answer : UInt64
structure Sl where
  key : UInt64
  nonce : UInt64
  sealed : List UInt64
  plain : List UInt64
structure Orc where
  ideal : Bool
  state : UInt64
  draws : Nat
  qs : List Qn
  seals : List Sl
  proofs : List (UInt64 × List UInt64)
def mix1 (s : UInt64) : UInt64 := (s ^^^ (s >>> 30)) * 13787848793156543929
def mix2 (s : UInt64) : UInt64 := (s ^^^ (s >>> 27)) * 10723151780598845931
def mix3 (s : UInt64) : UInt64 := (s ^^^ (s >>> 31)) % big
def nextState (s : UInt64) : UInt64 := s + 11400714819323198485
def drawOf (s : UInt64) : UInt64 := mix3 (mix2 (mix1 (nextState s)))
def Orc.step (M : Orc) : Orc := { M with state := nextState M.state, draws := M.draws + 1 }
def findQ (qs : List Qn) (label : UInt64) (l : List UInt64) : Option Nat := qs.findIdx? fun q => q.label == label && q.elems == l
def Orc.add (M : Orc) (label : UInt64) (l : List UInt64) (a : UInt64) : Orc := { M with qs := M.qs ++ [⟨label, l, a⟩] }
def answerAt (qs : List Qn) (i : Nat) : UInt64 := ((qs[i]?).map (·.answer)).getD 0
def Orc.hash (M : Orc) (label : UInt64) (l : List UInt64) : UInt64 × Orc :=
  if allE l then
    match findQ M.qs label l with
    | some i => (answerAt M.qs i, M)
    | none => if M.ideal then (drawOf M.state, M.step.add label l (drawOf M.state)) else (hashU label l, M.add label l (hashU label l))
  else (0, M)
def Orc.peek (M : Orc) (label : UInt64) (l : List UInt64) : UInt64 × Bool :=
  if allE l then
    match findQ M.qs label l with
    | some i => (answerAt M.qs i, true)
    | none => if M.ideal then (0, false) else (hashU label l, true)
  else (0, false)
def Orc.prog (M : Orc) (label : UInt64) (l : List UInt64) (a : UInt64) : Bool × Orc :=
  if M.ideal && decide (a < big) && allE l && (findQ M.qs label l).isNone then (true, M.add label l a) else (false, M)
def qCells (qv : List (Qn × Value)) : List Value := qv.flatMap fun x => [uv x.1.label, x.2, uv x.1.answer]
def knownL (qs : List Qn) : List (ByteArray × Value) := qs.zipIdx.map fun x => (keyS [x.1.label] x.1.elems, Value.int .i64 (x.2 : Int))
def sealL (sv : List (Sl × Value)) : List (ByteArray × Value) := sv.map fun x => (keyS [x.1.key, x.1.nonce] x.1.sealed, x.2)
def proofL (ps : List (UInt64 × List UInt64)) : List (ByteArray × Value) := ps.map fun x => (keyS [x.1] x.2, Value.bool true)
/-- The oracle M lies at block b; F: the blocks that belong to it. -/
structure OrcIn (w : World) (b : Nat) (M : Orc) (F : Nat → Prop) (qv : Value) (mk ms mp : Nat) (Q : List (Qn × Value)) (S : List (Sl × Value)) : Prop where
  self : w.heap[b]? = some (.cells #[.bool M.ideal, uv M.state, .int .i64 (M.draws : Int), qv, .map (some mk), .map (some ms), .map (some mp)] 122 (0, 0))
  qown : w.ownsRow 0 206 3 qv Q.length (qCells Q)
  qs : Q.map (·.1) = M.qs
  elems : ∀ x ∈ Q, OwnU w x.2 x.1.elems ∧ ∀ k, blk x.2 = some k → F k
  known : KMap Value.string w mk (knownL M.qs)
  seals : KMap Value.string w ms (sealL S)
  ss : S.map (·.1) = M.seals
  plains : ∀ x ∈ S, OwnU w x.2 x.1.plain ∧ ∀ k, blk x.2 = some k → F k
  proofs : KMap Value.string w mp (proofL M.proofs)
  apart : mk ≠ ms ∧ mk ≠ mp ∧ ms ≠ mp
  foot : F b ∧ F mk ∧ F ms ∧ F mp ∧ (∀ k, blk qv = some k → F k) ∧ ∀ k, F k → k < w.heap.size
def OrcAt (w : World) (b : Nat) (M : Orc) (F : Nat → Prop) : Prop := ∃ qv mk ms mp Q S, OrcIn w b M F qv mk ms mp Q S
/-- What is true of an oracle hangs on its own blocks alone. -/
theorem OrcIn.of_blocks {w w' : World} {b : Nat} {M : Orc} {F : Nat → Prop} {qv : Value} {mk ms mp : Nat} {Q : List (Qn × Value)} {S : List (Sl × Value)} (h : OrcIn w b M F qv mk ms mp Q S)
    (hb : ∀ k, F k → w'.heap[k]? = w.heap[k]?) (hz : w.heap.size ≤ w'.heap.size) : OrcIn w' b M F qv mk ms mp Q S where
  self := (hb b h.foot.1).trans h.self
  qown := ownsRow_of h.qown fun k hk => hb k (h.foot.2.2.2.2.1 k hk)
  qs := h.qs
  elems x hx := ⟨ownsRow_of (h.elems x hx).1 fun k hk => hb k ((h.elems x hx).2 k hk), (h.elems x hx).2⟩
  known := h.known.of_heap (hb mk h.foot.2.1)
  seals := h.seals.of_heap (hb ms h.foot.2.2.1)
  ss := h.ss
  plains x hx := ⟨ownsRow_of (h.plains x hx).1 fun k hk => hb k ((h.plains x hx).2 k hk), (h.plains x hx).2⟩
  proofs := h.proofs.of_heap (hb mp h.foot.2.2.2.1)
  apart := h.apart
  foot := ⟨h.foot.1, h.foot.2.1, h.foot.2.2.1, h.foot.2.2.2.1, h.foot.2.2.2.2.1, fun k hk => Nat.lt_of_lt_of_le (h.foot.2.2.2.2.2 k hk) hz⟩
theorem OrcIn.ext {w w' : World} {b : Nat} {M : Orc} {F : Nat → Prop} {qv : Value} {mk ms mp : Nat} {Q : List (Qn × Value)} {S : List (Sl × Value)} (h : OrcIn w b M F qv mk ms mp Q S) (k : Ext w w') : OrcIn w' b M F qv mk ms mp Q S :=
  h.of_blocks (fun i hi => k.block i (h.foot.2.2.2.2.2 i hi)) k.size
theorem OrcAt.ext {w w' : World} {b : Nat} {M : Orc} {F : Nat → Prop} (h : OrcAt w b M F) (k : Ext w w') : OrcAt w' b M F := by
  obtain ⟨qv, mk, ms, mp, Q, S, h⟩ := h; exact ⟨qv, mk, ms, mp, Q, S, h.ext k⟩
theorem OrcAt.kp {G : Nat → Prop} {w w' : World} {b : Nat} {M : Orc} {F : Nat → Prop} (h : OrcAt w b M F) (k : Kp G w w') (hG : ∀ i, F i → ¬ G i) : OrcAt w' b M F := by
  obtain ⟨qv, mk, ms, mp, Q, S, h⟩ := h
  exact ⟨qv, mk, ms, mp, Q, S, h.of_blocks (fun i hi => k.block i (h.foot.2.2.2.2.2 i hi) (hG i hi)) k.size⟩
theorem assoc_known (qs : List Qn) (label : UInt64) (l : List UInt64) : ∀ n : Nat,
    assoc ((qs.zipIdx n).map fun x => (keyS [x.1.label] x.1.elems, Value.int .i64 (x.2 : Int))) (keyS [label] l) = (findQ qs label l).map fun (i : Nat) => Value.int .i64 ((n + i : Nat) : Int) := by
  induction qs with
  | nil => intro n; rfl
  | cons q r ih =>
    intro n
    simp only [List.zipIdx_cons, List.map_cons, assoc, findQ, List.findIdx?_cons]
    have hk : (keyS [q.label] q.elems == keyS [label] l) = (q.label == label && q.elems == l) := by
      rw [Bool.eq_iff_iff]
      simp only [beq_iff_eq, Bool.and_eq_true]
      constructor
      · intro h; have := keyS_inj (ns := [q.label]) (ms := [label]) rfl h; exact ⟨by simpa using this.1, this.2⟩
      · rintro ⟨h1, h2⟩; rw [h1, h2]
    rw [hk]
    cases q.label == label && q.elems == l with
    | true => simp
    | false =>
      simp only [Bool.false_eq_true, if_false]
      have := ih (n + 1)
      simp only [findQ] at this
      rw [this, Option.map_map]
      congr 1
      funext i
      simp only [Function.comp]
      congr 1
      omega
theorem assoc_knownL (qs : List Qn) (label : UInt64) (l : List UInt64) : assoc (knownL qs) (keyS [label] l) = (findQ qs label l).map fun (i : Nat) => Value.int .i64 ((i : Nat) : Int) := by
  unfold knownL
  rw [show qs.zipIdx = qs.zipIdx 0 from rfl, assoc_known qs label l 0]
  congr 1
  funext i
  rw [Nat.zero_add]
theorem findQ_lt {qs : List Qn} {label : UInt64} {l : List UInt64} {i : Nat} (h : findQ qs label l = some i) : i < qs.length := by
  unfold findQ at h
  exact (List.findIdx?_eq_some_iff_getElem.1 h).1
end Go.Proofs.YtcikjcjfcanloaaGreat
namespace Go.Proofs.YtcikjcjfcanloaaGreat
open Go.RowKit
attribute [local irreducible] perm fAdd fMul fPow fSub fNeg fRed
def Orc.fresh (ideal : Bool) (seed : UInt64) : Orc := ⟨ideal, seed, 0, [], [], []⟩
/-- A new oracle M. -/
def NewO (w : World) (M : Orc) (e : Ending) (w' : World) : Prop :=
  ∃ (b : Nat) (F : Nat → Prop), e = .returned (.pointer (some ⟨b, 0, none⟩)) ∧ OrcAt w' b M F ∧ Ext w w' ∧ ∀ k, F k → w.heap.size ≤ k
set_option maxRecDepth 100000 in
set_option maxHeartbeats 800000 in
theorem newOracle_any (w : World) : Calls Tryz.prog 65 #[] w (NewO w (Orc.fresh false 0)) := by
  have hmm := @run_makeMap Tryz.prog
  go_enter Tryz.func65, Tryz.ntmps65
  go_wp2
  go_ret
  refine ⟨w.heap.size + 3, fun k => w.heap.size ≤ k ∧ k < w.heap.size + 4, rfl, ⟨.slice none 0 0, w.heap.size, w.heap.size + 1, w.heap.size + 2, [], [], ?_⟩, (((((Ext.refl _).alloc _).alloc _).alloc _).alloc _), fun k h => h.1⟩
  have h0 : ((((w.alloc (.map #[] 0)).alloc (.map #[] 0)).alloc (.map #[] 0)).alloc (.cells #[.bool false, .int .u64 0, .int .i64 0, .slice none 0 0, .map (some w.heap.size), .map (some (w.heap.size + 1)), .map (some (w.heap.size + 2))] 122)).heap[w.heap.size]? = some (.map #[] 0) :=
    heap_alloc_some (heap_alloc_some (heap_alloc_some (heap_new _ _)))
  have h1 : ((((w.alloc (.map #[] 0)).alloc (.map #[] 0)).alloc (.map #[] 0)).alloc (.cells #[.bool false, .int .u64 0, .int .i64 0, .slice none 0 0, .map (some w.heap.size), .map (some (w.heap.size + 1)), .map (some (w.heap.size + 2))] 122)).heap[w.heap.size + 1]? = some (.map #[] 0) := by
    refine heap_alloc_some (heap_alloc_some ?_)
    have := heap_new (w.alloc (.map #[] 0)) (.map #[] 0)
    simpa using this
  have h2 : ((((w.alloc (.map #[] 0)).alloc (.map #[] 0)).alloc (.map #[] 0)).alloc (.cells #[.bool false, .int .u64 0, .int .i64 0, .slice none 0 0, .map (some w.heap.size), .map (some (w.heap.size + 1)), .map (some (w.heap.size + 2))] 122)).heap[w.heap.size + 2]? = some (.map #[] 0) := by
    refine heap_alloc_some ?_
    have := heap_new ((w.alloc (.map #[] 0)).alloc (.map #[] 0)) (.map #[] 0)
    simpa using this
  have h3 : ((((w.alloc (.map #[] 0)).alloc (.map #[] 0)).alloc (.map #[] 0)).alloc (.cells #[.bool false, .int .u64 0, .int .i64 0, .slice none 0 0, .map (some w.heap.size), .map (some (w.heap.size + 1)), .map (some (w.heap.size + 2))] 122)).heap[w.heap.size + 3]? = some (.cells #[.bool false, .int .u64 0, .int .i64 0, .slice none 0 0, .map (some w.heap.size), .map (some (w.heap.size + 1)), .map (some (w.heap.size + 2))] 122 (0, 0)) := by
    have := heap_new (((w.alloc (.map #[] 0)).alloc (.map #[] 0)).alloc (.map #[] 0)) (.cells #[.bool false, .int .u64 0, .int .i64 0, .slice none 0 0, .map (some w.heap.size), .map (some (w.heap.size + 1)), .map (some (w.heap.size + 2))] 122)
    simpa using this
  exact {
    self := h3
    qown := World.ownsRow_nil _ _ _ _
    qs := rfl
    elems := by intro x hx; cases hx
    known := ⟨_, _, h0, rfl⟩
    seals := ⟨_, _, h1, rfl⟩
    ss := rfl
    plains := by intro x hx; cases hx
    proofs := ⟨_, _, h2, rfl⟩
    apart := by omega
    foot := by
      refine ⟨by omega, by omega, by omega, by omega, ?_, ?_⟩
      · intro k h; simp [Value.ownBlock] at h
      · intro k h; simp; omega }
theorem Real_any (w : World) : Calls Tryz.prog 25 #[] w (NewO w (Orc.fresh false 0)) := by
  go_enter Tryz.func25, Tryz.ntmps25
  go_wp2_with fail
  refine (newOracle_any _).mono ?_
  rintro e w' ⟨b, F, rfl, h⟩
  have H := hid h
  clear h
  go_wp2
  go_ret
  exact ⟨b, F, rfl, H.out⟩
theorem self_cells {w : World} {b : Nat} {c0 c1 c2 c3 c4 c5 c6 : Value} {T : TypeId} (h : w.heap[b]? = some (.cells #[c0, c1, c2, c3, c4, c5, c6] T (0, 0))) :
    w.cell? ⟨b, 0, none⟩ = some c0 ∧ w.cell? ⟨b, 1, none⟩ = some c1 ∧ w.cell? ⟨b, 2, none⟩ = some c2 ∧ w.cell? ⟨b, 3, none⟩ = some c3 ∧ w.cell? ⟨b, 4, none⟩ = some c4 ∧ w.cell? ⟨b, 5, none⟩ = some c5 ∧ w.cell? ⟨b, 6, none⟩ = some c6 :=
  ⟨cell_of h 0, cell_of h 1, cell_of h 2, cell_of h 3, cell_of h 4, cell_of h 5, cell_of h 6⟩
end Go.Proofs.YtcikjcjfcanloaaGreat
namespace Go.Proofs.YtcikjcjfcanloaaGreat
open Go.RowKit
attribute [local irreducible] perm fAdd fMul fPow fSub fNeg fRed
end Go.Proofs.YtcikjcjfcanloaaGreat
namespace Go.Proofs.YtcikjcjfcanloaaGreat
open Go.RowKit
attribute [local irreducible] perm fAdd fMul fPow fSub fNeg fRed
section
variable {P : Program}
end
theorem RdC.block {w : World} {g n : Nat} {cs : Array Value} {T : TypeId} (h : w.heap[g]? = some (.cells cs T (0, 0))) (hn : n ≤ maxLen) : RdC w (.slice (some ⟨g, 0, none⟩) n n) n cs.toList := by
  refine ⟨_, n, rfl, Nat.le_refl _, hn, (fun h => by cases h), fun ad ha => ?_⟩
  obtain rfl := Option.some.inj ha
  refine ⟨rfl, fun j u hu => ?_⟩
  rw [cell_of h]
  simpa using hu
/-- The block of a slice of one's own. -/
theorem ownsRow_block {w : World} {e : TypeId} {size n : Nat} {v : Value} {xs : List Value} (h : w.ownsRow 0 e size v n xs) {k : Nat} (hk : blk v = some k) : ∃ cs, w.heap[k]? = some (.cells cs e (0, 0)) := by
  rcases h.2 with ⟨rfl, _⟩ | ⟨g, cap, cur, rfl, _, hg, _⟩
  · simp [Value.ownBlock] at hk
  · simp only [Value.ownBlock, Option.some.injEq] at hk
    subst hk; exact ⟨cur, hg⟩
theorem KMap.block {κ : Type} {key : κ → Value} {w : World} {m : Nat} {L : List (κ × Value)} (h : KMap key w m L) : ∃ es c, w.heap[m]? = some (.map es c) := by
  obtain ⟨es, c, h1, _⟩ := h; exact ⟨es, c, h1⟩
end Go.Proofs.YtcikjcjfcanloaaGreat
