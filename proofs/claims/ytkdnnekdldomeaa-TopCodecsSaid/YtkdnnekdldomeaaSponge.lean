/- The hash of a list with a label over the prime 2^64 - 2^32 + 1: absorb and Hash return what their plain laws say, and leave all that was there as it was. -/
import Derived.Test.YtkdnnekdldomeaaPermute
import Derived.Deep.DeepCutAuto
namespace Go.Proofs.Ytkdnnekdldomeaa
open Go.RowKit
set_option linter.unusedSimpArgs false

/-! ## lists of numbers in memory -/
/-- The slice value v reads as the list l of numbers. -/
def RdU (w : World) (v : Value) (l : List UInt64) : Prop :=
  ∃ a c, v = .slice a l.length c ∧ l.length ≤ c ∧ c ≤ maxLen ∧ (a = none → c = 0) ∧
    ∀ ad, a = some ad → ad.spot = none ∧ ∀ i x, l[i]? = some x → w.cell? ⟨ad.block, ad.off + i, none⟩ = some (.int .u64 x.toNat)

/-! ## plain -/
attribute [local irreducible] perm fAdd fMul fPow fSub fNeg fRed
def labelOf (label : UInt64) (n : Nat) : UInt64 := fAdd (fMul label 65536) (UInt64.ofNat n)
def absorbAll : S3 → List UInt64 → S3
  | s, [] => s
  | s, [x] => perm ⟨fAdd s.a x, s.b, s.c⟩
  | s, x :: y :: r => absorbAll (perm ⟨fAdd s.a x, fAdd s.b y, s.c⟩) r
def sponge (label : UInt64) (l : List UInt64) : S3 :=
  if l = [] then perm ⟨0, 0, labelOf label 0⟩ else absorbAll ⟨0, 0, labelOf label l.length⟩ l
def hashU (label : UInt64) (l : List UInt64) : UInt64 := (sponge label l).a

def k65536 : UInt64 := 65536
theorem zero3 {v v' : World} {T : TypeId} (h : Ext (v.alloc (.cells #[.int .u64 0, .int .u64 0, .int .u64 0] T)) v') :
    v'.heap[v.heap.size]? = some (.cells #[.int .u64 0, .int .u64 0, .int .u64 0] T (0, 0)) := h.heap_some (heap_new _ _)

theorem Add_int (p : Int) (hp : IsBig p) (a b : UInt64) (B : Int) (hB : (b.toNat : Int) = B) (w : World) :
    Calls Try.prog 66 #[.agg #[.int .u64 p], .int .u64 a.toNat, .int .u64 B] w fun e w' => e = .returned (.int .u64 (fAdd a b).toNat) ∧ Ext w w' := by
  subst hB; exact Add_any p hp a b w
/-- Behind an alloc and what grew out of it, the new block written whole. -/
theorem stored3 {v v' : World} {T : TypeId} (h : Ext (v.alloc (.cells #[.int .u64 0, .int .u64 0, .int .u64 0] T)) v') (x y z : Value) :
    (((v'.setCell ⟨v.heap.size, 0, none⟩ x).setCell ⟨v.heap.size, 1, none⟩ y).setCell ⟨v.heap.size, 2, none⟩ z).heap[v.heap.size]? = some (.cells #[x, y, z] T (0, 0)) :=
  heap_setCell_same (heap_setCell_same (heap_setCell_same (zero3 h) 0 x) 1 y) 2 z
theorem stored3E {w0 v v' : World} {T : TypeId} (hv : Ext w0 v) (h : Ext (v.alloc (.cells #[.int .u64 0, .int .u64 0, .int .u64 0] T)) v') (x y z : Value) :
    Ext w0 (((v'.setCell ⟨v.heap.size, 0, none⟩ x).setCell ⟨v.heap.size, 1, none⟩ y).setCell ⟨v.heap.size, 2, none⟩ z) :=
  (((((hv.alloc _).trans h).setCell (p := ⟨v.heap.size, 0, none⟩) hv.size _).setCell (p := ⟨v.heap.size, 1, none⟩) hv.size _).setCell (p := ⟨v.heap.size, 2, none⟩) hv.size _)
theorem drop_cons {l : List UInt64} {i : Nat} {x : UInt64} {r : List UInt64} (h : l.drop i = x :: r) : l[i]? = some x ∧ i < l.length ∧ l.drop (i + 1) = r := by
  have hi : i < l.length := by
    rcases Nat.lt_or_ge i l.length with h1 | h1
    · exact h1
    · rw [List.drop_eq_nil_of_le h1] at h; cases h
  rw [List.drop_eq_getElem_cons hi] at h
  injection h with h1 h2
  exact ⟨by rw [List.getElem?_eq_getElem hi, h1], hi, h2⟩
theorem absorb_nil (s : S3) : absorbAll s [] = s := by rw [absorbAll]
theorem absorb_one (s : S3) (x : UInt64) : absorbAll s [x] = perm ⟨fAdd s.a x, s.b, s.c⟩ := by rw [absorbAll]
theorem absorb_two (s : S3) (x y : UInt64) (r : List UInt64) : absorbAll s (x :: y :: r) = absorbAll (perm ⟨fAdd s.a x, fAdd s.b y, s.c⟩) r := by rw [absorbAll]
theorem ab_one {s : S3} {x : UInt64} {t : S3} (h : Hid (absorbAll s [x] = t)) : Hid (absorbAll (perm ⟨fAdd s.a x, s.b, s.c⟩) [] = t) := by
  have h := h.out
  rw [absorb_one] at h
  exact hid ((absorb_nil _).trans h)
theorem ab_two {s : S3} {x y : UInt64} {r : List UInt64} {t : S3} (h : Hid (absorbAll s (x :: y :: r) = t)) : Hid (absorbAll (perm ⟨fAdd s.a x, fAdd s.b y, s.c⟩) r = t) := by
  have h := h.out
  rw [absorb_two] at h
  exact hid h
theorem Mul_unit (p : Int) (hp : IsBig p) (a : UInt64) (w : World) :
    Calls Try.prog 67 #[.agg #[.int .u64 p], .int .u64 a.toNat, .int .u64 65536] w fun e w' => e = .returned (.int .u64 (fMul a 65536).toNat) ∧ Ext w w' := Mul_any p hp a 65536 w
theorem len_u {n : Nat} (h : n ≤ 9223372036854775807) : ((UInt64.ofNat n).toNat : Int) = (n : Int) := by rw [toNat_ofNat_lt (by omega)]
theorem frozen_zero {v v' : World} {T : TypeId} (h : Ext (v.alloc (.cells #[.int .u64 0, .int .u64 0, .int .u64 0] T)) v') (i : Nat) : v'.frozen? ⟨v.heap.size, i, none⟩ = false := frozen_of (zero3 h) i
theorem cell_zero {v v' : World} {T : TypeId} (h : Ext (v.alloc (.cells #[.int .u64 0, .int .u64 0, .int .u64 0] T)) v') (i : Nat) (hi : i < 3) : v'.cell? ⟨v.heap.size, i, none⟩ = some (.int .u64 0) := by
  rw [cell_of (zero3 h) i]
  have : i = 0 ∨ i = 1 ∨ i = 2 := by omega
  rcases this with rfl | rfl | rfl <;> rfl

set_option maxHeartbeats 2000000 in
theorem absorb_any (p : Int) (hp : IsBig p) (label : UInt64) (lv : Value) (l : List UInt64) (w : World) (hl : RdU w lv l) (hL : l.length ≤ 1000000000000000) :
    Calls Try.prog 61 #[.int .u64 p, .int .u64 label.toNat, lv] w fun e w' => e = .returned (sponge label l).v ∧ Ext w w' := by
  obtain ⟨a, c, rfl, hlc, hcm, hnil, hcell⟩ := hl
  unfold maxLen at hcm
  have hL1 : (l.length : Int) ≤ 1000000000000000 := by omega
  have hlen : l.length ≤ 9223372036854775807 := by omega
  go_enter Try.func61, Try.ntmps61
  go_upto_region 2 with fail
  have hE : Ext w ((w.alloc (.cells #[.int .u64 0, .int .u64 0, .int .u64 0] 91)).alloc (.cells #[.int .u64 p] 90)) := ((Ext.refl _).alloc _).alloc _
  have hr0 : ((w.alloc (.cells #[.int .u64 0, .int .u64 0, .int .u64 0] 91)).alloc (.cells #[.int .u64 p] 90)).heap[w.heap.size]? = some (.cells #[.int .u64 0, .int .u64 0, .int .u64 0] 91 (0, 0)) :=
    heap_alloc_some (heap_new _ _)
  have hr1 : ((w.alloc (.cells #[.int .u64 0, .int .u64 0, .int .u64 0] 91)).alloc (.cells #[.int .u64 p] 90)).heap[w.heap.size + 1]? = some (.cells #[.int .u64 p] 90 (0, 0)) := by
    have := heap_new (w.alloc (.cells #[.int .u64 0, .int .u64 0, .int .u64 0] 91)) (.cells #[.int .u64 p] 90)
    simpa using this
  have hz : w.heap.size + 1 < ((w.alloc (.cells #[.int .u64 0, .int .u64 0, .int .u64 0] 91)).alloc (.cells #[.int .u64 p] 90)).heap.size := by simp
  generalize ((w.alloc (.cells #[.int .u64 0, .int .u64 0, .int .u64 0] 91)).alloc (.cells #[.int .u64 p] 90)) = w0 at *
  generalize hn : w.heap.size = n at *
  have HN := hid hn
  clear hn
  obtain ⟨x0, hx0⟩ : ∃ x0, x0 = labelOf label l.length := ⟨_, rfl⟩
  have HX0 := hid hx0
  clear hx0
  go_cut [8] (fun s8 wx => ∃ g : Nat, s8 = .pointer (some ⟨g, 0, none⟩) ∧ w0.heap.size ≤ g ∧ wx.heap[g]? = some (.cells #[.int .u64 0, .int .u64 0, .int .u64 x0.toNat] 91 (0, 0)) ∧ Ext w0 wx)
  case first =>
    have hc1 : ∀ v, Ext w0 v → v.cell? ⟨n + 1, 0, none⟩ = some (.int .u64 p) := fun v k => cell_of (k.heap_some hr1) 0
    have H := hid hc1
    clear hc1
    go_wp2_with fail
    refine wp_region_N (fun v => v.cell? ⟨n + 1, 0, none⟩ = some (.int .u64 p) ∧ Ext w0 v) 10 11 (by kernel_rfl) (by kernel_rfl) ?_
    intro ops hops
    have HS : w0.drew.cell? ⟨n + 1, 0, none⟩ = some (.int .u64 p) ∧ Ext w0 w0.drew := keep0 H.out
    refine N_take (i := 0) (v := ?_) (by rw [hops, List.getElem?_toArray]; rfl) (by rw [hops]; kernel_rfl) (by intro c a d v w h; cases d <;> exact h) (by first | rfl | (rw [hops]; rfl)) ?_ HS ?_
    rotate_left
    · intro v h; go_simp; with_reducible rfl
    simp only [Act.put, List.getElem_toArray, List.getElem_cons_zero, List.getElem_cons_succ, List.setIfInBounds_toArray, List.set_cons_zero, List.set_cons_succ]
    refine N_take (i := 1) (v := ?_) (by rw [hops, List.getElem?_toArray]; rfl) (by rw [hops]; kernel_rfl) (by intro c a d v w h; cases d <;> exact h) (by first | rfl | (rw [hops]; rfl)) ?_ HS ?_
    rotate_left
    · intro v h; go_simp; with_reducible rfl
    simp only [Act.put, List.getElem_toArray, List.getElem_cons_zero, List.getElem_cons_succ, List.setIfInBounds_toArray, List.set_cons_zero, List.set_cons_succ]
    refine N_take (i := 2) (v := ?_) (by rw [hops, List.getElem?_toArray]; rfl) (by rw [hops]; kernel_rfl) (by intro c a d v w h; cases d <;> exact h) (by first | rfl | (rw [hops]; rfl)) ?_ HS ?_
    rotate_left
    · intro v h; go_simp; with_reducible rfl
    simp only [Act.put, List.getElem_toArray, List.getElem_cons_zero, List.getElem_cons_succ, List.setIfInBounds_toArray, List.set_cons_zero, List.set_cons_succ]
    refine N_take (i := 4) (v := ?_) (by rw [hops, List.getElem?_toArray]; rfl) (by rw [hops]; kernel_rfl) (by intro c a d v w h; cases d <;> exact h) (by first | rfl | (rw [hops]; rfl)) ?_ HS ?_
    rotate_left
    · intro v h; go_simp; with_reducible rfl
    simp only [Act.put, List.getElem_toArray, List.getElem_cons_zero, List.getElem_cons_succ, List.setIfInBounds_toArray, List.set_cons_zero, List.set_cons_succ]
    refine N_take (i := 5) (v := ?_) (by rw [hops, List.getElem?_toArray]; rfl) (by rw [hops]; kernel_rfl) (by intro c a d v w h; cases d <;> exact h) (by first | rfl | (rw [hops]; rfl)) ?_ HS ?_
    rotate_left
    · intro v h; go_simp; with_reducible rfl
    simp only [Act.put, List.getElem_toArray, List.getElem_cons_zero, List.getElem_cons_succ, List.setIfInBounds_toArray, List.set_cons_zero, List.set_cons_succ]
    refine N_take (i := 6) (v := ?_) (by rw [hops, List.getElem?_toArray]; rfl) (by rw [hops]; kernel_rfl) (by intro c a d v w h; cases d <;> exact h) (by first | rfl | (rw [hops]; rfl)) ?_ HS ?_
    rotate_left
    · intro v h; go_simp; with_reducible rfl
    simp only [Act.put, List.getElem_toArray, List.getElem_cons_zero, List.getElem_cons_succ, List.setIfInBounds_toArray, List.set_cons_zero, List.set_cons_succ]
    refine N_two (i := 3) (k := 9) (by rw [hops]; rfl) (by rw [hops, List.getElem?_toArray]; rfl) (by rw [hops]; kernel_rfl) (by first | rfl | (rw [hops]; rfl)) (by first | rfl | (rw [hops]; rfl)) ?_ ?_
    · intro K hK
      go_wp2_with fail
      refine (Mul_unit p hp label _).mono ?_
      rintro e v1 ⟨rfl, hb1⟩
      have HS1 := keepE H.out HS hb1
      refine hK _ _ ⟨fun _ => HS1, ?_⟩
      clear hK K
      refine N_two (i := 7) (k := 9) (by rw [hops]; rfl) (by rw [hops, List.getElem?_toArray]; rfl) (by rw [hops]; kernel_rfl) (by first | rfl | (rw [hops]; rfl)) (by first | rfl | (rw [hops]; rfl)) ?_ ?_
      · intro K hK
        go_wp2_with fail
        refine (Add_int p hp _ (UInt64.ofNat l.length) l.length (len_u hlen) _).mono ?_
        rintro e v2 ⟨rfl, hb2⟩
        have HS2 := keepE H.out HS1 hb2
        refine hK _ _ ⟨fun _ => HS2, ?_⟩
        clear hK K
        refine N_take (i := 8) (v := ?_) (by rw [hops, List.getElem?_toArray]; rfl) (by rw [hops]; kernel_rfl) (by intro c a d v w h; cases d <;> exact h) (by first | rfl | (rw [hops]; rfl)) ?_ HS2 ?_
        rotate_left
        · intro v h; go_simp; with_reducible rfl
        simp only [Act.put, List.getElem_toArray, List.getElem_cons_zero, List.getElem_cons_succ, List.setIfInBounds_toArray, List.set_cons_zero, List.set_cons_succ]
        refine N_one (i := 9) (by rw [hops, List.getElem?_toArray]; rfl) (by rw [hops]; kernel_rfl) (by first | rfl | (rw [hops]; rfl)) ?_
        intro K hK
        go_wp2_with fail
        refine ⟨fun _ => keepE H.out HS2 ((Ext.refl _).alloc _), ?_⟩
        refine N_one (i := 10) (by rw [hops, List.getElem?_toArray]; rfl) (by rw [hops]; kernel_rfl) (by first | rfl | (rw [hops]; rfl)) ?_
        intro K hK
        go_wp2_with fail
        refine ⟨fun h => absurd h (by decide), ?_⟩
        refine N_done (by rw [hops]; kernel_rfl) ?_
        clear hops ops
        go_wp2_with fail
        go_meet
        exact ⟨v2.heap.size, rfl, HS2.2.size, by rw [HX0.out]; exact heap_new _ _, HS2.2.alloc _⟩
      · intro K hK
        go_wp2_with fail
        have HS2 := keepE H.out HS1 ((Ext.refl _).alloc (.cells #[.int .u64 0, .int .u64 0, .int .u64 0] 91))
        refine ⟨fun _ => HS2, ?_⟩
        refine N_one (i := 7) (by rw [hops, List.getElem?_toArray]; rfl) (by rw [hops]; kernel_rfl) (by first | rfl | (rw [hops]; rfl)) ?_
        intro K hK
        go_wp2_with fail
        refine (Add_int p hp _ (UInt64.ofNat l.length) l.length (len_u hlen) _).mono ?_
        rintro e v2 ⟨rfl, hb2⟩
        have HS3 := keepE H.out HS2 hb2
        refine hK _ _ ⟨fun _ => HS3, ?_⟩
        clear hK K
        refine N_take (i := 8) (v := ?_) (by rw [hops, List.getElem?_toArray]; rfl) (by rw [hops]; kernel_rfl) (by intro c a d v w h; cases d <;> exact h) (by first | rfl | (rw [hops]; rfl)) ?_ HS3 ?_
        rotate_left
        · intro v h; go_simp; with_reducible rfl
        simp only [Act.put, List.getElem_toArray, List.getElem_cons_zero, List.getElem_cons_succ, List.setIfInBounds_toArray, List.set_cons_zero, List.set_cons_succ]
        have z0 := cell_zero hb2 0 (by omega)
        have z1 := cell_zero hb2 1 (by omega)
        have z2 := cell_zero hb2 2 (by omega)
        have zf := frozen_zero hb2
        refine N_one (i := 10) (by rw [hops, List.getElem?_toArray]; rfl) (by rw [hops]; kernel_rfl) (by first | rfl | (rw [hops]; rfl)) ?_
        intro K hK
        go_wp2_with fail
        refine ⟨fun h => absurd h (by decide), ?_⟩
        refine N_done (by rw [hops]; kernel_rfl) ?_
        clear hops ops
        clear z0 z1 z2 zf
        go_wp2_with fail
        go_meet
        exact ⟨v1.heap.size, rfl, HS1.2.size, by rw [HX0.out]; exact stored3 hb2 _ _ _, stored3E HS1.2 hb2 _ _ _⟩
    · intro K hK
      go_wp2_with fail
      have HS1 := keepE H.out HS ((Ext.refl _).alloc (.cells #[.int .u64 0, .int .u64 0, .int .u64 0] 91))
      refine ⟨fun _ => HS1, ?_⟩
      refine N_one (i := 3) (by rw [hops, List.getElem?_toArray]; rfl) (by rw [hops]; kernel_rfl) (by first | rfl | (rw [hops]; rfl)) ?_
      intro K hK
      go_wp2_with fail
      refine (Mul_unit p hp label _).mono ?_
      rintro e v1 ⟨rfl, hb1⟩
      have HS2 := keepE H.out HS1 hb1
      refine hK _ _ ⟨fun _ => HS2, ?_⟩
      clear hK K
      refine N_one (i := 7) (by rw [hops, List.getElem?_toArray]; rfl) (by rw [hops]; kernel_rfl) (by first | rfl | (rw [hops]; rfl)) ?_
      intro K hK
      go_wp2_with fail
      refine (Add_int p hp _ (UInt64.ofNat l.length) l.length (len_u hlen) _).mono ?_
      rintro e v2 ⟨rfl, hb2⟩
      have HS3 := keepE H.out HS2 hb2
      have hb3 := (Ext.refl (w0.alloc (.cells #[.int .u64 0, .int .u64 0, .int .u64 0] 91))).drew.trans (hb1.trans hb2)
      refine hK _ _ ⟨fun _ => HS3, ?_⟩
      clear hK K
      refine N_take (i := 8) (v := ?_) (by rw [hops, List.getElem?_toArray]; rfl) (by rw [hops]; kernel_rfl) (by intro c a d v w h; cases d <;> exact h) (by first | rfl | (rw [hops]; rfl)) ?_ HS3 ?_
      rotate_left
      · intro v h; go_simp; with_reducible rfl
      simp only [Act.put, List.getElem_toArray, List.getElem_cons_zero, List.getElem_cons_succ, List.setIfInBounds_toArray, List.set_cons_zero, List.set_cons_succ]
      have z0 := cell_zero hb3 0 (by omega)
      have z1 := cell_zero hb3 1 (by omega)
      have z2 := cell_zero hb3 2 (by omega)
      have zf := frozen_zero hb3
      refine N_one (i := 10) (by rw [hops, List.getElem?_toArray]; rfl) (by rw [hops]; kernel_rfl) (by first | rfl | (rw [hops]; rfl)) ?_
      intro K hK
      go_wp2_with fail
      refine ⟨fun h => absurd h (by decide), ?_⟩
      refine N_done (by rw [hops]; kernel_rfl) ?_
      clear hops ops
      clear z0 z1 z2 zf
      go_wp2_with fail
      go_meet
      exact ⟨w0.heap.size, rfl, Nat.le_refl _, by rw [HX0.out]; exact stored3 hb3 _ _ _, stored3E (Ext.refl _) hb3 _ _ _⟩
  case rest =>
    obtain ⟨g, rfl, hg, hB, hE2⟩ := hcut
    have R0 := hid (hE2.heap_some hr0)
    have R1 := hid (hE2.heap_some hr1)
    have EW := hid (hE.trans hE2)
    have HB := hid hB
    have hgn : n + 1 < g := by omega
    have hlw : ∀ b o, a = some ⟨b, o, none⟩ → 0 < l.length → b < n := fun b o ha h0 => by
      obtain ⟨_, hc⟩ := hcell _ ha
      have h1 : b < w.heap.size := cell_lt (hc 0 l[0] (by simp [h0]))
      rw [HN.out] at h1; exact h1
    have HLW := hid hlw
    have HC := hid hcell
    have HNIL := hid hnil
    clear hcell hlw hE hE2 hr0 hr1 hz hB hg hnil
    by_cases hl0 : l.length = 0
    · have hle : ((l.length : Int) == 0) = true := by rw [hl0]; rfl
      have c0 : wc.cell? ⟨g, 0, none⟩ = some (.int .u64 0) := cell_of HB.out 0
      have c1 : wc.cell? ⟨g, 1, none⟩ = some (.int .u64 0) := cell_of HB.out 1
      have c2 : wc.cell? ⟨g, 2, none⟩ = some (.int .u64 x0.toNat) := cell_of HB.out 2
      have HL0 := hid hl0
      clear hl0
      go_wp2_with fail
      refine (Permute_any p hp ⟨0, 0, x0⟩ _).mono ?_
      rintro e v1 ⟨rfl, hb1⟩
      have HR := hb1.heap_some R0.out
      have d0 : v1.cell? ⟨n, 0, none⟩ = some (.int .u64 0) := cell_of HR 0
      have d1 : v1.cell? ⟨n, 1, none⟩ = some (.int .u64 0) := cell_of HR 1
      have d2 : v1.cell? ⟨n, 2, none⟩ = some (.int .u64 0) := cell_of HR 2
      have df : ∀ i, v1.frozen? ⟨n, i, none⟩ = false := fun i => frozen_of HR i
      have HR' := hid HR
      clear HR c0 c1 c2
      go_wp2
      have hfn : sponge label l = perm ⟨0, 0, x0⟩ := by
        have : l = [] := List.eq_nil_of_length_eq_zero HL0.out
        rw [HX0.out]; subst this; simp [sponge]
      have hB3 := heap_setCell_same (heap_setCell_same (heap_setCell_same HR'.out 0 (.int .u64 (perm ⟨0, 0, x0⟩).a.toNat)) 1 (.int .u64 (perm ⟨0, 0, x0⟩).b.toNat)) 2 (.int .u64 (perm ⟨0, 0, x0⟩).c.toNat)
      have r0 := cell_of hB3 0
      have r1 := cell_of hB3 1
      have r2 := cell_of hB3 2
      have hnn := HN.out
      have hfin := (((EW.out.trans hb1).setCell (p := ⟨n, 0, none⟩) (Nat.le_of_eq hnn) (.int .u64 (perm ⟨0, 0, x0⟩).a.toNat)).setCell (p := ⟨n, 1, none⟩) (Nat.le_of_eq hnn) (.int .u64 (perm ⟨0, 0, x0⟩).b.toNat)).setCell (p := ⟨n, 2, none⟩) (Nat.le_of_eq hnn) (.int .u64 (perm ⟨0, 0, x0⟩).c.toNat)
      exact bodyPost_ret (v := (sponge label l).v) (by rw [hfn]; simp [results, Try.results61, go_sem, r0, r1, r2]) rfl ⟨rfl, hfin⟩
    · have hle : ((l.length : Int) == 0) = false := by simp; intro h; exact hl0 (by rw [h]; rfl)
      obtain ⟨b, o, rfl⟩ : ∃ b o, a = some ⟨b, o, none⟩ := by
        cases a with
        | none => have := HNIL.out rfl; omega
        | some ad => obtain ⟨h1, _⟩ := HC.out ad rfl; exact ⟨ad.block, ad.off, by cases ad; simp only at h1; subst h1; rfl⟩
      have hbn := HLW.out b o rfl (by omega)
      obtain ⟨_, hcl0⟩ := HC.out _ rfl
      have hcl := hid hcl0
      have hsp : absorbAll ⟨0, 0, x0⟩ l = sponge label l := by
        unfold sponge; rw [if_neg (by rintro rfl; exact hl0 rfl), HX0.out]
      have HSP := hid hsp
      clear hcl0 hsp hl0
      go_wp2_with fail
      go_loopw [9] (fun iv wr => ∃ (i : Nat) (s : S3) (r : List UInt64), iv = .int .i64 i ∧ i ≤ l.length + 1 ∧ Hid (l.drop i = r) ∧ Hid (absorbAll s r = sponge label l) ∧ wr.heap[g]? = some (.cells s.arr 91 (0, 0)) ∧ Kp (fun k => k = g) wc wr) (fun iv _ => (l.length + 2 - intOf iv).toNat)
      case atStart => exact ⟨0, ⟨0, 0, x0⟩, l, rfl, by omega, hid rfl, HSP, HB.out, Kp.refl _ _⟩
      case round =>
        obtain ⟨i, s, r, rfl, hil, hdr, hab, hBw, hKw⟩ := hrel
        have c0 : wr.cell? ⟨g, 0, none⟩ = some (.int .u64 s.a.toNat) := cell_of hBw 0
        have c1 : wr.cell? ⟨g, 1, none⟩ = some (.int .u64 s.b.toNat) := cell_of hBw 1
        have c2 : wr.cell? ⟨g, 2, none⟩ = some (.int .u64 s.c.toNat) := cell_of hBw 2
        have HBw := hid hBw
        have HKw := hid hKw
        clear hBw hKw
        cases r with
        | nil =>
          have hge : ¬ (i : Int) < l.length := by
            have := hdr.out
            intro h
            have h2 : (l.drop i).length = 0 := by rw [this]; rfl
            rw [List.length_drop] at h2; omega
          have hfn : s = sponge label l := hab.out
          have HF := hid hfn
          have HR := HKw.out.heap_some (by omega) R0.out
          have d0 : wr.cell? ⟨n, 0, none⟩ = some (.int .u64 0) := cell_of HR 0
          have d1 : wr.cell? ⟨n, 1, none⟩ = some (.int .u64 0) := cell_of HR 1
          have d2 : wr.cell? ⟨n, 2, none⟩ = some (.int .u64 0) := cell_of HR 2
          have df : ∀ i, wr.frozen? ⟨n, i, none⟩ = false := fun i => frozen_of HR i
          have HR' := hid HR
          clear HR hfn
          go_wp2
          have hB3 := heap_setCell_same (heap_setCell_same (heap_setCell_same HR'.out 0 (.int .u64 s.a.toNat)) 1 (.int .u64 s.b.toNat)) 2 (.int .u64 s.c.toNat)
          have r0 := cell_of hB3 0
          have r1 := cell_of hB3 1
          have r2 := cell_of hB3 2
          have hnn := HN.out
          have hfin := (((EW.out.kp HKw.out (by intro k hk; omega)).setCell (p := ⟨n, 0, none⟩) (Nat.le_of_eq hnn) (.int .u64 s.a.toNat)).setCell (p := ⟨n, 1, none⟩) (Nat.le_of_eq hnn) (.int .u64 s.b.toNat)).setCell (p := ⟨n, 2, none⟩) (Nat.le_of_eq hnn) (.int .u64 s.c.toNat)
          exact bodyPost_ret (v := (sponge label l).v) (by rw [← HF.out]; simp [results, Try.results61, go_sem, r0, r1, r2]) rfl ⟨rfl, hfin⟩
        | cons x r1 =>
          obtain ⟨hx, hilt, hdr1⟩ := drop_cons hdr.out
          have hlt : (i : Int) < l.length := by omega
          have hbg : b ≠ g := by omega
          have cx0 : wr.cell? ⟨b, o + i, none⟩ = some (.int .u64 x.toNat) := HKw.out.cell_some hbg (EW.out.cell_some (hcl.out i x hx))
          have HDR := hid hdr1
          have HAB := hab
          have hc1 : wr.cell? ⟨n + 1, 0, none⟩ = some (.int .u64 p) := HKw.out.cell_some (by omega) (cell_of R1.out 0)
          have H : Hid (∀ v, Ext wr v → v.cell? ⟨g, 0, none⟩ = some (.int .u64 s.a.toNat) ∧ v.cell? ⟨b, o + i, none⟩ = some (.int .u64 x.toNat) ∧ v.cell? ⟨n + 1, 0, none⟩ = some (.int .u64 p)) := fun v k => ⟨k.cell_some c0, k.cell_some cx0, k.cell_some hc1⟩
          clear hdr hab hx hdr1 c0 c1 c2 hc1 cx0
          go_wp2_with fail
          refine wp_region_T (fun v => (v.cell? ⟨g, 0, none⟩ = some (.int .u64 s.a.toNat) ∧ v.cell? ⟨b, o + i, none⟩ = some (.int .u64 x.toNat) ∧ v.cell? ⟨n + 1, 0, none⟩ = some (.int .u64 p)) ∧ Ext wr v) 7 [(0, true), (1, true), (2, true), (3, true), (4, true), (5, true), (6, true), (7, false), (8, false), (9, false)] (by kernel_rfl) (by kernel_rfl) (by intro c a d v w h; cases d <;> exact h) ?_
          intro ops hops
          have HS := keep0 H.out
          iterate 7
            refine wpT_take (v := ?_) (by rw [hops, List.getElem?_toArray]; rfl) (by first | rfl | (rw [hops]; rfl)) ?_ HS ?_
            rotate_left
            · intro v h; go_simp; with_reducible rfl
            simp only [Act.put, List.getElem_toArray, List.getElem_cons_zero, List.getElem_cons_succ, List.setIfInBounds_toArray, List.set_cons_zero, List.set_cons_succ]
          refine wpT_step (by rw [hops, List.getElem?_toArray]; rfl) (by first | rfl | (rw [hops]; rfl)) ?_
          intro K hK
          go_wp2_with fail
          refine (Add_any p hp s.a x _).mono ?_
          rintro e v1 ⟨rfl, hb1⟩
          have E1 := HS.2.trans hb1
          have HB1 := hid (E1.heap_some HBw.out)
          have f0 : v1.cell? ⟨g, 0, none⟩ = some (.int .u64 s.a.toNat) := cell_of HB1.out 0
          have ff : ∀ i, v1.frozen? ⟨g, i, none⟩ = false := fun i => frozen_of HB1.out i
          refine hK _ _ ⟨fun h => absurd h (by decide), ?_⟩
          clear hK K
          refine wpT_step (by rw [hops, List.getElem?_toArray]; rfl) (by first | rfl | (rw [hops]; rfl)) ?_
          intro K hK
          go_wp2_with fail
          refine ⟨fun h => absurd h (by decide), ?_⟩
          refine wpT_step (by rw [hops, List.getElem?_toArray]; rfl) (by first | rfl | (rw [hops]; rfl)) ?_
          intro K hK
          go_wp2_with fail
          refine ⟨fun h => absurd h (by decide), ?_⟩
          rw [wpT_nil]
          clear hops ops
          have HB2 := hid (heap_setCell_same HB1.out 0 (.int .u64 (fAdd s.a x).toNat))
          have HK2 := hid ((HKw.out.ext E1).setCell (p := ⟨g, 0, none⟩) (.inl rfl) (.int .u64 (fAdd s.a x).toNat))
          clear f0 ff H HS hb1 E1 HB1 HBw HKw
          generalize v1.setCell ⟨g, 0, none⟩ (.int .u64 (fAdd s.a x).toNat) = v2 at *
          obtain ⟨s1, hs1⟩ : ∃ s1 : S3, s1 = ⟨fAdd s.a x, s.b, s.c⟩ := ⟨_, rfl⟩
          have HB2' : Hid (v2.heap[g]? = some (.cells s1.arr 91 (0, 0))) := by rw [hs1]; exact HB2.out
          have HS1 := hid hs1
          clear HB2 hs1
          cases r1 with
          | nil =>
            have hge : ¬ (i : Int) + 1 < l.length := by
              have := HDR.out
              intro h
              have h2 : (l.drop (i + 1)).length = 0 := by rw [this]; rfl
              rw [List.length_drop] at h2; omega
            have c0 : v2.cell? ⟨g, 0, none⟩ = some (.int .u64 s1.a.toNat) := cell_of HB2'.out 0
            have c1 : v2.cell? ⟨g, 1, none⟩ = some (.int .u64 s1.b.toNat) := cell_of HB2'.out 1
            have c2 : v2.cell? ⟨g, 2, none⟩ = some (.int .u64 s1.c.toNat) := cell_of HB2'.out 2
            go_wp2_with fail
            refine (Permute_any p hp s1 _).mono ?_
            rintro e u ⟨rfl, hbu⟩
            have hBu := hid (hbu.heap_some HB2'.out)
            have e0 : u.cell? ⟨g, 0, none⟩ = some (.int .u64 s1.a.toNat) := cell_of hBu.out 0
            have e1 : u.cell? ⟨g, 1, none⟩ = some (.int .u64 s1.b.toNat) := cell_of hBu.out 1
            have e2 : u.cell? ⟨g, 2, none⟩ = some (.int .u64 s1.c.toNat) := cell_of hBu.out 2
            have ef : ∀ i, u.frozen? ⟨g, i, none⟩ = false := fun i => frozen_of hBu.out i
            clear c0 c1 c2
            go_wp2
            go_roundw
            case rel =>
              refine ⟨i + 2, perm s1, [], by go_num, by omega, ?_, by rw [HS1.out]; exact ab_one HAB, ?_, ?_⟩
              · have := HDR.out
                show l.drop (i + 2) = []
                rw [show i + 2 = (i + 1) + 1 from rfl, ← List.drop_drop, this]; rfl
              · rw [heap_setCell_same (heap_setCell_same (heap_setCell_same hBu.out 0 _) 1 _) 2 _]; rfl
              · exact (((HK2.out.ext hbu).setCell (.inl rfl) _).setCell (.inl rfl) _).setCell (.inl rfl) _
            case measure => simp [intOf]; omega
          | cons y r2 =>
            obtain ⟨hy, hilt1, hdr2⟩ := drop_cons HDR.out
            have hlt1 : (i : Int) + 1 < l.length := by omega
            have cy0 : v2.cell? ⟨b, o + (i + 1), none⟩ = some (.int .u64 y.toNat) := HK2.out.cell_some hbg (EW.out.cell_some (hcl.out (i + 1) y hy))
            have c1 : v2.cell? ⟨g, 1, none⟩ = some (.int .u64 s1.b.toNat) := cell_of HB2'.out 1
            have HDR2 := hid hdr2
            have hc1 : v2.cell? ⟨n + 1, 0, none⟩ = some (.int .u64 p) := HK2.out.cell_some (by omega) (cell_of R1.out 0)
            have H : Hid (∀ v, Ext v2 v → v.cell? ⟨g, 1, none⟩ = some (.int .u64 s1.b.toNat) ∧ v.cell? ⟨b, o + (i + 1), none⟩ = some (.int .u64 y.toNat) ∧ v.cell? ⟨n + 1, 0, none⟩ = some (.int .u64 p)) := fun v k => ⟨k.cell_some c1, k.cell_some cy0, k.cell_some hc1⟩
            clear hy hdr2 c1 hc1 cy0 HDR
            go_wp2_with fail
            have hw1 : IntKind.i64.wrap ((i : Int) + 1) = (i : Int) + 1 := IntWalk.i64_in _ (by omega)
            have hw2 : ((i : Int) + 1).toNat = i + 1 := by omega
            have hw3 : (0 : Int) ≤ (i : Int) + 1 := by omega
            refine wp_region_T (fun v => (v.cell? ⟨g, 1, none⟩ = some (.int .u64 s1.b.toNat) ∧ v.cell? ⟨b, o + (i + 1), none⟩ = some (.int .u64 y.toNat) ∧ v.cell? ⟨n + 1, 0, none⟩ = some (.int .u64 p)) ∧ Ext v2 v) 8 [(0, true), (1, true), (2, true), (3, true), (4, true), (5, true), (6, true), (7, true), (8, false), (9, false), (10, false)] (by kernel_rfl) (by kernel_rfl) (by intro c a d v w h; cases d <;> exact h) ?_
            intro ops hops
            have HS := keep0 H.out
            iterate 8
              refine wpT_take (v := ?_) (by rw [hops, List.getElem?_toArray]; rfl) (by first | rfl | (rw [hops]; rfl)) ?_ HS ?_
              rotate_left
              · intro v h; go_simp; with_reducible rfl
              simp only [Act.put, List.getElem_toArray, List.getElem_cons_zero, List.getElem_cons_succ, List.setIfInBounds_toArray, List.set_cons_zero, List.set_cons_succ]
            refine wpT_step (by rw [hops, List.getElem?_toArray]; rfl) (by first | rfl | (rw [hops]; rfl)) ?_
            intro K hK
            go_wp2_with fail
            refine (Add_any p hp s1.b y _).mono ?_
            rintro e v3 ⟨rfl, hb3⟩
            have E1 := HS.2.trans hb3
            have HB1 := hid (E1.heap_some HB2'.out)
            have f0 : v3.cell? ⟨g, 1, none⟩ = some (.int .u64 s1.b.toNat) := cell_of HB1.out 1
            have ff : ∀ i, v3.frozen? ⟨g, i, none⟩ = false := fun i => frozen_of HB1.out i
            refine hK _ _ ⟨fun h => absurd h (by decide), ?_⟩
            clear hK K
            refine wpT_step (by rw [hops, List.getElem?_toArray]; rfl) (by first | rfl | (rw [hops]; rfl)) ?_
            intro K hK
            go_wp2_with fail
            refine ⟨fun h => absurd h (by decide), ?_⟩
            refine wpT_step (by rw [hops, List.getElem?_toArray]; rfl) (by first | rfl | (rw [hops]; rfl)) ?_
            intro K hK
            go_wp2_with fail
            refine ⟨fun h => absurd h (by decide), ?_⟩
            rw [wpT_nil]
            clear hops ops
            have HB3 := hid (heap_setCell_same HB1.out 1 (.int .u64 (fAdd s1.b y).toNat))
            have HK3 := hid ((HK2.out.ext E1).setCell (p := ⟨g, 1, none⟩) (.inl rfl) (.int .u64 (fAdd s1.b y).toNat))
            clear f0 ff H HS hb3 E1 HB1 HB2' HK2 hw1 hw2 hw3
            generalize v3.setCell ⟨g, 1, none⟩ (.int .u64 (fAdd s1.b y).toNat) = v4 at *
            obtain ⟨s2, hs2⟩ : ∃ s2 : S3, s2 = ⟨s1.a, fAdd s1.b y, s1.c⟩ := ⟨_, rfl⟩
            have HB4 : Hid (v4.heap[g]? = some (.cells s2.arr 91 (0, 0))) := by rw [hs2]; exact HB3.out
            have HS2 := hid hs2
            clear HB3 hs2
            have c0 : v4.cell? ⟨g, 0, none⟩ = some (.int .u64 s2.a.toNat) := cell_of HB4.out 0
            have c1 : v4.cell? ⟨g, 1, none⟩ = some (.int .u64 s2.b.toNat) := cell_of HB4.out 1
            have c2 : v4.cell? ⟨g, 2, none⟩ = some (.int .u64 s2.c.toNat) := cell_of HB4.out 2
            go_wp2_with fail
            refine (Permute_any p hp s2 _).mono ?_
            rintro e u ⟨rfl, hbu⟩
            have hBu := hid (hbu.heap_some HB4.out)
            have e0 : u.cell? ⟨g, 0, none⟩ = some (.int .u64 s2.a.toNat) := cell_of hBu.out 0
            have e1 : u.cell? ⟨g, 1, none⟩ = some (.int .u64 s2.b.toNat) := cell_of hBu.out 1
            have e2 : u.cell? ⟨g, 2, none⟩ = some (.int .u64 s2.c.toNat) := cell_of hBu.out 2
            have ef : ∀ i, u.frozen? ⟨g, i, none⟩ = false := fun i => frozen_of hBu.out i
            clear c0 c1 c2
            go_wp2
            go_roundw
            case rel =>
              refine ⟨i + 2, perm s2, r2, by go_num, by omega, HDR2, by rw [HS2.out, HS1.out]; exact ab_two HAB, ?_, ?_⟩
              · rw [heap_setCell_same (heap_setCell_same (heap_setCell_same hBu.out 0 _) 1 _) 2 _]; rfl
              · exact (((HK3.out.ext hbu).setCell (.inl rfl) _).setCell (.inl rfl) _).setCell (.inl rfl) _
            case measure => simp [intOf]; omega


theorem index0 (a b c : Value) (w : World) : (Instr.index 91 (.agg #[a, b, c]) (.int .i64 0)).run Try.prog w = .ok a w := by kernel_rfl
theorem index1 (a b c : Value) (w : World) : (Instr.index 91 (.agg #[a, b, c]) (.int .i64 1)).run Try.prog w = .ok b w := by kernel_rfl
set_option maxHeartbeats 400000 in
theorem Hash_any (p : Int) (hp : IsBig p) (label : UInt64) (lv : Value) (l : List UInt64) (w : World) (hl : RdU w lv l) (hL : l.length ≤ 1000000000000000) :
    Calls Try.prog 47 #[.int .u64 p, .int .u64 label.toNat, lv] w fun e w' => e = .returned (.int .u64 (hashU label l).toNat) ∧ Ext w w' := by
  obtain ⟨s, hs⟩ : ∃ s, sponge label l = s := ⟨_, rfl⟩
  unfold hashU
  rw [hs]
  have HS := hid hs
  clear hs
  go_enter Try.func47, Try.ntmps47
  go_wp2_with fail
  refine (valid_any p hp _).mono ?_
  rintro e w1 ⟨rfl, hb1⟩
  have hl1 : RdU w1 lv l := by
    obtain ⟨a, c, h1, h2, h3, h4, h5⟩ := hl
    exact ⟨a, c, h1, h2, h3, h4, fun ad ha => ⟨(h5 ad ha).1, fun i x hx => hb1.cell_some ((h5 ad ha).2 i x hx)⟩⟩
  go_wp2_with fail
  have hab := absorb_any p hp label lv l w1 hl1 hL
  rw [HS.out] at hab
  refine hab.mono ?_
  clear hab
  rintro e w2 ⟨rfl, hb2⟩
  have hix := index0 (.int .u64 s.a.toNat) (.int .u64 s.b.toNat) (.int .u64 s.c.toNat)
  go_wp2
  go_ret
  exact ⟨rfl, hb1.trans hb2⟩
end Go.Proofs.Ytkdnnekdldomeaa
