/- The permutation of the hash over the prime 2^64 - 2^32 + 1: Constant, Mix and Permute return what their plain laws say, and leave all that was there as it was. Permute over the prime 2^64 - 2^32 + 1 returns what its plain law says, and leaves all that was there as it was. -/
import Derived.Test.YtkdnnekdldomeaaField
import Derived.Test.YtkdnnekdldomeaaRegion
namespace Go.Proofs.Ytkdnnekdldomeaa
open Go.RowKit

/-! ## plain -/
structure S3 where
  a : UInt64
  b : UInt64
  c : UInt64
def pConst (r i : Nat) : UInt64 := fRed (UInt64.ofNat (3 * r + i + 1) * 11400714819323198485)
def pSum (s : S3) : UInt64 := fAdd (fAdd s.a s.b) s.c
def pMix (s : S3) : S3 := ⟨fAdd s.a (pSum s), fAdd s.b (pSum s), fAdd s.c (pSum s)⟩
def pBox (r i : Nat) (x : UInt64) : UInt64 := fPow (fAdd x (pConst r i)) 7
def pRound (r : Nat) (s : S3) : S3 := pMix ⟨pBox r 0 s.a, pBox r 1 s.b, pBox r 2 s.c⟩
def pRounds : Nat → S3 → S3
  | 0, s => s
  | n + 1, s => pRound n (pRounds n s)
def perm (s : S3) : S3 := pRounds 8 s
abbrev S3.v (s : S3) : Value := .agg #[.int .u64 s.a.toNat, .int .u64 s.b.toNat, .int .u64 s.c.toNat]

def incr : UInt64 := 11400714819323198485
theorem pConst_arg (r i : Nat) (hr : r < 8) (hi : i < 3) : IntKind.u64.wrap ((3 * (r : Int) + (i : Int) + 1) * 11400714819323198485) = ((UInt64.ofNat (3 * r + i + 1) * 11400714819323198485).toNat : Int) := by
  rw [IntKind.wrap_u64, UInt64.toNat_mul, toNat_ofNat_lt (by omega)]
  show _ = (((3 * r + i + 1) * 11400714819323198485 % 18446744073709551616 : Nat) : Int)
  omega

set_option maxRecDepth 100000 in
set_option maxHeartbeats 400000 in
theorem Constant_any (p : Int) (hp : IsBig p) (r i : Nat) (hr : r < 8) (hi : i < 3) (w : World) :
    Calls Try.prog 77 #[.int .u64 p, .int .i64 r, .int .i64 i] w fun e w' => e = .returned (.int .u64 (pConst r i).toNat) ∧ Ext w w' := by
  have harg := pConst_arg r i hr hi
  unfold pConst
  generalize UInt64.ofNat (3 * r + i + 1) * 11400714819323198485 = x at *
  go_enter Try.func77, Try.ntmps77
  go_wp2_with fail
  refine (Reduce_any p hp x _).mono ?_
  rintro e w1 ⟨rfl, hb⟩
  go_wp2
  go_ret
  exact ⟨rfl, hb⟩

def MixC (n : Nat) (s : S3) (p : Int) (v : World) : Prop :=
  v.cell? ⟨n, 0, none⟩ = some (.int .u64 s.a.toNat) ∧ v.cell? ⟨n, 1, none⟩ = some (.int .u64 s.b.toNat) ∧ v.cell? ⟨n, 2, none⟩ = some (.int .u64 s.c.toNat) ∧ v.cell? ⟨n + 1 + 1, 0, none⟩ = some (.int .u64 p)
theorem MixC.ow {n m : Nat} {s : S3} {p : Int} {T : TypeId} {w v : World} (h : MixC n s p w) (k : Ow (n + 1) m T w v) : MixC n s p v :=
  ⟨k.kp.cell_some (by omega) h.1, k.kp.cell_some (by omega) h.2.1, k.kp.cell_some (by omega) h.2.2.1, k.kp.cell_some (by omega) h.2.2.2⟩
/-- A block of three cells, written whole. -/
theorem set3 {b : Nat} {T : TypeId} {w0 W : World} {x y z : Value} (h : Ow b 3 T w0 (((W.setCell ⟨b, 0, none⟩ x).setCell ⟨b, 1, none⟩ y).setCell ⟨b, 2, none⟩ z)) :
    (((W.setCell ⟨b, 0, none⟩ x).setCell ⟨b, 1, none⟩ y).setCell ⟨b, 2, none⟩ z).heap[b]? = some (.cells #[x, y, z] T (0, 0)) := by
  obtain ⟨cs, h1, h2⟩ := h.mine
  rw [h1]
  cases hW : W.heap[b]? with
  | none => simp [World.setCell, Array.getElem?_modify, hW] at h1
  | some o =>
    cases o <;> simp [World.setCell, Array.getElem?_modify, hW] at h1
    rename_i c0 T0 fz
    obtain ⟨e1, e2, e3⟩ := h1
    subst e2 e3
    have hc : c0.size = 3 := by rw [← e1] at h2; simpa using h2
    rw [← e1]
    congr 2
    apply Array.ext
    · simp [hc]
    · intro i hi1 hi2
      simp at hi2
      have : i = 0 ∨ i = 1 ∨ i = 2 := by omega
      rcases this with rfl | rfl | rfl <;> simp [hc]
set_option maxHeartbeats 1000000 in
theorem Mix_any (p : Int) (hp : IsBig p) (s : S3) (w : World) :
    Calls Try.prog 78 #[.int .u64 p, s.v] w fun e w' => e = .returned (pMix s).v ∧ Ext w w' := by
  go_enter Try.func78, Try.ntmps78
  go_wp2_with fail
  have hE : Ext w (((w.alloc (.cells #[.int .u64 s.a.toNat, .int .u64 s.b.toNat, .int .u64 s.c.toNat] 91)).alloc (.cells #[.int .u64 0, .int .u64 0, .int .u64 0] 91)).alloc (.cells #[.int .u64 p] 90)) :=
    (((Ext.refl _).alloc _).alloc _).alloc _
  have hz : w.heap.size + 1 < (((w.alloc (.cells #[.int .u64 s.a.toNat, .int .u64 s.b.toNat, .int .u64 s.c.toNat] 91)).alloc (.cells #[.int .u64 0, .int .u64 0, .int .u64 0] 91)).alloc (.cells #[.int .u64 p] 90)).heap.size := by simp
  have hr : (((w.alloc (.cells #[.int .u64 s.a.toNat, .int .u64 s.b.toNat, .int .u64 s.c.toNat] 91)).alloc (.cells #[.int .u64 0, .int .u64 0, .int .u64 0] 91)).alloc (.cells #[.int .u64 p] 90)).heap[w.heap.size + 1]? = some (.cells #[.int .u64 0, .int .u64 0, .int .u64 0] 91 (0, 0)) := by
    refine heap_alloc_some ?_
    have := heap_new (w.alloc (.cells #[.int .u64 s.a.toNat, .int .u64 s.b.toNat, .int .u64 s.c.toNat] 91)) (.cells #[.int .u64 0, .int .u64 0, .int .u64 0] 91)
    simpa using this
  have H : Hid (∀ v, Ext (((w.alloc (.cells #[.int .u64 s.a.toNat, .int .u64 s.b.toNat, .int .u64 s.c.toNat] 91)).alloc (.cells #[.int .u64 0, .int .u64 0, .int .u64 0] 91)).alloc (.cells #[.int .u64 p] 90)) v → MixC w.heap.size s p v) :=
    by unfold Hid; intro v k; refine ⟨k.cell_some ?_, k.cell_some ?_, k.cell_some ?_, k.cell_some ?_⟩ <;> simp [go_sem]
  generalize (((w.alloc (.cells #[.int .u64 s.a.toNat, .int .u64 s.b.toNat, .int .u64 s.c.toNat] 91)).alloc (.cells #[.int .u64 0, .int .u64 0, .int .u64 0] 91)).alloc (.cells #[.int .u64 p] 90)) = w0 at *
  have HR := hid hr
  clear hr
  go_region_held3 (fun v => (v.cell? ⟨w.heap.size, 0, none⟩ = some (.int .u64 s.a.toNat) ∧ v.cell? ⟨w.heap.size, 1, none⟩ = some (.int .u64 s.b.toNat) ∧ v.cell? ⟨w.heap.size, 2, none⟩ = some (.int .u64 s.c.toNat) ∧ v.cell? ⟨w.heap.size + 1 + 1, 0, none⟩ = some (.int .u64 p)) ∧ Ext w0 v)
    (first | exact keep0 H.out | exact keepE H.out ‹_ ∧ _› hb2)
    (first | (go_at_call_of 66 (Value.int .u64 s.a.toNat); refine (Add_any p hp s.a s.b _).mono ?_; rintro e w2 ⟨rfl, hb2⟩)
           | (go_at_call_of 66 (Value.int .u64 s.c.toNat); refine (Add_any p hp (fAdd s.a s.b) s.c _).mono ?_; rintro e w2 ⟨rfl, hb2⟩))
  have E2 := And.right ‹_ ∧ _›
  have O2 : Ow (w.heap.size + 1) 3 91 w2 w2 := Ow.start (E2.heap_some HR.out) rfl
  have H2 : Hid (∀ v, Ow (w.heap.size + 1) 3 91 w2 v → MixC w.heap.size s p v) := fun v k => (H.out w2 E2).ow k
  clear ‹_ ∧ Ext w0 _›
  have f0 : ∀ v, Ow (w.heap.size + 1) 3 91 w2 v → v.cell? ⟨w.heap.size + 1, 0, none⟩ = some (getC v (w.heap.size + 1) 0) := fun v k => k.cell 0 (by omega)
  have f1 : ∀ v, Ow (w.heap.size + 1) 3 91 w2 v → v.cell? ⟨w.heap.size + 1, 1, none⟩ = some (getC v (w.heap.size + 1) 1) := fun v k => k.cell 1 (by omega)
  have f2 : ∀ v, Ow (w.heap.size + 1) 3 91 w2 v → v.cell? ⟨w.heap.size + 1, 2, none⟩ = some (getC v (w.heap.size + 1) 2) := fun v k => k.cell 2 (by omega)
  have ff : ∀ v, Ow (w.heap.size + 1) 3 91 w2 v → ∀ i, v.frozen? ⟨w.heap.size + 1, i, none⟩ = false := fun v k i => k.frozen i
  go_wp2_with fail
  go_region_held3 (fun v => (v.cell? ⟨w.heap.size, 0, none⟩ = some (.int .u64 s.a.toNat) ∧ v.cell? ⟨w.heap.size, 1, none⟩ = some (.int .u64 s.b.toNat) ∧ v.cell? ⟨w.heap.size, 2, none⟩ = some (.int .u64 s.c.toNat) ∧ v.cell? ⟨w.heap.size + 1 + 1, 0, none⟩ = some (.int .u64 p)) ∧ Ow (w.heap.size + 1) 3 91 w2 v)
    (first | exact keepOs H2.out O2.drew | exact keepO H2.out ‹_ ∧ _› hb2 | exact keepOs H2.out (((Ow.setCell (And.right ‹_ ∧ _›) _ _).setCell _ _).setCell _ _))
    (first | (go_at_call_of 66 (Value.int .u64 s.a.toNat); refine (Add_any p hp s.a _ _).mono ?_; rintro e w2 ⟨rfl, hb2⟩)
           | (go_at_call_of 66 (Value.int .u64 s.b.toNat); refine (Add_any p hp s.b _ _).mono ?_; rintro e w2 ⟨rfl, hb2⟩)
           | (go_at_call_of 66 (Value.int .u64 s.c.toNat); refine (Add_any p hp s.c _ _).mono ?_; rintro e w2 ⟨rfl, hb2⟩))
  have O3 := And.right ‹_ ∧ _›
  have hB := set3 O3
  have r0 := cell_of hB 0
  have r1 := cell_of hB 1
  have r2 := cell_of hB 2
  have hfin := (hE.trans E2).kp O3.kp (by intro k hk; omega)
  clear f0 f1 f2 ff
  go_wp2
  exact bodyPost_ret (v := (pMix s).v) (by simp [results, Try.results78, go_sem, r0, r1, r2, pMix, pSum]) rfl ⟨rfl, hfin⟩
end Go.Proofs.Ytkdnnekdldomeaa
namespace Go.Proofs.Ytkdnnekdldomeaa
open Go.RowKit
set_option linter.unusedSimpArgs false

def pPart (r : Nat) : Nat → S3 → S3
  | 0, s => s
  | 1, s => ⟨pBox r 0 s.a, s.b, s.c⟩
  | 2, s => ⟨pBox r 0 s.a, pBox r 1 s.b, s.c⟩
  | _, s => ⟨pBox r 0 s.a, pBox r 1 s.b, pBox r 2 s.c⟩
def S3.get (s : S3) : Nat → UInt64
  | 0 => s.a
  | 1 => s.b
  | _ => s.c
def seven : UInt64 := 7
theorem seven_nat : (7 : Int) = (seven.toNat : Int) := rfl

abbrev S3.arr (s : S3) : Array Value := #[.int .u64 s.a.toNat, .int .u64 s.b.toNat, .int .u64 s.c.toNat]
theorem cells3 (s : S3) (i : Nat) (h : i < 3) : s.arr[i]? = some (.int .u64 (s.get i).toNat) := by
  have : i = 0 ∨ i = 1 ∨ i = 2 := by omega
  rcases this with rfl | rfl | rfl <;> rfl
theorem part_succ {T : TypeId} (r i : Nat) (s : S3) (h : i < 3) (x : UInt64) (hx : x = (pPart r i s).get i) :
    Obj.cells ((pPart r i s).arr.setIfInBounds i (.int .u64 (fPow (fAdd x (pConst r i)) 7).toNat)) T (0, 0) = Obj.cells (pPart r (i + 1) s).arr T (0, 0) := by
  have : i = 0 ∨ i = 1 ∨ i = 2 := by omega
  rcases this with rfl | rfl | rfl <;> (subst hx; simp [pPart, S3.get, S3.arr, pBox])
set_option maxHeartbeats 2000000 in
theorem Permute_any (p : Int) (hp : IsBig p) (s : S3) (w : World) :
    Calls Try.prog 68 #[.int .u64 p, s.v] w fun e w' => e = .returned (perm s).v ∧ Ext w w' := by
  go_enter Try.func68, Try.ntmps68
  go_wp2_with fail
  have hE : Ext w (((w.alloc (.cells #[.int .u64 s.a.toNat, .int .u64 s.b.toNat, .int .u64 s.c.toNat] 91)).alloc (.cells #[.int .u64 0, .int .u64 0, .int .u64 0] 91)).alloc (.cells #[.int .u64 p] 90)) :=
    (((Ext.refl _).alloc _).alloc _).alloc _
  have hr0 : (((w.alloc (.cells #[.int .u64 s.a.toNat, .int .u64 s.b.toNat, .int .u64 s.c.toNat] 91)).alloc (.cells #[.int .u64 0, .int .u64 0, .int .u64 0] 91)).alloc (.cells #[.int .u64 p] 90)).heap[w.heap.size]? = some (.cells #[.int .u64 s.a.toNat, .int .u64 s.b.toNat, .int .u64 s.c.toNat] 91 (0, 0)) :=
    heap_alloc_some (heap_alloc_some (heap_new _ _))
  have hr1 : (((w.alloc (.cells #[.int .u64 s.a.toNat, .int .u64 s.b.toNat, .int .u64 s.c.toNat] 91)).alloc (.cells #[.int .u64 0, .int .u64 0, .int .u64 0] 91)).alloc (.cells #[.int .u64 p] 90)).heap[w.heap.size + 1]? = some (.cells #[.int .u64 0, .int .u64 0, .int .u64 0] 91 (0, 0)) := by
    refine heap_alloc_some ?_
    have := heap_new (w.alloc (.cells #[.int .u64 s.a.toNat, .int .u64 s.b.toNat, .int .u64 s.c.toNat] 91)) (.cells #[.int .u64 0, .int .u64 0, .int .u64 0] 91)
    simpa using this
  have hr2 : (((w.alloc (.cells #[.int .u64 s.a.toNat, .int .u64 s.b.toNat, .int .u64 s.c.toNat] 91)).alloc (.cells #[.int .u64 0, .int .u64 0, .int .u64 0] 91)).alloc (.cells #[.int .u64 p] 90)).heap[w.heap.size + 1 + 1]? = some (.cells #[.int .u64 p] 90 (0, 0)) := by
    have := heap_new ((w.alloc (.cells #[.int .u64 s.a.toNat, .int .u64 s.b.toNat, .int .u64 s.c.toNat] 91)).alloc (.cells #[.int .u64 0, .int .u64 0, .int .u64 0] 91)) (.cells #[.int .u64 p] 90)
    simpa using this
  generalize (((w.alloc (.cells #[.int .u64 s.a.toNat, .int .u64 s.b.toNat, .int .u64 s.c.toNat] 91)).alloc (.cells #[.int .u64 0, .int .u64 0, .int .u64 0] 91)).alloc (.cells #[.int .u64 p] 90)) = w0 at *
  generalize hn : w.heap.size = n at *
  have hc2 : w0.cell? ⟨n + 1 + 1, 0, none⟩ = some (.int .u64 p) := cell_of hr2 0
  go_wp2_with fail
  refine (valid_any p hp _).mono ?_
  rintro e w1 ⟨rfl, hb1⟩
  have hc3 := hb1.cell_some hc2
  clear hc2
  go_wp2_with fail
  refine (Exponent_any p hp _).mono ?_
  rintro e w2 ⟨rfl, hb2⟩
  have R0 := hid (hb2.heap_some (hb1.heap_some hr0))
  have R1 := hid (hb2.heap_some (hb1.heap_some hr1))
  have R2 := hid (hb2.heap_some (hb1.heap_some hr2))
  have E2 := hid ((hE.trans hb1).trans hb2)
  have HN := hid hn
  clear hc3 hb1 hb2 hr0 hr1 hr2 hE hn
  go_wp2_with fail
  go_loopw [17] (fun rv wr => ∃ r : Nat, r ≤ 8 ∧ rv = .int .i64 r ∧ wr.heap[n]? = some (.cells #[.int .u64 (pRounds r s).a.toNat, .int .u64 (pRounds r s).b.toNat, .int .u64 (pRounds r s).c.toNat] 91 (0, 0)) ∧ Kp (fun k => k = n) w2 wr) (fun rv _ => (8 - intOf rv).toNat)
  case atStart => exact ⟨0, by omega, rfl, R0.out, Kp.refl _ _⟩
  case round =>
    obtain ⟨r, hr8, rfl, hB, hK⟩ := hrel
    by_cases hlt : r < 8
    · have hltB : decide ((r : Int) < 8) = true := by simp; omega
      have HB := hid hB
      have HK := hid hK
      clear hB hK
      go_wp2
      obtain ⟨wo, rfl⟩ : ∃ wo : World, wo = wr := ⟨_, rfl⟩
      obtain ⟨s1, hs1⟩ : ∃ s1, s1 = pRounds r s := ⟨_, rfl⟩
      rw [← hs1] at HB
      have HS1' := hid hs1
      clear hs1
      go_loopw [20] (fun iv wr => ∃ i : Nat, i ≤ 3 ∧ iv = .int .i64 i ∧ wr.heap[n]? = some (.cells #[.int .u64 (pPart r i s1).a.toNat, .int .u64 (pPart r i s1).b.toNat, .int .u64 (pPart r i s1).c.toNat] 91 (0, 0)) ∧ Kp (fun k => k = n) w2 wr) (fun iv _ => (3 - intOf iv).toNat)
      case atStart => exact ⟨0, by omega, rfl, HB.out, HK.out⟩
      case round =>
        obtain ⟨i, hi3, rfl, hB, hK⟩ := hrel
        by_cases hlt2 : i < 3
        · have c2 : wr.cell? ⟨n + 1 + 1, 0, none⟩ = some (.int .u64 p) := hK.cell_some (by omega) (cell_of R2.out 0)
          have E1 : Ext wr wr := Ext.refl _
          have hr8' : r < 8 := hlt
          have K2 : ∀ v, Ext wr v → v.cell? ⟨n + 1 + 1, 0, none⟩ = some (.int .u64 p) := fun v k => k.cell_some c2
          have HK := hid hK
          have F2 : ∀ v, Ext wr v → ∀ i, v.frozen? ⟨n, i, none⟩ = false := fun v k => frozen_of (k.heap_some hB)
          have hi2 : ((i : Int)).toNat = i := by omega
          obtain ⟨x, hx⟩ : ∃ x, x = (pPart r i s1).get i := ⟨_, rfl⟩
          have C0 : ∀ v, Ext wr v → v.cell? ⟨n, i, none⟩ = some (.int .u64 x.toNat) := fun v k => by
            rw [cell_of (k.heap_some hB) i, hx]
            exact cells3 _ i hlt2
          have HX := hid hx
          have HB := hid hB
          have hi0 : (0 : Int) ≤ (i : Int) := by omega
          have hi3' : (i : Int) < 3 := by omega
          clear c2 hlt hr8 hi3 hK hB hx
          go_wp2_with fail
          refine wp_region_T (fun v => (v.cell? ⟨n, i, none⟩ = some (.int .u64 x.toNat) ∧ v.cell? ⟨n + 1 + 1, 0, none⟩ = some (.int .u64 p)) ∧ Ext wr v) 13 [(0, true), (1, true), (2, true), (3, true), (4, true), (5, true), (6, true), (7, true), (8, true), (11, true), (9, false), (10, false), (12, false), (13, false), (14, false)] (by kernel_rfl) (by kernel_rfl) (by intro c a d v w h; cases d <;> exact h) ?_
          intro ops hops
          have HS : (wr.drew.cell? ⟨n, i, none⟩ = some (.int .u64 x.toNat) ∧ wr.drew.cell? ⟨n + 1 + 1, 0, none⟩ = some (.int .u64 p)) ∧ Ext wr wr.drew := ⟨⟨C0 _ (Ext.refl _).drew, K2 _ (Ext.refl _).drew⟩, (Ext.refl _).drew⟩
          iterate 10
            refine wpT_take (v := ?_) (by rw [hops, List.getElem?_toArray]; rfl) (by first | rfl | (rw [hops]; rfl)) ?_ HS ?_
            rotate_left
            · intro v h; go_simp; with_reducible rfl
            simp only [Act.put, List.getElem_toArray, List.getElem_cons_zero, List.getElem_cons_succ, List.setIfInBounds_toArray, List.set_cons_zero, List.set_cons_succ]
          refine wpT_step (by rw [hops, List.getElem?_toArray]; rfl) (by first | rfl | (rw [hops]; rfl)) ?_
          intro K hK
          go_wp2_with fail
          refine (Constant_any p hp r i hr8' hlt2 _).mono ?_
          rintro e v1 ⟨rfl, hb1⟩
          have HS1 : (v1.cell? ⟨n, i, none⟩ = some (.int .u64 x.toNat) ∧ v1.cell? ⟨n + 1 + 1, 0, none⟩ = some (.int .u64 p)) ∧ Ext wr v1 := ⟨⟨C0 _ (HS.2.trans hb1), K2 _ (HS.2.trans hb1)⟩, HS.2.trans hb1⟩
          refine hK _ _ ⟨fun _ => HS1, ?_⟩
          clear hK K
          refine wpT_step (by rw [hops, List.getElem?_toArray]; rfl) (by first | rfl | (rw [hops]; rfl)) ?_
          intro K hK
          go_wp2_with fail
          refine (Add_any p hp x (pConst r i) _).mono ?_
          rintro e v2 ⟨rfl, hb2⟩
          have HS2 : (v2.cell? ⟨n, i, none⟩ = some (.int .u64 x.toNat) ∧ v2.cell? ⟨n + 1 + 1, 0, none⟩ = some (.int .u64 p)) ∧ Ext wr v2 := ⟨⟨C0 _ (HS1.2.trans hb2), K2 _ (HS1.2.trans hb2)⟩, HS1.2.trans hb2⟩
          refine hK _ _ ⟨fun _ => HS2, ?_⟩
          clear hK K
          refine wpT_step (by rw [hops, List.getElem?_toArray]; rfl) (by first | rfl | (rw [hops]; rfl)) ?_
          intro K hK
          go_wp2_with fail
          refine (Pow_any p hp (fAdd x (pConst r i)) 7 _).mono ?_
          rintro e v3 ⟨rfl, hb3⟩
          have HS3 : (v3.cell? ⟨n, i, none⟩ = some (.int .u64 x.toNat) ∧ v3.cell? ⟨n + 1 + 1, 0, none⟩ = some (.int .u64 p)) ∧ Ext wr v3 := ⟨⟨C0 _ (HS2.2.trans hb3), K2 _ (HS2.2.trans hb3)⟩, HS2.2.trans hb3⟩
          refine hK _ _ ⟨fun _ => HS3, ?_⟩
          clear hK K
          refine wpT_step (by rw [hops, List.getElem?_toArray]; rfl) (by first | rfl | (rw [hops]; rfl)) ?_
          intro K hK
          go_wp2_with fail
          refine ⟨fun h => absurd h (by decide), ?_⟩
          have hf := F2 v3 HS3.2 i
          have hc := HS3.1.1
          refine wpT_step (by rw [hops, List.getElem?_toArray]; rfl) (by first | rfl | (rw [hops]; rfl)) ?_
          intro K hK
          go_wp2_with fail
          refine ⟨fun h => absurd h (by decide), ?_⟩
          rw [wpT_nil]
          clear hops ops
          have E3 := HS3.2
          clear hb1 hb2 hb3 HS HS1 HS2 HS3 E1 K2 F2 C0 hf hc
          go_wp2
          go_roundw
          case rel =>
            refine ⟨i + 1, by omega, by go_num, ?_, ?_⟩
            · rw [heap_setCell_same (E3.heap_some HB.out) i _, part_succ r i s1 hlt2 x HX.out]
            · exact (HK.out.ext E3).setCell (.inl rfl) _
          case measure => simp [intOf]; omega
        · have hi3'' : i = 3 := by omega
          subst hi3''
          have c0 : wr.cell? ⟨n, 0, none⟩ = some (.int .u64 (pPart r 3 s1).a.toNat) := cell_of hB 0
          have c1 : wr.cell? ⟨n, 1, none⟩ = some (.int .u64 (pPart r 3 s1).b.toNat) := cell_of hB 1
          have c2 : wr.cell? ⟨n, 2, none⟩ = some (.int .u64 (pPart r 3 s1).c.toNat) := cell_of hB 2
          have HB := hid hB
          have HK := hid hK
          obtain ⟨s2, hs2⟩ : ∃ s2, s2 = pPart r 3 s1 := ⟨_, rfl⟩
          rw [← hs2] at c0 c1 c2 HB
          have HS2 := hid hs2
          clear hB hK hs2
          go_wp2_with fail
          refine (Mix_any p hp s2 _).mono ?_
          rintro e v1 ⟨rfl, hb1⟩
          have HB1 := hb1.heap_some HB.out
          have d0 : v1.cell? ⟨n, 0, none⟩ = some (.int .u64 s2.a.toNat) := cell_of HB1 0
          have d1 : v1.cell? ⟨n, 1, none⟩ = some (.int .u64 s2.b.toNat) := cell_of HB1 1
          have d2 : v1.cell? ⟨n, 2, none⟩ = some (.int .u64 s2.c.toNat) := cell_of HB1 2
          have df : ∀ i, v1.frozen? ⟨n, i, none⟩ = false := fun i => frozen_of HB1 i
          have HB2 := hid HB1
          clear c0 c1 c2 HB1
          go_wp2
          go_roundw
          case rel =>
            refine ⟨r + 1, by omega, by go_num, ?_, ?_⟩
            · rw [heap_setCell_same (heap_setCell_same (heap_setCell_same HB2.out 0 _) 1 _) 2 _]
              have e : pRounds (r + 1) s = pMix s2 := by rw [HS2.out, HS1'.out]; rfl
              rw [e]; rfl
            · exact (((HK.out.ext hb1).setCell (.inl rfl) _).setCell (.inl rfl) _).setCell (.inl rfl) _
          case measure => simp [intOf]; omega
    · have hr : r = 8 := by omega
      subst hr
      have c0 : wr.cell? ⟨n, 0, none⟩ = some (.int .u64 (pRounds 8 s).a.toNat) := cell_of hB 0
      have c1 : wr.cell? ⟨n, 1, none⟩ = some (.int .u64 (pRounds 8 s).b.toNat) := cell_of hB 1
      have c2 : wr.cell? ⟨n, 2, none⟩ = some (.int .u64 (pRounds 8 s).c.toNat) := cell_of hB 2
      have HR := hK.heap_some (by omega) R1.out
      have d0 : wr.cell? ⟨n + 1, 0, none⟩ = some (.int .u64 0) := cell_of HR 0
      have d1 : wr.cell? ⟨n + 1, 1, none⟩ = some (.int .u64 0) := cell_of HR 1
      have d2 : wr.cell? ⟨n + 1, 2, none⟩ = some (.int .u64 0) := cell_of HR 2
      have df : ∀ i, wr.frozen? ⟨n + 1, i, none⟩ = false := fun i => frozen_of HR i
      have HK := hid hK
      have HR' := hid HR
      clear hB hK HR
      go_wp2
      have hB3 := heap_setCell_same (heap_setCell_same (heap_setCell_same HR'.out 0 (.int .u64 (pRounds 8 s).a.toNat)) 1 (.int .u64 (pRounds 8 s).b.toNat)) 2 (.int .u64 (pRounds 8 s).c.toNat)
      have r0 := cell_of hB3 0
      have r1 := cell_of hB3 1
      have r2 := cell_of hB3 2
      have hfin := E2.out.kp ((((HK.out.mono (G := fun k => k = n ∨ k = n + 1) (fun _ _ h => .inl h)).setCell (p := ⟨n + 1, 0, none⟩) (.inl (.inr rfl)) (.int .u64 (pRounds 8 s).a.toNat)).setCell (p := ⟨n + 1, 1, none⟩) (.inl (.inr rfl)) (.int .u64 (pRounds 8 s).b.toNat)).setCell (p := ⟨n + 1, 2, none⟩) (.inl (.inr rfl)) (.int .u64 (pRounds 8 s).c.toNat)) (by intro k hk; have := HN.out; omega)
      exact bodyPost_ret (v := (perm s).v) (by simp [results, Try.results68, go_sem, r0, r1, r2, perm]) rfl ⟨rfl, hfin⟩
end Go.Proofs.Ytkdnnekdldomeaa
