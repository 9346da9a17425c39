/- The permutation of the hash over the prime 2^64 - 2^32 + 1: Constant, Mix and Permute return what their plain laws say, and leave all that was there as it was. -/
import Derived.Test.YtdpgfjnpcjpdpaaFieldOps
namespace Go.Proofs.Ytdpgfjnpcjpdpaa
open Go.RowKit

/-! ## plain -/
structure S3 where
  a : UInt64
  b : UInt64
  c : UInt64
def pConst (r i : Nat) : UInt64 := fRed (UInt64.ofNat (3 * r + i + 1) * 11400714819323198485)
def pSum (s : S3) : UInt64 := fAdd (fAdd s.a s.b) s.c
def pMix (s : S3) : S3 := ⟨fAdd s.a (pSum s), fAdd s.b (pSum s), fAdd s.c (pSum s)⟩
def pBox (r i : Nat) (x : UInt64) : UInt64 := fPow (fAdd x (pConst r i)) 7
def pRound (r : Nat) (s : S3) : S3 := pMix ⟨pBox r 0 s.a, pBox r 1 s.b, pBox r 2 s.c⟩
def pRounds : Nat → S3 → S3
  | 0, s => s
  | n + 1, s => pRound n (pRounds n s)
def perm (s : S3) : S3 := pRounds 8 s
abbrev S3.v (s : S3) : Value := .agg #[.int .u64 s.a.toNat, .int .u64 s.b.toNat, .int .u64 s.c.toNat]

def incr : UInt64 := 11400714819323198485
theorem pConst_arg (r i : Nat) (hr : r < 8) (hi : i < 3) : IntKind.u64.wrap ((3 * (r : Int) + (i : Int) + 1) * 11400714819323198485) = ((UInt64.ofNat (3 * r + i + 1) * 11400714819323198485).toNat : Int) := by
  rw [IntKind.wrap_u64, UInt64.toNat_mul, toNat_ofNat_lt (by omega)]
  show _ = (((3 * r + i + 1) * 11400714819323198485 % 18446744073709551616 : Nat) : Int)
  omega

set_option maxRecDepth 100000 in
set_option maxHeartbeats 400000 in
theorem Constant_any (p : Int) (hp : IsBig p) (r i : Nat) (hr : r < 8) (hi : i < 3) (w : World) :
    Calls Try.prog 141 #[.int .u64 p, .int .i64 r, .int .i64 i] w fun e w' => e = .returned (.int .u64 (pConst r i).toNat) ∧ Ext w w' := by
  have harg := pConst_arg r i hr hi
  unfold pConst
  generalize UInt64.ofNat (3 * r + i + 1) * 11400714819323198485 = x at *
  go_enter Try.func141, Try.ntmps141
  go_wp2_with fail
  refine (Reduce_any p hp x _).mono ?_
  rintro e w1 ⟨rfl, hb⟩
  go_wp2
  go_ret
  exact ⟨rfl, hb⟩

def MixC (n : Nat) (s : S3) (p : Int) (v : World) : Prop :=
  v.cell? ⟨n, 0, none⟩ = some (.int .u64 s.a.toNat) ∧ v.cell? ⟨n, 1, none⟩ = some (.int .u64 s.b.toNat) ∧ v.cell? ⟨n, 2, none⟩ = some (.int .u64 s.c.toNat) ∧ v.cell? ⟨n + 1 + 1, 0, none⟩ = some (.int .u64 p)
theorem MixC.ow {n m : Nat} {s : S3} {p : Int} {T : TypeId} {w v : World} (h : MixC n s p w) (k : Ow (n + 1) m T w v) : MixC n s p v :=
  ⟨k.kp.cell_some (by omega) h.1, k.kp.cell_some (by omega) h.2.1, k.kp.cell_some (by omega) h.2.2.1, k.kp.cell_some (by omega) h.2.2.2⟩
/-- A block of three cells, written whole. -/
theorem set3 {b : Nat} {T : TypeId} {w0 W : World} {x y z : Value} (h : Ow b 3 T w0 (((W.setCell ⟨b, 0, none⟩ x).setCell ⟨b, 1, none⟩ y).setCell ⟨b, 2, none⟩ z)) :
    (((W.setCell ⟨b, 0, none⟩ x).setCell ⟨b, 1, none⟩ y).setCell ⟨b, 2, none⟩ z).heap[b]? = some (.cells #[x, y, z] T (0, 0)) := by
  obtain ⟨cs, h1, h2⟩ := h.mine
  rw [h1]
  cases hW : W.heap[b]? with
  | none => simp [World.setCell, Array.getElem?_modify, hW] at h1
  | some o =>
    cases o <;> simp [World.setCell, Array.getElem?_modify, hW] at h1
    rename_i c0 T0 fz
    obtain ⟨e1, e2, e3⟩ := h1
    subst e2 e3
    have hc : c0.size = 3 := by rw [← e1] at h2; simpa using h2
    rw [← e1]
    congr 2
    apply Array.ext
    · simp [hc]
    · intro i hi1 hi2
      simp at hi2
      have : i = 0 ∨ i = 1 ∨ i = 2 := by omega
      rcases this with rfl | rfl | rfl <;> simp [hc]
set_option maxHeartbeats 1000000 in
theorem Mix_any (p : Int) (hp : IsBig p) (s : S3) (w : World) :
    Calls Try.prog 142 #[.int .u64 p, s.v] w fun e w' => e = .returned (pMix s).v ∧ Ext w w' := by
  go_enter Try.func142, Try.ntmps142
  go_wp2_with fail
  have hE : Ext w (((w.alloc (.cells #[.int .u64 s.a.toNat, .int .u64 s.b.toNat, .int .u64 s.c.toNat] 77)).alloc (.cells #[.int .u64 0, .int .u64 0, .int .u64 0] 77)).alloc (.cells #[.int .u64 p] 176)) :=
    (((Ext.refl _).alloc _).alloc _).alloc _
  have hz : w.heap.size + 1 < (((w.alloc (.cells #[.int .u64 s.a.toNat, .int .u64 s.b.toNat, .int .u64 s.c.toNat] 77)).alloc (.cells #[.int .u64 0, .int .u64 0, .int .u64 0] 77)).alloc (.cells #[.int .u64 p] 176)).heap.size := by simp
  have hr : (((w.alloc (.cells #[.int .u64 s.a.toNat, .int .u64 s.b.toNat, .int .u64 s.c.toNat] 77)).alloc (.cells #[.int .u64 0, .int .u64 0, .int .u64 0] 77)).alloc (.cells #[.int .u64 p] 176)).heap[w.heap.size + 1]? = some (.cells #[.int .u64 0, .int .u64 0, .int .u64 0] 77 (0, 0)) := by
    refine heap_alloc_some ?_
    have := heap_new (w.alloc (.cells #[.int .u64 s.a.toNat, .int .u64 s.b.toNat, .int .u64 s.c.toNat] 77)) (.cells #[.int .u64 0, .int .u64 0, .int .u64 0] 77)
    simpa using this
  have H : Hid (∀ v, Ext (((w.alloc (.cells #[.int .u64 s.a.toNat, .int .u64 s.b.toNat, .int .u64 s.c.toNat] 77)).alloc (.cells #[.int .u64 0, .int .u64 0, .int .u64 0] 77)).alloc (.cells #[.int .u64 p] 176)) v → MixC w.heap.size s p v) :=
    by unfold Hid; intro v k; refine ⟨k.cell_some ?_, k.cell_some ?_, k.cell_some ?_, k.cell_some ?_⟩ <;> simp [go_sem]
  generalize (((w.alloc (.cells #[.int .u64 s.a.toNat, .int .u64 s.b.toNat, .int .u64 s.c.toNat] 77)).alloc (.cells #[.int .u64 0, .int .u64 0, .int .u64 0] 77)).alloc (.cells #[.int .u64 p] 176)) = w0 at *
  have HR := hid hr
  clear hr
  go_region_held3 (fun v => (v.cell? ⟨w.heap.size, 0, none⟩ = some (.int .u64 s.a.toNat) ∧ v.cell? ⟨w.heap.size, 1, none⟩ = some (.int .u64 s.b.toNat) ∧ v.cell? ⟨w.heap.size, 2, none⟩ = some (.int .u64 s.c.toNat) ∧ v.cell? ⟨w.heap.size + 1 + 1, 0, none⟩ = some (.int .u64 p)) ∧ Ext w0 v)
    (first | exact keep0 H.out | exact keepE H.out ‹_ ∧ _› hb2)
    (first | (go_at_call_of 118 (Value.int .u64 s.a.toNat); refine (Add_any p hp s.a s.b _).mono ?_; rintro e w2 ⟨rfl, hb2⟩)
           | (go_at_call_of 118 (Value.int .u64 s.c.toNat); refine (Add_any p hp (fAdd s.a s.b) s.c _).mono ?_; rintro e w2 ⟨rfl, hb2⟩))
  have E2 := And.right ‹_ ∧ _›
  have O2 : Ow (w.heap.size + 1) 3 77 w2 w2 := Ow.start (E2.heap_some HR.out) rfl
  have H2 : Hid (∀ v, Ow (w.heap.size + 1) 3 77 w2 v → MixC w.heap.size s p v) := fun v k => (H.out w2 E2).ow k
  clear ‹_ ∧ Ext w0 _›
  have f0 : ∀ v, Ow (w.heap.size + 1) 3 77 w2 v → v.cell? ⟨w.heap.size + 1, 0, none⟩ = some (getC v (w.heap.size + 1) 0) := fun v k => k.cell 0 (by omega)
  have f1 : ∀ v, Ow (w.heap.size + 1) 3 77 w2 v → v.cell? ⟨w.heap.size + 1, 1, none⟩ = some (getC v (w.heap.size + 1) 1) := fun v k => k.cell 1 (by omega)
  have f2 : ∀ v, Ow (w.heap.size + 1) 3 77 w2 v → v.cell? ⟨w.heap.size + 1, 2, none⟩ = some (getC v (w.heap.size + 1) 2) := fun v k => k.cell 2 (by omega)
  have ff : ∀ v, Ow (w.heap.size + 1) 3 77 w2 v → ∀ i, v.frozen? ⟨w.heap.size + 1, i, none⟩ = false := fun v k i => k.frozen i
  go_wp2_with fail
  go_region_held3 (fun v => (v.cell? ⟨w.heap.size, 0, none⟩ = some (.int .u64 s.a.toNat) ∧ v.cell? ⟨w.heap.size, 1, none⟩ = some (.int .u64 s.b.toNat) ∧ v.cell? ⟨w.heap.size, 2, none⟩ = some (.int .u64 s.c.toNat) ∧ v.cell? ⟨w.heap.size + 1 + 1, 0, none⟩ = some (.int .u64 p)) ∧ Ow (w.heap.size + 1) 3 77 w2 v)
    (first | exact keepOs H2.out O2.drew | exact keepO H2.out ‹_ ∧ _› hb2 | exact keepOs H2.out (((Ow.setCell (And.right ‹_ ∧ _›) _ _).setCell _ _).setCell _ _))
    (first | (go_at_call_of 118 (Value.int .u64 s.a.toNat); refine (Add_any p hp s.a _ _).mono ?_; rintro e w2 ⟨rfl, hb2⟩)
           | (go_at_call_of 118 (Value.int .u64 s.b.toNat); refine (Add_any p hp s.b _ _).mono ?_; rintro e w2 ⟨rfl, hb2⟩)
           | (go_at_call_of 118 (Value.int .u64 s.c.toNat); refine (Add_any p hp s.c _ _).mono ?_; rintro e w2 ⟨rfl, hb2⟩))
  have O3 := And.right ‹_ ∧ _›
  have hB := set3 O3
  have r0 := cell_of hB 0
  have r1 := cell_of hB 1
  have r2 := cell_of hB 2
  have hfin := (hE.trans E2).kp O3.kp (by intro k hk; omega)
  clear f0 f1 f2 ff
  go_wp2
  exact bodyPost_ret (v := (pMix s).v) (by simp [results, Try.results142, go_sem, r0, r1, r2, pMix, pSum]) rfl ⟨rfl, hfin⟩
end Go.Proofs.Ytdpgfjnpcjpdpaa
