/- NotePlain returns true for every note. -/
import Derived.Test.YtdkilbnocmnekaaAwk
set_option linter.unusedSimpArgs false
namespace Go.Proofs.Ytdkilbnocmnekaa
open Go.RowKit
attribute [local irreducible] perm fAdd fMul fPow fSub fNeg fRed hashU
set_option maxRecDepth 100000 in
set_option maxHeartbeats 1600000 in
theorem NotePlain_any (n : Nt) (w : World) : Calls Try.prog 4 #[nv n] w fun e w' => e = .returned (.bool true) ∧ Ext w w' := by
  have HP := hid (notePlain_any n)
  have HV := hid (refValid_any n)
  cases hok : n.ok with
  | false =>
    rw [hok] at HP HV
    simp only [Bool.false_eq_true, if_false] at HP
    clear hok
    obtain ⟨a, b, c, d⟩ := n
    unfold nv at HP HV ⊢
    simp only at HP HV ⊢
    go_enter Try.func4, Try.ntmps4
    go_wp2_with fail
    refine (awake34_any _).mono ?_
    rintro e w1 ⟨rfl, hx⟩
    have hb1 := hx.heap_some (heap_new w (.cells #[uv a, uv b, uv c, uv d] 45))
    have hx1 := ((Ext.refl w).alloc (.cells #[uv a, uv b, uv c, uv d] 45)).trans hx
    have HX := hid hx1
    have HB := hid hb1
    have d0 : w1.cell? ⟨w.heap.size, 0, none⟩ = some (uv a) := cell_of hb1 0
    have d1 : w1.cell? ⟨w.heap.size, 1, none⟩ = some (uv b) := cell_of hb1 1
    have d2 : w1.cell? ⟨w.heap.size, 2, none⟩ = some (uv c) := cell_of hb1 2
    have d3 : w1.cell? ⟨w.heap.size, 3, none⟩ = some (uv d) := cell_of hb1 3
    clear hx hb1 hx1
    go_wp2_with fail
    refine (HP.out _).mono ?_
    rintro e w2 ⟨v, rfl, hrd, hx2, -⟩
    have hb2 := hx2.heap_some HB.out
    have HX2 := hid (HX.out.trans hx2)
    obtain ⟨va, vc, rfl, -⟩ := id hrd
    have e0 : w2.cell? ⟨w.heap.size, 0, none⟩ = some (uv a) := cell_of hb2 0
    have e1 : w2.cell? ⟨w.heap.size, 1, none⟩ = some (uv b) := cell_of hb2 1
    have e2 : w2.cell? ⟨w.heap.size, 2, none⟩ = some (uv c) := cell_of hb2 2
    have e3 : w2.cell? ⟨w.heap.size, 3, none⟩ = some (uv d) := cell_of hb2 3
    clear d0 d1 d2 d3 hb2 hx2 hrd
    go_wp2_with fail
    refine (HV.out _).mono ?_
    rintro e w3 ⟨rfl, hx3⟩
    have HX3 := hid (HX2.out.trans hx3)
    clear hx3 e0 e1 e2 e3
    go_wp2_with fail
    go_ret
    exact ⟨rfl, HX3.out⟩
  | true =>
    rw [hok] at HP HV
    simp only [if_true] at HP
    clear hok
    obtain ⟨a, b, c, d⟩ := n
    unfold nv at HP HV ⊢
    simp only at HP HV ⊢
    go_enter Try.func4, Try.ntmps4
    go_wp2_with fail
    refine (awake34_any _).mono ?_
    rintro e w1 ⟨rfl, hx⟩
    have hb1 := hx.heap_some (heap_new w (.cells #[uv a, uv b, uv c, uv d] 45))
    have hx1 := ((Ext.refl w).alloc (.cells #[uv a, uv b, uv c, uv d] 45)).trans hx
    have HX := hid hx1
    have HB := hid hb1
    have d0 : w1.cell? ⟨w.heap.size, 0, none⟩ = some (uv a) := cell_of hb1 0
    have d1 : w1.cell? ⟨w.heap.size, 1, none⟩ = some (uv b) := cell_of hb1 1
    have d2 : w1.cell? ⟨w.heap.size, 2, none⟩ = some (uv c) := cell_of hb1 2
    have d3 : w1.cell? ⟨w.heap.size, 3, none⟩ = some (uv d) := cell_of hb1 3
    clear hx hb1 hx1
    go_wp2_with fail
    refine (HP.out _).mono ?_
    rintro e w2 ⟨v, rfl, hrd, hx2, -⟩
    have hb2 := hx2.heap_some HB.out
    have HX2 := hid (HX.out.trans hx2)
    have HRD := hid hrd
    obtain ⟨va, vc, rfl, -⟩ := id hrd
    have e0 : w2.cell? ⟨w.heap.size, 0, none⟩ = some (uv a) := cell_of hb2 0
    have e1 : w2.cell? ⟨w.heap.size, 1, none⟩ = some (uv b) := cell_of hb2 1
    have e2 : w2.cell? ⟨w.heap.size, 2, none⟩ = some (uv c) := cell_of hb2 2
    have e3 : w2.cell? ⟨w.heap.size, 3, none⟩ = some (uv d) := cell_of hb2 3
    have HB2 := hid hb2
    clear d0 d1 d2 d3 hb2 hx2 hrd
    go_wp2_with fail
    refine (HV.out _).mono ?_
    rintro e w3 ⟨rfl, hx3⟩
    have hb3 := hx3.heap_some HB2.out
    have e0' : w3.cell? ⟨w.heap.size, 0, none⟩ = some (uv a) := cell_of hb3 0
    have e3' : w3.cell? ⟨w.heap.size, 3, none⟩ = some (uv d) := cell_of hb3 3
    have HX3 := hid (HX2.out.trans hx3)
    have HRD3 := hid (HRD.out.ext hx3)
    clear hx3 hb3 e0 e1 e2 e3
    go_wp2_with fail
    have hr1 := RdC.block (heap_new w3 (.cells #[.int .u64 a.toNat, .int .u64 d.toNat] 22)) (n := 2) (by unfold maxLen; omega)
    have hr2 : RdU (w3.alloc (.cells #[.int .u64 a.toNat, .int .u64 d.toNat] 22)) (.slice (some ⟨w3.heap.size, 0, none⟩) 2 2) [a, d] := hr1.rdu rfl
    refine (Same_any _ _ [a, d] [a, d] _ (HRD3.out.ext ((Ext.refl _).alloc _)) hr2 (by simp) (by simp)).mono ?_
    rintro e w4 ⟨rfl, hx4⟩
    have HX4 := hid ((HX3.out.alloc (.cells #[.int .u64 a.toNat, .int .u64 d.toNat] 22)).trans hx4)
    rw [show ([a, d] == [a, d]) = true from by simp]
    clear hr1 hr2 hx4 e0' e3'
    go_wp2_with fail
    go_ret
    exact ⟨rfl, HX4.out⟩
end Go.Proofs.Ytdkilbnocmnekaa
