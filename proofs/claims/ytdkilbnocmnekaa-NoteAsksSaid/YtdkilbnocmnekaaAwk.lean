/- The examples of the chapter note hold: awake of moidorelaw34. -/
import Derived.Test.YtdkilbnocmnekaaNote2
set_option linter.unusedSimpArgs false
namespace Go.Proofs.Ytdkilbnocmnekaa
open Go.RowKit
theorem hash_note : (hashU 2 [5, 1, 2, 3]).toNat ≠ 0 := by decide +kernel

def M0 : Orc := Orc.fresh false 0
def n0 : Nt := ⟨5, 1, 2, 3⟩
def M1 : Orc := (M0.commit n0).2
theorem commit0 : M0.commit n0 = (hashU 2 [5, 1, 2, 3], ⟨false, 0, 0, [⟨2, [5, 1, 2, 3], hashU 2 [5, 1, 2, 3]⟩], [], []⟩) := by
  have h1 : n0.ok = true := by decide
  have h2 : n0.list = [5, 1, 2, 3] := rfl
  have h3 : allE [5, 1, 2, 3] = true := by decide
  generalize hX : hashU 2 [5, 1, 2, 3] = X
  unfold Orc.commit
  rw [h1, h2]
  unfold Orc.hash
  rw [h3]
  simp only [if_true]
  rw [hX]
  rfl

attribute [local irreducible] perm fAdd fMul fPow fSub fNeg fRed hashU
set_option maxRecDepth 100000 in
set_option maxHeartbeats 1600000 in
theorem awake34_any (w : World) : Calls Try.prog 21 #[] w fun e w' => e = .returned (.bool true) ∧ Ext w w' := by
  obtain ⟨X, hX⟩ : ∃ X, X = hashU 2 [5, 1, 2, 3] := ⟨_, rfl⟩
  have hc0 := commit0
  have hnz := hash_note
  rw [← hX] at hc0 hnz
  have HX := hid hX
  have HC0 := hid hc0
  have hnzB : ((X.toNat : Int) != 0) = true := by simp; omega
  clear hX hc0 hnz
  go_enter Try.func21, Try.ntmps21
  go_wp2_with fail
  refine (Real_any _).mono ?_
  rintro e w1 ⟨b, F, rfl, hat, hx1, hF⟩
  have HAT := hid hat
  have HX1 := hid hx1
  have HF := hid hF
  clear hat hx1 hF
  go_wp2_with fail
  refine (Commit_any (M := M0) (n := n0) HAT.out (by decide) (by decide)).mono ?_
  rintro e w2 ⟨rfl, F2, hto⟩
  have h1 : (M0.commit n0).1 = X := by rw [HC0.out]
  have h2 : (M0.commit n0).2.qs.length = 1 := by rw [HC0.out]; rfl
  have hx2 : Ext w w2 := HX1.out.kp hto.kp HF.out
  have HTO := hid hto
  have HX2 := hid hx2
  rw [h1]
  clear hto hx2 h1
  go_wp2_with fail
  have hr1 := RdC.block (heap_new w2 (.cells #[.int .u64 5, .int .u64 1, .int .u64 2, .int .u64 3] 22)) (n := 4) (by unfold maxLen; omega)
  have hr2 : RdU (w2.alloc (.cells #[.int .u64 5, .int .u64 1, .int .u64 2, .int .u64 3] 22)) (.slice (some ⟨w2.heap.size, 0, none⟩) 4 4) [5, 1, 2, 3] := hr1.rdu rfl
  refine (Hash_any 18446744069414584321 big_is 2 _ [5, 1, 2, 3] _ hr2 (by decide)).mono ?_
  rintro e w3 ⟨rfl, hx3⟩
  have hx3' := ((Ext.refl w2).alloc (.cells #[.int .u64 5, .int .u64 1, .int .u64 2, .int .u64 3] 22)).trans hx3
  have HX3 := hid hx3'
  rw [← HX.out]
  clear hr1 hr2 hx3 hx3'
  have hBX : ((X.toNat : Int) == (X.toNat : Int)) = true := by simp
  have hBX2 : decide ((X.toNat : Int) = (X.toNat : Int)) = true := by simp
  go_wp2_with fail
  refine (Questions_any (HTO.out.at'.ext HX3.out) (by rw [h2]; decide) (by rw [HC0.out]; intro q hq; simp only [List.mem_singleton] at hq; subst hq; simp)).mono ?_
  rintro e w4 ⟨v, Q, rfl, hQ, hown, -, hx4, -⟩
  have hQl : Q.length = 1 := by
    have := congrArg List.length hQ
    rw [List.length_map, h2] at this
    exact this
  obtain ⟨qa, qc, rfl, -⟩ := ownsRow_rd hown
  rw [hQl]
  have HX4 := hid (HX3.out.trans hx4)
  clear hQ hown hx4 hQl Q h2
  go_wp2_with fail
  have hr1 := RdC.block (heap_new w4 (.cells #[.int .u64 8, .int .u64 9] 22)) (n := 2) (by unfold maxLen; omega)
  have hr2 : RdU (w4.alloc (.cells #[.int .u64 8, .int .u64 9] 22)) (.slice (some ⟨w4.heap.size, 0, none⟩) 2 2) [8, 9] := hr1.rdu rfl
  refine (Origin_one _ 8 [9] _ _ _ hr2 (by decide)).mono ?_
  rintro e w5 ⟨rfl, rfl⟩
  have hx5 := (HX2.out.trans HX4.out).alloc (.cells #[.int .u64 8, .int .u64 9] 22)
  have HX5 := hid hx5
  clear hr1 hr2 hx5
  go_wp2
  go_ret
  exact ⟨rfl, HX5.out⟩
end Go.Proofs.Ytdkilbnocmnekaa
