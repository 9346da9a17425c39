/- The note package: Mark; the law's 'of'. -/
import Derived.Test.YtdkilbnocmnekaaNote2
set_option linter.unusedSimpArgs false
namespace Go.Proofs.Ytdkilbnocmnekaa
open Go.RowKit
attribute [local irreducible] perm fAdd fMul fPow fSub fNeg fRed

def Orc.mark (M : Orc) (k r : UInt64) : UInt64 × Orc := if allE [k, r] then M.hash 3 [k, r] else (0, M)
def MarkO (w : World) (b : Nat) (M : Orc) (F : Nat → Prop) (k r : UInt64) (e : Ending) (w' : World) : Prop :=
  e = .returned (uv (M.mark k r).1) ∧ ∃ F', OrcTo w b F (M.mark k r).2 w' F'
theorem ge_big_dec (x : UInt64) : decide ((18446744069414584321 : Int) ≤ (x.toNat : Int)) = !decide (x < big) := by
  rw [← lt_big_dec]
  by_cases h : (x.toNat : Int) < 18446744069414584321
  · rw [decide_eq_true h, decide_eq_false (by omega)]; rfl
  · rw [decide_eq_false h, decide_eq_true (by omega)]; rfl

set_option maxRecDepth 100000 in
set_option maxHeartbeats 1600000 in
theorem Mark_any {w : World} {b : Nat} {M : Orc} {F : Nat → Prop} {k r : UInt64} (h : OrcAt w b M F) (hq : M.qs.length ≤ 1000000000) (hn : M.draws ≤ 1000000000000) :
    Calls Try.prog 26 #[.pointer (some ⟨b, 0, none⟩), uv k, uv r] w (MarkO w b M F k r) := by
  have HH := hid h
  have HQ := hid hq
  have HD := hid hn
  have hall : allE [k, r] = (decide (k < big) && decide (r < big)) := by simp [allE]
  have HALL := hid hall
  clear h hq hn hall
  cases hk : decide (k < big) with
  | false =>
    have d1 : decide ((18446744069414584321 : Int) ≤ (k.toNat : Int)) = true := by rw [ge_big_dec, hk]; rfl
    have hm : M.mark k r = (0, M) := by unfold Orc.mark; rw [HALL.out, hk]; rfl
    have HM := hid hm
    clear hk hm
    go_enter Try.func26, Try.ntmps26
    go_wp2_with fail
    go_ret
    unfold MarkO
    rw [HM.out]
    exact ⟨rfl, F, .of_ext HH.out (Ext.refl _)⟩
  | true =>
    have d1 : decide ((18446744069414584321 : Int) ≤ (k.toNat : Int)) = false := by rw [ge_big_dec, hk]; rfl
    cases hr : decide (r < big) with
    | false =>
      have d2 : decide ((18446744069414584321 : Int) ≤ (r.toNat : Int)) = true := by rw [ge_big_dec, hr]; rfl
      have hm : M.mark k r = (0, M) := by unfold Orc.mark; rw [HALL.out, hk, hr]; rfl
      have HM := hid hm
      clear hk hr hm
      go_enter Try.func26, Try.ntmps26
      go_wp2_with fail
      go_ret
      unfold MarkO
      rw [HM.out]
      exact ⟨rfl, F, .of_ext HH.out (Ext.refl _)⟩
    | true =>
      have d2 : decide ((18446744069414584321 : Int) ≤ (r.toNat : Int)) = false := by rw [ge_big_dec, hr]; rfl
      have hm : M.mark k r = M.hash 3 [k, r] := by unfold Orc.mark; rw [HALL.out, hk, hr]; rfl
      have HM := hid hm
      clear hk hr hm
      go_enter Try.func26, Try.ntmps26
      go_wp2_with fail
      have hx := (Ext.refl w).alloc (.cells #[uv k, uv r] 22)
      have hr1 := RdC.block (heap_new w (.cells #[uv k, uv r] 22)) (n := 2) (by unfold maxLen; omega)
      have hap := new_apart (v := .slice (some ⟨w.heap.size, 0, none⟩) 2 2) HH.out (by intro i hi; cases hi; exact Nat.le_refl _)
      have HX := hid hx
      refine (Hash_orc (label := 3) (HH.out.ext hx) (hr1.rdu rfl : RdU _ _ [k, r]) hap (by simp) HQ.out HD.out).mono ?_
      rintro e w3 ⟨rfl, F', hto⟩
      have HTO := hid hto
      clear hto hr1 hap hx
      go_wp2_with fail
      go_ret
      unfold MarkO
      rw [HM.out]
      exact ⟨rfl, F', HTO.out.pre HX.out⟩

def ofM (seed : UInt64) (ideal : Bool) : Orc := if ideal then Orc.fresh true seed else Orc.fresh false 0
set_option maxRecDepth 100000 in
set_option maxHeartbeats 800000 in
theorem of_any (seed : UInt64) (ideal : Bool) (w : World) : Calls Try.prog 27 #[uv seed, .bool ideal] w (NewO w (ofM seed ideal)) := by
  cases ideal with
  | true =>
    have HI := hid (Ideal_any seed)
    go_enter Try.func27, Try.ntmps27
    go_wp2_with fail
    refine (HI.out _).mono ?_
    rintro e w' ⟨b, F, rfl, h⟩
    have H := hid h
    clear h
    go_wp2
    go_ret
    exact ⟨b, F, rfl, H.out⟩
  | false =>
    have HI := hid Real_any
    go_enter Try.func27, Try.ntmps27
    go_wp2_with fail
    refine (HI.out _).mono ?_
    rintro e w' ⟨b, F, rfl, h⟩
    have H := hid h
    clear h
    go_wp2
    go_ret
    exact ⟨b, F, rfl, H.out⟩
end Go.Proofs.Ytdkilbnocmnekaa
