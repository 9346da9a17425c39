/- Program of the oracle. -/
import Derived.Test.YtdpgfjnpcjpdpaaBigDec
set_option linter.unusedSimpArgs false
namespace Go.Proofs.Ytdpgfjnpcjpdpaa
open Go.RowKit
attribute [local irreducible] perm fAdd fMul fPow fSub fNeg fRed

def ProgO (w : World) (b : Nat) (M : Orc) (F : Nat → Prop) (label : UInt64) (l : List UInt64) (a : UInt64) (e : Ending) (w' : World) : Prop :=
  e = .returned (.bool (M.prog label l a).1) ∧ ∃ F', OrcTo w b F (M.prog label l a).2 w' F'
theorem prog_no {M : Orc} {label : UInt64} {l : List UInt64} {a : UInt64} (h : (M.ideal && decide (a < big) && allE l && (findQ M.qs label l).isNone) = false) : M.prog label l a = (false, M) := by
  unfold Orc.prog; rw [h]; rfl
theorem prog_yes {M : Orc} {label : UInt64} {l : List UInt64} {a : UInt64} (h : (M.ideal && decide (a < big) && allE l && (findQ M.qs label l).isNone) = true) : M.prog label l a = (true, M.add label l a) := by
  unfold Orc.prog; rw [h]; rfl

set_option maxRecDepth 100000 in
set_option maxHeartbeats 1600000 in
theorem Program_any {w : World} {b : Nat} {M : Orc} {F : Nat → Prop} {label a : UInt64} {lv : Value} {l : List UInt64} (h : OrcAt w b M F) (hl : RdU w lv l) (hlf : ∀ k, blk lv = some k → ¬ F k)
    (hL : l.length ≤ 1000000000000) (hq : M.qs.length ≤ 1000000000) :
    Calls Try.prog 77 #[.pointer (some ⟨b, 0, none⟩), uv label, lv, uv a] w (ProgO w b M F label l a) := by
  have HH := hid h
  have HL := hid hl
  have HLF := hid hlf
  have HLL := hid hL
  have HQ := hid hq
  clear h hl hlf hL hq
  obtain ⟨qv, mk, ms, mp, Q, S, hin0⟩ := HH.out
  obtain ⟨c0, -⟩ := self_cells hin0.self
  clear hin0
  cases hI : M.ideal with
  | false =>
    rw [hI] at c0
    have HM := hid (prog_no (label := label) (l := l) (a := a) (M := M) (by rw [hI]; rfl))
    clear hI
    go_enter Try.func77, Try.ntmps77
    go_wp2_with fail
    go_ret
    unfold ProgO
    rw [HM.out]
    exact ⟨rfl, F, .of_ext HH.out (Ext.refl _)⟩
  | true =>
    rw [hI] at c0
    cases ha : decide (a < big) with
    | false =>
      have d1 : decide ((18446744069414584321 : Int) ≤ (a.toNat : Int)) = true := by rw [ge_big_dec, ha]; rfl
      have HM := hid (prog_no (label := label) (l := l) (a := a) (M := M) (by rw [hI, ha]; rfl))
      clear hI ha
      go_enter Try.func77, Try.ntmps77
      go_wp2_with fail
      go_ret
      unfold ProgO
      rw [HM.out]
      exact ⟨rfl, F, .of_ext HH.out (Ext.refl _)⟩
    | true =>
      have d1 : decide ((18446744069414584321 : Int) ≤ (a.toNat : Int)) = false := by rw [ge_big_dec, ha]; rfl
      have HAB := hid ha
      have HI := hid hI
      clear hI ha
      go_enter Try.func77, Try.ntmps77
      go_wp2_with fail
      refine (elements_any lv l _ HL.out HLL.out).mono ?_
      rintro e w' ⟨rfl, rfl⟩
      cases hE : allE l with
      | false =>
        have HM := hid (prog_no (label := label) (l := l) (a := a) (M := M) (by rw [HI.out, HAB.out, hE]; rfl))
        clear hE
        go_wp2_with fail
        go_ret
        unfold ProgO
        rw [HM.out]
        exact ⟨rfl, F, .of_ext HH.out (Ext.refl _)⟩
      | true =>
        have HE := hid hE
        clear hE c0
        go_wp2_with fail
        have hk1 : RdU (w.alloc (.cells #[uv label] 28)) (.slice (some ⟨w.heap.size, 0, none⟩) 1 1) [label] := (RdC.new1 w (uv label) 28).rdu rfl
        refine (key_any _ _ l [label] _ (HL.out.ext ((Ext.refl _).alloc _)) hk1 HLL.out (by simp)).mono ?_
        rintro e w1 ⟨rfl, hx0⟩
        have hx := ((Ext.refl w).alloc (.cells #[uv label] 28)).trans hx0
        clear hx0 hk1
        obtain ⟨qv, mk, ms, mp, Q, S, hin⟩ := HH.out.ext hx
        obtain ⟨-, -, -, -, c4, -⟩ := self_cells hin.self
        have HX := hid hx
        have HIN := hid hin
        clear hx hin
        go_wp2_with fail
        have hlk := run_lookup (P := Try.prog) keyStr w1 136 9 3 (.int .i64 0) (by kernel_rfl) (by kernel_rfl) (zero_int w1) mk _ HIN.out.known (keyS [label] l)
        rw [assoc_knownL] at hlk
        cases hf : findQ M.qs label l with
        | some i =>
          simp only [hf, Option.map_some, Option.getD_some, Option.isSome_some] at hlk
          rw [hlk]
          have HM := hid (prog_no (label := label) (l := l) (a := a) (M := M) (by rw [HI.out, HAB.out, HE.out, hf]; rfl))
          clear hf hlk
          go_wp2_with fail
          go_ret
          unfold ProgO
          rw [HM.out]
          exact ⟨rfl, F, .of_ext HH.out HX.out⟩
        | none =>
          simp only [hf, Option.map_none, Option.getD_none, Option.isSome_none] at hlk
          rw [hlk]
          have HM := hid (prog_yes (label := label) (l := l) (a := a) (M := M) (by rw [HI.out, HAB.out, HE.out, hf]; rfl))
          have hnew : assoc (knownL M.qs) (keyS [label] l) = none := by rw [assoc_knownL, hf]; rfl
          have HN := hid hnew
          clear hf hlk hnew c4
          go_wp2_with fail
          refine (record_any ⟨qv, mk, ms, mp, Q, S, HIN.out⟩ (HL.out.ext HX.out) HLF.out HLL.out HQ.out HN.out).mono ?_
          rintro e w3 ⟨rfl, F', hto⟩
          have HTO := hid hto
          clear hto
          go_wp2_with fail
          go_ret
          unfold ProgO
          rw [HM.out]
          exact ⟨rfl, F', HTO.out.pre HX.out⟩
end Go.Proofs.Ytdpgfjnpcjpdpaa
