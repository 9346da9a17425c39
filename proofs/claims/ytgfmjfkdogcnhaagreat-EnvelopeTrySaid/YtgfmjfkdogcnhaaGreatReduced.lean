/- The reference's Reduced: are all numbers of a list elements? -/
import Derived.Test.YtgfmjfkdogcnhaaGreatCip
import Derived.Test.YtgfmjfkdogcnhaaGreatWeak
import Derived.Test.YtgfmjfkdogcnhaaGreatSame
set_option linter.unusedSimpArgs false
namespace Go.Proofs.YtgfmjfkdogcnhaaGreat
open Go.RowKit
attribute [local irreducible] perm fAdd fMul fPow fSub fNeg fRed hashU drawOf nextState
/-! ## the reference's lists -/
theorem allE_take_snoc {l : List UInt64} {i : Nat} {x : UInt64} (h : l[i]? = some x) (hx : x < big) (ha : allE (l.take i) = true) : allE (l.take (i + 1)) = true := by
  rw [List.take_add_one, h]
  simp only [allE, List.all_append, Option.toList_some, List.all_cons, List.all_nil, Bool.and_true, Bool.and_eq_true, decide_eq_true_eq] at ha ⊢
  exact ⟨ha, hx⟩
theorem allE_no {l : List UInt64} {i : Nat} {x : UInt64} (h : l[i]? = some x) (hx : ¬ x < big) : allE l = false := by
  rcases hb : allE l with _ | _
  · rfl
  · unfold allE at hb
    rw [List.all_eq_true] at hb
    have := hb x (List.mem_of_getElem? h)
    simp at this
    exact absurd this hx
set_option maxRecDepth 100000 in
set_option maxHeartbeats 800000 in
theorem rReduced_any (lv : Value) (l : List UInt64) (w : World) (hl : RdU' w lv l) (hL : l.length ≤ 1000000000000) :
    Calls Tryz.prog 86 #[lv] w fun e w' => e = .returned (.bool (allE l)) ∧ Ext w w' := by
  have HL := hid hl
  obtain ⟨aa, ac, rfl, -⟩ := hl
  have hA1 : (l.length : Int) ≤ 1000000000000 := by omega
  go_enter Tryz.func86, Tryz.ntmps86
  go_wp2
  go_loopw [3] (fun iv wr => ∃ i : Nat, i ≤ l.length ∧ iv = .int .i64 i ∧ Hid (allE (l.take i) = true) ∧ Hid (Ext w wr)) (fun iv _ => l.length - (intOf iv).toNat)
  case atStart => exact ⟨0, by omega, rfl, hid rfl, hid (Ext.refl _)⟩
  case round =>
    obtain ⟨i, hi, rfl, HI, HE⟩ := hrel
    by_cases hlt : i < l.length
    · have hx : l[i]? = some l[i] := List.getElem?_eq_getElem hlt
      generalize l[i] = x at *
      obtain ⟨ab, ao, rfl, hca⟩ := (HL.out.rdu (by rintro rfl; simp at hlt)).at hx
      have hd : decide ((i : Int) < (l.length : Int)) = true := by simp; omega
      have i1 : (i : Int) < (l.length : Int) := by omega
      have i0 : (0 : Int) ≤ (i : Int) := by omega
      have hc := HE.out.cell_some hca
      have HX := hid hx
      have HB := hid (lt_big_dec x)
      clear hx hca
      by_cases hb : x < big
      · have hbd : decide ((18446744069414584321 : Int) ≤ (x.toNat : Int)) = false := by rw [ge_big_dec]; simp [hb]
        have H1 := hid (allE_take_snoc HX.out hb HI.out)
        clear hb
        go_wp2
        go_roundw
        case rel => exact ⟨i + 1, by omega, by go_num, H1, HE⟩
        case measure => simp [intOf]; omega
      · have hbd : decide ((18446744069414584321 : Int) ≤ (x.toNat : Int)) = true := by rw [ge_big_dec]; simp [hb]
        have H1 := hid (allE_no HX.out hb)
        clear hb
        go_wp2
        go_ret
        exact ⟨ret_bool H1.out.symm, HE.out⟩
    · have hi' : i = l.length := by omega
      have hd : decide ((i : Int) < (l.length : Int)) = false := by simp; omega
      have HF : Hid (allE l = true) := by have := HI.out; rw [hi', List.take_length] at this; exact hid this
      clear hi'
      go_wp2
      go_ret
      exact ⟨ret_bool HF.out.symm, HE.out⟩
end Go.Proofs.YtgfmjfkdogcnhaaGreat
