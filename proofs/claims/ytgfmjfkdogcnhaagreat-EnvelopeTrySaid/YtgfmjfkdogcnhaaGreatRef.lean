/- The reference's Element, Elements, Same. -/
import Derived.Test.YtgfmjfkdogcnhaaGreatKey
set_option linter.unusedSimpArgs false
namespace Go.Proofs.YtgfmjfkdogcnhaaGreat
open Go.RowKit
attribute [local irreducible] perm fAdd fMul fPow fSub fNeg fRed

theorem lt_big_dec (x : UInt64) : decide ((x.toNat : Int) < 18446744069414584321) = decide (x < big) := by
  rw [decide_eq_decide]; exact (lt_big_iff x).symm

theorem ge_big_dec (x : UInt64) : decide ((18446744069414584321 : Int) ≤ (x.toNat : Int)) = !decide (x < big) := by
  rw [← lt_big_dec]
  by_cases h : (x.toNat : Int) < 18446744069414584321
  · rw [decide_eq_true h, decide_eq_false (by omega)]; rfl
  · rw [decide_eq_false h, decide_eq_true (by omega)]; rfl

theorem Element_any (x : UInt64) (w : World) : Calls Tryz.prog 68 #[.int .u64 x.toNat] w fun e w' => e = .returned (.bool (decide (x < big))) ∧ w = w' := by
  have h := lt_big_dec x
  go_enter Tryz.func68, Tryz.ntmps68
  go_wp2
  go_ret
  exact ⟨rfl, rfl⟩

set_option maxRecDepth 100000 in
set_option maxHeartbeats 800000 in
theorem Elements_any (lv : Value) (l : List UInt64) (w : World) (hl : RdU w lv l) (hL : l.length ≤ 1000000000000) :
    Calls Tryz.prog 39 #[lv] w fun e w' => e = .returned (.bool (allE l)) ∧ w = w' := by
  obtain ⟨a, c, rfl, hlc, hcm, hnil, hcell⟩ := hl
  have hL1 : (l.length : Int) ≤ 1000000000000 := by omega
  have HC := hid hcell
  have HN := hid hnil
  clear hcell hnil hcm
  go_enter Tryz.func39, Tryz.ntmps39
  go_wp2
  go_loop [3] (fun iv => ∃ i : Nat, i ≤ l.length ∧ iv = .int .i64 i ∧ Hid ((l.take i).all (fun x => decide (x < big)) = true)) (fun iv => l.length - (intOf iv).toNat)
  case atStart => exact ⟨0, by omega, rfl, hid rfl⟩
  case round =>
    obtain ⟨i, hi, rfl, hI⟩ := hrel
    by_cases hlt : i < l.length
    · obtain ⟨b, o, rfl⟩ : ∃ b o, a = some ⟨b, o, none⟩ := by
        cases a with
        | none => have := HN.out rfl; omega
        | some ad => obtain ⟨h1, _⟩ := HC.out ad rfl; exact ⟨ad.block, ad.off, by cases ad; simp only at h1; subst h1; rfl⟩
      have hc := (HC.out _ rfl).2 i l[i] (List.getElem?_eq_getElem hlt)
      have hx : l[i]? = some l[i] := List.getElem?_eq_getElem hlt
      generalize l[i] = x at *
      have hc' : w.cell? ⟨b, o + i, none⟩ = some (.int .u64 x.toNat) := hc
      have HX := hid hx
      clear hc hx
      go_wp2_with fail
      refine (Element_any x _).mono ?_
      rintro e w' ⟨rfl, rfl⟩
      by_cases hb : x < big
      · have hB := hid hb
        rw [show decide (x < big) = true from decide_eq_true hb]
        clear hb
        go_wp2
        go_round
        case rel => exact ⟨i + 1, by omega, by go_num, hid (allE_snoc HX.out hI.out hB.out)⟩
        case measure => simp [intOf]; omega
      · have hfin := allE_bad HX.out hb
        have HF := hid hfin
        rw [show decide (x < big) = false from decide_eq_false hb]
        clear hb hfin
        go_wp2
        go_ret
        exact ⟨ret_bool HF.out.symm, rfl⟩
    · have hfin : allE l = true := by
        have := hI.out
        rwa [List.take_of_length_le (by omega)] at this
      have HF := hid hfin
      clear hfin
      go_wp2
      go_ret
      exact ⟨ret_bool HF.out.symm, rfl⟩

end Go.Proofs.YtgfmjfkdogcnhaaGreat
