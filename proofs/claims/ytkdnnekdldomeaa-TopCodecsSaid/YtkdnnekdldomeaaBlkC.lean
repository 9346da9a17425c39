/- The law's codecClash: two different byte strings with the same hash. -/
import Derived.Test.YtkdnnekdldomeaaBlkR
set_option linter.unusedSimpArgs false
namespace Go.Proofs.Ytkdnnekdldomeaa
open Go.RowKit
attribute [local irreducible] perm fAdd fMul fPow fSub fNeg fRed hashU
theorem str_inj {a b : List UInt8} (h : (⟨a.toArray⟩ : ByteArray) = ⟨b.toArray⟩) : a = b := by
  injection h with h
  have := congrArg Array.toList h
  simpa using this
theorem toList_inj' {s t : ByteArray} (h : s.toList = t.toList) : s = t := by
  rw [ByteArray.toList_eq, ByteArray.toList_eq] at h
  cases s; cases t
  simp only [Array.toList_inj] at h
  rw [h]
theorem str_neq (w : World) {s t : ByteArray} (h : ¬ s = t) : (binOp .neq 9 (.string s) (.string t)).run Try.prog w = .ok (.bool true) w := by
  have h2 : (s.toList == t.toList) = false := by
    rw [beq_eq_false_iff_ne]; exact fun e => h (toList_inj' e)
  simp [binOp_string_neq, h2]
set_option maxRecDepth 100000 in
set_option maxHeartbeats 3200000 in
theorem clash_any (label : UInt64) (av bv : Value) (a b : List UInt8) (w : World) (ha : OwnB w av a) (hb : OwnB w bv b) (la : a.length ≤ 10000000000) (lb : b.length ≤ 10000000000) :
    Calls Try.prog 10 #[.int .u64 label.toNat, av, bv] w fun e w' => e = .returned (.bool (clashB label a b)) ∧ Ext w w' := by
  have hca := run_str w _ _ ha
  have hcb := run_str w _ _ hb
  have HA : Hid (∀ v, Ext w v → Calls Try.prog 25 #[.int .u64 label.toNat, av] v fun e w' => e = .returned (uv (hashB label a)) ∧ Ext v w') := hid fun v k => HashB_any label av a v (OwnB.weak (ownsRow_ext ha k)) la
  have HB : Hid (∀ v, Ext w v → Calls Try.prog 25 #[.int .u64 label.toNat, bv] v fun e w' => e = .returned (uv (hashB label b)) ∧ Ext v w') := hid fun v k => HashB_any label bv b v (OwnB.weak (ownsRow_ext hb k)) lb
  obtain ⟨va, vac, rfl⟩ : ∃ x c, av = .slice x a.length c := by obtain ⟨x, c, h, -⟩ := id (ownsRow_rd ha); exact ⟨x, c, h⟩
  obtain ⟨vb, vbc, rfl⟩ : ∃ x c, bv = .slice x b.length c := by obtain ⟨x, c, h, -⟩ := id (ownsRow_rd hb); exact ⟨x, c, h⟩
  obtain ⟨R, hR⟩ : ∃ R, R = clashB label a b := ⟨_, rfl⟩
  rw [← hR]
  have HR : Hid (R = (decide (a ≠ b) && decide (hashB label a = hashB label b))) := hid hR
  clear hR ha hb
  obtain ⟨s, hs⟩ : ∃ s : ByteArray, s = ⟨a.toArray⟩ := ⟨_, rfl⟩
  obtain ⟨t, ht⟩ : ∃ t : ByteArray, t = ⟨b.toArray⟩ := ⟨_, rfl⟩
  rw [← hs] at hca
  rw [← ht] at hcb
  have HE : Hid (s = t → a = b) := hid fun h => str_inj (by rw [← hs, ← ht, h])
  have HF : Hid (a = b → s = t) := hid fun h => by rw [hs, ht, h]
  clear hs ht
  generalize hashB label a = x at *
  generalize hashB label b = y at *
  go_enter Try.func10, Try.ntmps10
  go_upto_region 1 with fail
  by_cases hst : s = t
  · subst hst
    have hr : R = false := by rw [HR.out, HE.out rfl]; simp
    subst hr
    go_wp2_with fail
    go_ret
    exact ⟨rfl, Ext.refl w⟩
  · have hst2 : ¬ s.toList = t.toList := fun e => hst (toList_inj' e)
    have hst3 : (s.toList == t.toList) = false := by rw [beq_eq_false_iff_ne]; exact hst2
    have hst4 : decide (s.toList = t.toList) = false := decide_eq_false hst2
    have hne : decide (a ≠ b) = true := by
      have : a ≠ b := fun h => hst (HF.out h)
      simp [this]
    have HR2 : Hid (R = decide (x = y)) := hid (by rw [HR.out, hne, Bool.true_and])
    clear hne hst
    go_wp2_with fail
    refine (HA.out _ (Ext.refl w)).mono ?_
    rintro e w1 ⟨rfl, h1⟩
    have H1 := hid h1
    clear h1
    go_wp2_with fail
    refine (HB.out _ H1.out).mono ?_
    rintro e w2 ⟨rfl, h2⟩
    have H2 := hid (H1.out.trans h2)
    clear h2
    have hu := u_bne x y
    by_cases hxy : x = y
    · subst hxy
      have hr : R = true := by rw [HR2.out]; simp
      subst hr
      go_wp2_with fail
      go_ret
      exact ⟨rfl, H2.out⟩
    · have hr : R = false := by rw [HR2.out]; simp [hxy]
      subst hr
      have hN3 : ((x.toNat : Int) == (y.toNat : Int)) = false := by
        rw [beq_eq_false_iff_ne]
        exact fun h => hxy (UInt64.toNat_inj.1 (by omega))
      clear hu
      go_wp2_with fail
      go_ret
      exact ⟨rfl, H2.out⟩
end Go.Proofs.Ytkdnnekdldomeaa
