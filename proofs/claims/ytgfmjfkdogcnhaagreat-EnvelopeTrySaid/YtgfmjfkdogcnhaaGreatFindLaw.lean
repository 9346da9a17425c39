/- Plain: what was sealed for an address of a wallet is opened with its view exponent. -/
import Derived.Test.YtgfmjfkdogcnhaaGreatEnvLaw
import Derived.Test.YtgfmjfkdogcnhaaGreatSealRel
namespace Go.Proofs.YtgfmjfkdogcnhaaGreat
open Go.RowKit
/-! ## powers in the group -/
theorem eRep_mul (x : E2) (m : Nat) : ∀ n, eRep (eRep x m) n = eRep x (m * n)
  | 0 => rfl
  | n + 1 => by
    show eMul (eRep (eRep x m) n) (eRep x m) = _
    rw [eRep_mul x m n, eRep_add, Nat.mul_succ]
theorem eRep_both (x y : E2) : ∀ n, eRep (eMul x y) n = eMul (eRep x n) (eRep y n)
  | 0 => (one_eMul eOne_red).symm
  | n + 1 => by
    show eMul (eRep (eMul x y) n) (eMul x y) = eMul (eMul (eRep x n) x) (eMul (eRep y n) y)
    rw [eRep_both x y n, eMul_assoc, eMul_assoc, ← eMul_assoc (eRep y n) x y, eMul_comm (eRep y n) x, eMul_assoc x]
theorem eRep_eOne : ∀ n, eRep eOne n = eOne
  | 0 => rfl
  | n + 1 => by
    show eMul (eRep eOne n) eOne = eOne
    rw [eRep_eOne n, one_eMul eOne_red]
def pInv : E2 := ⟨12297829379609722880, 12297829379609722881⟩
theorem pInv_eq : eMul pBase pInv = eOne := by
  have h : (eMul pBase pInv).a = 1 ∧ (eMul pBase pInv).b = 0 := by constructor <;> decide +kernel
  have e : eMul pBase pInv = ⟨(eMul pBase pInv).a, (eMul pBase pInv).b⟩ := rfl
  rw [e, h.1, h.2]; rfl
attribute [local irreducible] fAdd fMul
theorem zero_eMul (y : E2) (z : E2) (hz : z.a = 0 ∧ z.b = 0) : (eMul z y).a = 0 := by
  have h1 : ∀ t, fMul z.a t = 0 := fun t => by
    apply UInt64.toNat_inj.1
    rw [fMul_toNat, hz.1]; simp
  have h2 : ∀ t, fMul z.b t = 0 := fun t => by
    apply UInt64.toNat_inj.1
    rw [fMul_toNat, hz.2]; simp
  show fAdd _ _ = 0
  rw [h1, h2]
  apply UInt64.toNat_inj.1
  rw [fAdd_toNat, fMul_toNat]; simp
theorem pPublic_valid (e : UInt64) : validP (pPublic e) = true := by
  have hr : (pPublic e).red := eRep_red _ _
  unfold validP
  rw [show decide ((pPublic e).a < big) = true by simp only [decide_eq_true_eq]; exact big_of hr.1, show decide ((pPublic e).b < big) = true by simp only [decide_eq_true_eq]; exact big_of hr.2]
  cases ha : (pPublic e).a == 0 with
  | false => rfl
  | true =>
    cases hb : (pPublic e).b == 0 with
    | false => rfl
    | true =>
      exfalso
      rw [beq_iff_eq] at ha hb
      have h1 := eRep_both pBase pInv e.toNat
      rw [pInv_eq, eRep_eOne] at h1
      have h2 := zero_eMul (eRep pInv e.toNat) (pPublic e) ⟨ha, hb⟩
      have h3 : eMul (pPublic e) (eRep pInv e.toNat) = eOne := h1.symm
      rw [h3] at h2
      exact absurd h2 (by decide)
theorem pShared_comm (v e : UInt64) : pShared (pPublic v) e = pShared (pPublic e) v := by
  unfold pShared
  rw [pPublic_valid, pPublic_valid, if_pos rfl, if_pos rfl]
  unfold pPublic ePow
  rw [eRep_mul, eRep_mul, Nat.mul_comm]
/-! ## sealed and opened -/
attribute [local irreducible] perm fPow fSub fNeg fRed hashU drawOf nextState cipSeal
theorem isSeal_self (k nc : UInt64) (l p : List UInt64) : isSeal ⟨k, nc, l, p⟩ k nc l = true := isSeal_iff.2 ⟨rfl, rfl, rfl⟩
theorem openT_sealT {M : Orc} {k : UInt64} {x y : UInt64} (hs : M.seals = []) (hk : cipE k 0 [x, y] = true) : (M.sealT k 0 [x, y]).2.openT k 0 (M.sealT k 0 [x, y]).1 = ([x, y], true) := by
  cases hI : M.ideal with
  | false =>
    unfold Orc.sealT
    rw [hI, hk]
    simp only [Bool.false_eq_true, if_false, if_true]
    unfold Orc.openT
    rw [hI]
    simp only [Bool.false_eq_true, if_false]
    exact cipOpen_seal hk
  | true =>
    unfold Orc.sealT
    rw [hI]
    simp only [if_true]
    have hf : (findS M.seals k 0 (takeL M ([x, y].length + 1))).isSome = false := by rw [hs]; rfl
    rw [sealI_new hk hf]
    unfold Orc.openT
    rw [addSeal_ideal, steps_ideal, hI, addSeal_seals, steps_seals, hs]
    simp only [if_true, List.nil_append]
    unfold openI findS
    generalize takeL M ([x, y].length + 1) = T
    have h := isSeal_self k 0 T [x, y]
    simp [h]
theorem Nt.ok_parts {n : Nt} (h : n.ok = true) : allE [n.value, n.blind] = true := by
  unfold Nt.ok at h
  simp only [Bool.and_eq_true, decide_eq_true_eq] at h
  obtain ⟨⟨⟨h1, h2⟩, h3⟩, h4⟩ := h
  unfold allE
  simp [big, UInt64.lt_iff_toNat_lt]
  refine ⟨?_, ?_⟩ <;> omega
/-- What was sealed for the point of a view exponent is opened with it. -/
theorem envOpen_sealed {M M1 : Orc} {view e : UInt64} {n : Nt} {q : E2} {c : List UInt64} (hs : M.seals = []) (hn : n.ok = true) (h : M.envSeal (pPublic view) n e = ((q, c), M1)) : M1.envOpen view q c = (n.value, n.blind, true) := by
  unfold Orc.envSeal at h
  rw [pPublic_valid, hn] at h
  simp only [Bool.and_self, if_true] at h
  injection h with h1 h2
  injection h1 with h3 h4
  subst h2 h3 h4
  unfold Orc.envOpen
  rw [pPublic_valid, if_pos rfl, ← pShared_comm view e, openT_sealT hs (cipE_parts.2 ⟨envKey_lt _ _, by decide, Nt.ok_parts hn⟩)]
  rfl
/-! ## the program's oracle and the reference's one, of which only an ideal one is looked at -/
structure Rel2 (M MR : Orc) : Prop where
  ideal : MR.ideal = M.ideal
  rel : M.ideal = true → Rel M MR
theorem Rel2.envSeal {M MR : Orc} (h : Rel2 M MR) (a : E2) (n : Nt) (e : UInt64) : (MR.rEnvSeal a n e).1 = (M.envSeal a n e).1 ∧ Rel2 (M.envSeal a n e).2 (MR.rEnvSeal a n e).2 := by
  cases hI : M.ideal with
  | true =>
    obtain ⟨h1, h2⟩ := (h.rel hI).envSeal a n e
    exact ⟨h1, h2.ideal, fun _ => h2⟩
  | false =>
    have hR := h.ideal.trans hI
    unfold Orc.rEnvSeal Orc.envSeal Orc.rsealT Orc.sealT
    rw [hI, hR]
    simp only [Bool.false_eq_true, if_false]
    cases hv : (validP a && n.ok) with
    | false => exact ⟨rfl, h⟩
    | true => exact ⟨rfl, h⟩
theorem Rel2.envOpen {M MR : Orc} (h : Rel2 M MR) (view : UInt64) (pt : E2) (c : List UInt64) : M.envOpen view pt c = openP M.ideal MR.seals view pt c := by
  rw [openP_eq]
  unfold openP
  cases hI : M.ideal with
  | false => rfl
  | true =>
    simp only [if_true]
    unfold openI
    rw [(h.rel hI).seals]
structure AddsD (M N : Orc) : Prop where
  draws : N.draws ≤ M.draws + 3
  qs : N.qs = M.qs
theorem rEnvSeal_addsD (M : Orc) (a : E2) (n : Nt) (e : UInt64) : AddsD M (M.rEnvSeal a n e).2 := by
  unfold Orc.rEnvSeal
  generalize envKey (pShared a e) (pPublic e) = k
  generalize (validP a && n.ok) = b
  have h : AddsD M (M.rsealT k 0 [n.value, n.blind]).2 := by
    unfold Orc.rsealT
    generalize M.ideal = b
    cases b with
    | false =>
      simp only [Bool.false_eq_true, if_false]
      exact ⟨by omega, rfl⟩
    | true =>
      simp only [if_true]
      unfold Orc.rseal
      generalize cipE k 0 [n.value, n.blind] = c
      cases c with
      | false =>
        simp only [Bool.false_eq_true, if_false]
        exact ⟨by omega, rfl⟩
      | true =>
        simp only [if_true]
        exact ⟨by rw [addSeal_draws, steps_draws]; simp, by rw [addSeal_qs, steps_qs]⟩
  generalize M.rsealT k 0 [n.value, n.blind] = r at *
  cases b with
  | false =>
    simp only [Bool.false_eq_true, if_false]
    exact ⟨by omega, rfl⟩
  | true =>
    simp only [if_true]
    exact h
end Go.Proofs.YtgfmjfkdogcnhaaGreat
