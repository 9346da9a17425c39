/- Plain: the cipher opened and sealed again; the example of the chapter envelope; a real oracle's envelopes are opened in one way. -/
import Derived.Test.YtgfmjfkdogcnhaaGreatEnv
namespace Go.Proofs.YtgfmjfkdogcnhaaGreat
open Go.RowKit
theorem fAdd_fSub {u x : UInt64} (hx : x < big) : fAdd u (fSub x u) = x := by
  have h := (lt_big_iff x).1 hx
  apply UInt64.toNat_inj.1
  rw [fAdd_nat, fSub_nat]
  omega
theorem permE_lt (s : S3) : (perm s).a < big := (permC_lt s).1
theorem enc_dec (n : Nat) : ∀ (l : List UInt64) (i : Nat) (s : S3), allE l = true → encL n i s (decL n i s l).2 = ((decL n i s l).1, l)
  | [], _, _, _ => by rw [decL, encL]
  | x :: r, i, s, h => by
    simp only [allE, List.all_cons, Bool.and_eq_true, decide_eq_true_eq] at h
    rw [decL_cons]
    simp only
    rw [encL_cons, fAdd_fSub h.1, enc_dec n r _ _ h.2]
theorem absorbE_lt : ∀ (l : List UInt64) (s : S3), s.a < big → (absorbAll s l).a < big
  | [], s, h => by rw [absorb_nil]; exact h
  | [x], s, _ => by rw [absorb_one]; exact permE_lt _
  | x :: y :: r, s, _ => by rw [absorb_two]; exact absorbE_lt r _ (permE_lt _)
theorem hashE_lt (a : UInt64) (l : List UInt64) : hashU a l < big := by
  unfold hashU sponge
  split
  · exact permE_lt _
  · exact absorbE_lt l _ (by show (0 : UInt64) < big; decide)
theorem envKey_lt (s q : E2) : envKey s q < big := hashE_lt _ _
attribute [local irreducible] perm fAdd fMul fPow fSub fNeg fRed hashU drawOf nextState
theorem cipStart_a (k nc : UInt64) (n : Nat) : (cipStart k nc n).a < big := by unfold cipStart; exact permE_lt _
theorem cipE_parts {k nc : UInt64} {l : List UInt64} : cipE k nc l = true ↔ k < big ∧ nc < big ∧ allE l = true := by
  unfold cipE; simp [and_assoc]
theorem allE_append (a b : List UInt64) : allE (a ++ b) = (allE a && allE b) := by unfold allE; rw [List.all_append]
theorem cipOpen_seal {k nc : UInt64} {l : List UInt64} (h : cipE k nc l = true) : cipOpen k nc (cipSeal k nc l) = (l, true) := by
  obtain ⟨h1, h2, h3⟩ := cipE_parts.1 h
  unfold cipSeal
  have ht : (encL l.length 0 (cipStart k nc l.length) l).1.a < big := encL_a l.length l 0 _ (by omega) (.inl (cipStart_a _ _ _))
  have he : cipE k nc ((encL l.length 0 (cipStart k nc l.length) l).2 ++ [(encL l.length 0 (cipStart k nc l.length) l).1.a]) = true := by
    rw [cipE_parts]
    refine ⟨h1, h2, ?_⟩
    rw [allE_append, encL_all]
    simp [allE, ht]
  rw [cipOpen_snoc he, cipDec_seal _ _ _ h3]
  simp
theorem cipOpen_inv {k nc : UInt64} {c p : List UInt64} (h : cipOpen k nc c = (p, true)) : c = cipSeal k nc p := by
  rcases List.eq_nil_or_concat c with rfl | ⟨l, t, rfl⟩
  · rw [cipOpen_nil] at h; cases h
  · rw [List.concat_eq_append] at h ⊢
    cases he : cipE k nc (l ++ [t]) with
    | false => rw [cipOpen_bad he] at h; cases h
    | true =>
      rw [cipOpen_snoc he] at h
      obtain ⟨h1, h2, h3⟩ := cipE_parts.1 he
      rw [allE_append, Bool.and_eq_true] at h3
      cases ht : (cipDec k nc l).2 == t with
      | false => rw [ht] at h; cases h
      | true =>
        rw [ht] at h
        simp only [if_true, Prod.mk.injEq, and_true] at h
        rw [beq_iff_eq] at ht
        subst h ht
        unfold cipSeal cipDec
        simp only
        rw [decL_length, enc_dec _ _ _ _ h3.1]
theorem cipSeal_length (k nc : UInt64) (l : List UInt64) : (cipSeal k nc l).length = l.length + 1 := by
  unfold cipSeal; simp [encL_length]
theorem pick2_inv {l : List UInt64} {ok : Bool} {a b : UInt64} (h : pick2 (l, ok) = (a, b, true)) : (l, ok) = ([a, b], true) := by
  unfold pick2 at h
  split at h
  · next h' => cases h; rw [h']
  · cases h
/-- Two ciphers that a real oracle opens to the same elements are equal. -/
theorem real_one {M : Orc} (hI : M.ideal = false) {view : UInt64} {q : E2} {c d : List UInt64} {a b : UInt64} (hc : M.envOpen view q c = (a, b, true)) (hd : M.envOpen view q d = (a, b, true)) : c = d := by
  unfold Orc.envOpen Orc.openT at hc hd
  rw [hI] at hc hd
  cases hv : validP q with
  | false => rw [hv] at hc; cases hc
  | true =>
    rw [hv] at hc hd
    simp only [if_true, Bool.false_eq_true, if_false] at hc hd
    generalize envKey (pShared q view) q = k at hc hd
    generalize hx : cipOpen k 0 c = x at hc
    generalize hy : cipOpen k 0 d = y at hd
    obtain ⟨l, ok⟩ := x
    obtain ⟨m, is⟩ := y
    rw [pick2_inv hc] at hx
    rw [pick2_inv hd] at hy
    rw [cipOpen_inv hx, cipOpen_inv hy]
/-! ## the example -/
def awN : Nt := ⟨5, 0, 0, 3⟩
theorem awN_ok : awN.ok = true := by decide
theorem pBase_valid : validP pBase = true := by decide
theorem pPublic_zero : pPublic 0 = eOne := rfl
theorem pShared_zero : pShared pBase 0 = eOne := by unfold pShared; rw [pBase_valid]; rfl
def awC : List UInt64 := cipSeal (envKey eOne eOne) 0 [5, 3]
theorem awE : cipE (envKey eOne eOne) 0 [5, 3] = true := cipE_parts.2 ⟨envKey_lt _ _, by decide, by decide⟩
theorem aw_seal : (Orc.fresh false 0).envSeal pBase awN 0 = ((eOne, awC), Orc.fresh false 0) := by
  unfold Orc.envSeal
  rw [pBase_valid, awN_ok, pShared_zero, pPublic_zero]
  unfold Orc.sealT
  rw [show (Orc.fresh false 0).ideal = false from rfl]
  simp only [Bool.and_self, if_true, Bool.false_eq_true, if_false]
  show ((eOne, if cipE (envKey eOne eOne) 0 [5, 3] = true then cipSeal (envKey eOne eOne) 0 [5, 3] else []), _) = _
  rw [awE]; rfl
theorem aw_open : (Orc.fresh false 0).openT (envKey eOne eOne) 0 awC = ([5, 3], true) := by
  unfold Orc.openT
  rw [show (Orc.fresh false 0).ideal = false from rfl]
  exact cipOpen_seal awE
theorem awC_len : awC.length = 3 := by unfold awC; rw [cipSeal_length]; rfl
end Go.Proofs.YtgfmjfkdogcnhaaGreat
