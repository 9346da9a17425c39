/- The cipher as a plain function; what was sealed is opened. -/
import Derived.Test.YtdkilbnocmnekaaKey
set_option linter.unusedSimpArgs false
namespace Go.Proofs.Ytdkilbnocmnekaa
open Go.RowKit

theorem big_nat : big.toNat = 18446744069414584321 := rfl
theorem fRed_nat (a : UInt64) : (fRed a).toNat = a.toNat % 18446744069414584321 := by unfold fRed; rw [UInt64.toNat_mod, big_nat]
theorem fAdd_nat (a b : UInt64) : (fAdd a b).toNat = (a.toNat + b.toNat) % 18446744069414584321 := by
  unfold fAdd; rw [fAdd0_toNat, fRed_nat, fRed_nat]; omega
theorem fNeg_nat (a : UInt64) : (fNeg a).toNat = (18446744069414584321 - a.toNat % 18446744069414584321) % 18446744069414584321 := by
  unfold fNeg; exact toNat_ofNat_lt (by omega)
theorem fSub_nat (a b : UInt64) : (fSub a b).toNat = (a.toNat + (18446744069414584321 - b.toNat % 18446744069414584321)) % 18446744069414584321 := by
  unfold fSub; rw [fAdd_nat, fNeg_nat]; omega
theorem fSub_fAdd {u x : UInt64} (hx : x < big) : fSub (fAdd u x) u = x := by
  have h := (lt_big_iff x).1 hx
  apply UInt64.toNat_inj.1
  rw [fSub_nat, fAdd_nat]
  omega
theorem fAdd_lt_big (a b : UInt64) : fAdd a b < big := by rw [lt_big_iff, fAdd_nat]; omega
theorem big_of {x : UInt64} (h : x.toNat < 18446744069414584321) : x < big := by rw [lt_big_iff]; omega
theorem perm_lt (s : S3) : (perm s).a < big ∧ (perm s).b < big ∧ (perm s).c < big := by
  have h : ∀ r t, (pRound r t).a < big ∧ (pRound r t).b < big ∧ (pRound r t).c < big := fun r t => ⟨fAdd_lt_big _ _, fAdd_lt_big _ _, fAdd_lt_big _ _⟩
  show (pRounds (7 + 1) s).a < big ∧ (pRounds (7 + 1) s).b < big ∧ (pRounds (7 + 1) s).c < big
  exact h _ _
attribute [local irreducible] perm fAdd fMul fPow fSub fNeg fRed

def S3.slot (s : S3) (i : Nat) : UInt64 := if i % 2 = 0 then s.a else s.b
def S3.put (s : S3) (i : Nat) (x : UInt64) : S3 := if i % 2 = 0 then ⟨x, s.b, s.c⟩ else ⟨s.a, x, s.c⟩
def S3.next (s : S3) (n i : Nat) : S3 := if i % 2 = 1 ∨ i + 1 = n then perm s else s
def encL (n : Nat) : Nat → S3 → List UInt64 → S3 × List UInt64
  | _, s, [] => (s, [])
  | i, s, x :: r => ((encL n (i + 1) ((s.put i (fAdd (s.slot i) x)).next n i) r).1, fAdd (s.slot i) x :: (encL n (i + 1) ((s.put i (fAdd (s.slot i) x)).next n i) r).2)
def decL (n : Nat) : Nat → S3 → List UInt64 → S3 × List UInt64
  | _, s, [] => (s, [])
  | i, s, c :: r => ((decL n (i + 1) ((s.put i c).next n i) r).1, fSub c (s.slot i) :: (decL n (i + 1) ((s.put i c).next n i) r).2)
theorem encL_cons (n i : Nat) (s : S3) (x : UInt64) (r : List UInt64) : encL n i s (x :: r) =
    ((encL n (i + 1) ((s.put i (fAdd (s.slot i) x)).next n i) r).1, fAdd (s.slot i) x :: (encL n (i + 1) ((s.put i (fAdd (s.slot i) x)).next n i) r).2) := by rw [encL]
theorem decL_cons (n i : Nat) (s : S3) (c : UInt64) (r : List UInt64) : decL n i s (c :: r) =
    ((decL n (i + 1) ((s.put i c).next n i) r).1, fSub c (s.slot i) :: (decL n (i + 1) ((s.put i c).next n i) r).2) := by rw [decL]
theorem encL_length (n : Nat) : ∀ (l : List UInt64) (i : Nat) (s : S3), (encL n i s l).2.length = l.length
  | [], _, _ => by rw [encL]
  | x :: r, i, s => by rw [encL_cons]; simp only [List.length_cons]; rw [encL_length n r]
theorem decL_length (n : Nat) : ∀ (l : List UInt64) (i : Nat) (s : S3), (decL n i s l).2.length = l.length
  | [], _, _ => by rw [decL]
  | x :: r, i, s => by rw [decL_cons]; simp only [List.length_cons]; rw [decL_length n r]
theorem dec_enc (n : Nat) : ∀ (l : List UInt64) (i : Nat) (s : S3), allE l = true → decL n i s (encL n i s l).2 = ((encL n i s l).1, l)
  | [], _, _, _ => by rw [encL, decL]
  | x :: r, i, s, h => by
    simp only [allE, List.all_cons, Bool.and_eq_true, decide_eq_true_eq] at h
    rw [encL_cons]
    simp only
    rw [decL_cons, fSub_fAdd h.1, dec_enc n r _ _ h.2]
theorem encL_all (n : Nat) : ∀ (l : List UInt64) (i : Nat) (s : S3), allE (encL n i s l).2 = true
  | [], _, _ => by rw [encL]; rfl
  | x :: r, i, s => by
    rw [encL_cons]
    simp only [allE, List.all_cons, Bool.and_eq_true, decide_eq_true_eq]
    exact ⟨fAdd_lt_big _ _, encL_all n r _ _⟩
def cipStart (key nonce : UInt64) (n : Nat) : S3 := perm ⟨key, nonce, fAdd 786432 (UInt64.ofNat n)⟩
def cipSeal (key nonce : UInt64) (l : List UInt64) : List UInt64 := (encL l.length 0 (cipStart key nonce l.length) l).2 ++ [(encL l.length 0 (cipStart key nonce l.length) l).1.a]
def cipE (key nonce : UInt64) (l : List UInt64) : Bool := decide (key < big) && decide (nonce < big) && allE l
def cipDec (key nonce : UInt64) (l : List UInt64) : List UInt64 × UInt64 := ((decL l.length 0 (cipStart key nonce l.length) l).2, (decL l.length 0 (cipStart key nonce l.length) l).1.a)
theorem cipDec_seal (key nonce : UInt64) (l : List UInt64) (h : allE l = true) : cipDec key nonce (encL l.length 0 (cipStart key nonce l.length) l).2 = (l, (encL l.length 0 (cipStart key nonce l.length) l).1.a) := by
  unfold cipDec
  rw [encL_length, dec_enc _ _ _ _ h]
end Go.Proofs.Ytdkilbnocmnekaa
