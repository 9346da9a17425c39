/- The cipher as a plain function; what was sealed is opened. The cipher: elements, start. -/
import Derived.Test.YtgfmjfkdogcnhaaGreatKey
import Derived.Test.YtgfmjfkdogcnhaaGreatSame
import Derived.Test.YtgfmjfkdogcnhaaGreatAsk
set_option linter.unusedSimpArgs false
namespace Go.Proofs.YtgfmjfkdogcnhaaGreat
open Go.RowKit

theorem big_nat : big.toNat = 18446744069414584321 := rfl
theorem fRed_nat (a : UInt64) : (fRed a).toNat = a.toNat % 18446744069414584321 := by unfold fRed; rw [UInt64.toNat_mod, big_nat]
theorem fAdd_nat (a b : UInt64) : (fAdd a b).toNat = (a.toNat + b.toNat) % 18446744069414584321 := by
  unfold fAdd; rw [fAdd0_toNat, fRed_nat, fRed_nat]; omega
theorem fNeg_nat (a : UInt64) : (fNeg a).toNat = (18446744069414584321 - a.toNat % 18446744069414584321) % 18446744069414584321 := by
  unfold fNeg; exact toNat_ofNat_lt (by omega)
theorem fSub_nat (a b : UInt64) : (fSub a b).toNat = (a.toNat + (18446744069414584321 - b.toNat % 18446744069414584321)) % 18446744069414584321 := by
  unfold fSub; rw [fAdd_nat, fNeg_nat]; omega
theorem fSub_fAdd {u x : UInt64} (hx : x < big) : fSub (fAdd u x) u = x := by
  have h := (lt_big_iff x).1 hx
  apply UInt64.toNat_inj.1
  rw [fSub_nat, fAdd_nat]
  omega
theorem fAdd_lt_big (a b : UInt64) : fAdd a b < big := by rw [lt_big_iff, fAdd_nat]; omega
theorem big_of {x : UInt64} (h : x.toNat < 18446744069414584321) : x < big := by rw [lt_big_iff]; omega
theorem permC_lt (s : S3) : (perm s).a < big ∧ (perm s).b < big ∧ (perm s).c < big := by
  have h : ∀ r t, (pRound r t).a < big ∧ (pRound r t).b < big ∧ (pRound r t).c < big := fun r t => ⟨fAdd_lt_big _ _, fAdd_lt_big _ _, fAdd_lt_big _ _⟩
  show (pRounds (7 + 1) s).a < big ∧ (pRounds (7 + 1) s).b < big ∧ (pRounds (7 + 1) s).c < big
  exact h _ _
attribute [local irreducible] perm fAdd fMul fPow fSub fNeg fRed

def S3.slot (s : S3) (i : Nat) : UInt64 := if i % 2 = 0 then s.a else s.b
def S3.put (s : S3) (i : Nat) (x : UInt64) : S3 := if i % 2 = 0 then ⟨x, s.b, s.c⟩ else ⟨s.a, x, s.c⟩
def S3.next (s : S3) (n i : Nat) : S3 := if i % 2 = 1 ∨ i + 1 = n then perm s else s
def encL (n : Nat) : Nat → S3 → List UInt64 → S3 × List UInt64
  | _, s, [] => (s, [])
  | i, s, x :: r => ((encL n (i + 1) ((s.put i (fAdd (s.slot i) x)).next n i) r).1, fAdd (s.slot i) x :: (encL n (i + 1) ((s.put i (fAdd (s.slot i) x)).next n i) r).2)
def decL (n : Nat) : Nat → S3 → List UInt64 → S3 × List UInt64
  | _, s, [] => (s, [])
  | i, s, c :: r => ((decL n (i + 1) ((s.put i c).next n i) r).1, fSub c (s.slot i) :: (decL n (i + 1) ((s.put i c).next n i) r).2)
theorem encL_cons (n i : Nat) (s : S3) (x : UInt64) (r : List UInt64) : encL n i s (x :: r) =
    ((encL n (i + 1) ((s.put i (fAdd (s.slot i) x)).next n i) r).1, fAdd (s.slot i) x :: (encL n (i + 1) ((s.put i (fAdd (s.slot i) x)).next n i) r).2) := by rw [encL]
theorem decL_cons (n i : Nat) (s : S3) (c : UInt64) (r : List UInt64) : decL n i s (c :: r) =
    ((decL n (i + 1) ((s.put i c).next n i) r).1, fSub c (s.slot i) :: (decL n (i + 1) ((s.put i c).next n i) r).2) := by rw [decL]
theorem encL_length (n : Nat) : ∀ (l : List UInt64) (i : Nat) (s : S3), (encL n i s l).2.length = l.length
  | [], _, _ => by rw [encL]
  | x :: r, i, s => by rw [encL_cons]; simp only [List.length_cons]; rw [encL_length n r]
theorem decL_length (n : Nat) : ∀ (l : List UInt64) (i : Nat) (s : S3), (decL n i s l).2.length = l.length
  | [], _, _ => by rw [decL]
  | x :: r, i, s => by rw [decL_cons]; simp only [List.length_cons]; rw [decL_length n r]
theorem dec_enc (n : Nat) : ∀ (l : List UInt64) (i : Nat) (s : S3), allE l = true → decL n i s (encL n i s l).2 = ((encL n i s l).1, l)
  | [], _, _, _ => by rw [encL, decL]
  | x :: r, i, s, h => by
    simp only [allE, List.all_cons, Bool.and_eq_true, decide_eq_true_eq] at h
    rw [encL_cons]
    simp only
    rw [decL_cons, fSub_fAdd h.1, dec_enc n r _ _ h.2]
theorem encL_all (n : Nat) : ∀ (l : List UInt64) (i : Nat) (s : S3), allE (encL n i s l).2 = true
  | [], _, _ => by rw [encL]; rfl
  | x :: r, i, s => by
    rw [encL_cons]
    simp only [allE, List.all_cons, Bool.and_eq_true, decide_eq_true_eq]
    exact ⟨fAdd_lt_big _ _, encL_all n r _ _⟩
def cipStart (key nonce : UInt64) (n : Nat) : S3 := perm ⟨key, nonce, fAdd 786432 (UInt64.ofNat n)⟩
def cipSeal (key nonce : UInt64) (l : List UInt64) : List UInt64 := (encL l.length 0 (cipStart key nonce l.length) l).2 ++ [(encL l.length 0 (cipStart key nonce l.length) l).1.a]
def cipE (key nonce : UInt64) (l : List UInt64) : Bool := decide (key < big) && decide (nonce < big) && allE l
def cipDec (key nonce : UInt64) (l : List UInt64) : List UInt64 × UInt64 := ((decL l.length 0 (cipStart key nonce l.length) l).2, (decL l.length 0 (cipStart key nonce l.length) l).1.a)
theorem cipDec_seal (key nonce : UInt64) (l : List UInt64) (h : allE l = true) : cipDec key nonce (encL l.length 0 (cipStart key nonce l.length) l).2 = (l, (encL l.length 0 (cipStart key nonce l.length) l).1.a) := by
  unfold cipDec
  rw [encL_length, dec_enc _ _ _ _ h]
end Go.Proofs.YtgfmjfkdogcnhaaGreat
namespace Go.Proofs.YtgfmjfkdogcnhaaGreat
open Go.RowKit
attribute [local irreducible] perm fAdd fMul fPow fSub fNeg fRed

set_option maxRecDepth 100000 in
set_option maxHeartbeats 1600000 in
theorem cipElements_any (key nonce : UInt64) (lv : Value) (l : List UInt64) (w : World) (hl : RdU w lv l) (hL : l.length ≤ 1000000000000) :
    Calls Tryz.prog 83 #[uv key, uv nonce, lv] w fun e w' => e = .returned (.bool (cipE key nonce l)) ∧ w = w' := by
  obtain ⟨a, c, rfl, hlc, hcm, hnil, hcell⟩ := hl
  have hL1 : (l.length : Int) ≤ 1000000000000 := by omega
  have HC := hid hcell
  have HN := hid hnil
  clear hcell hnil hcm
  have HCE : Hid (∀ x y, decide (key < big) = x → decide (nonce < big) = y → cipE key nonce l = (x && y && allE l)) := hid (by rintro x y rfl rfl; rfl)
  cases hk : decide (key < big) with
  | false =>
    have d1 : decide ((18446744069414584321 : Int) ≤ (key.toNat : Int)) = true := by rw [ge_big_dec, hk]; rfl
    have HR := hid (HCE.out _ _ hk rfl)
    clear hk HCE
    go_enter Tryz.func83, Tryz.ntmps83
    go_wp2_with fail
    go_ret
    exact ⟨by rw [HR.out]; rfl, rfl⟩
  | true =>
    have d1 : decide ((18446744069414584321 : Int) ≤ (key.toNat : Int)) = false := by rw [ge_big_dec, hk]; rfl
    cases hn : decide (nonce < big) with
    | false =>
      have d2 : decide ((18446744069414584321 : Int) ≤ (nonce.toNat : Int)) = true := by rw [ge_big_dec, hn]; rfl
      have HR := hid (HCE.out _ _ hk hn)
      clear hk hn HCE
      go_enter Tryz.func83, Tryz.ntmps83
      go_wp2_with fail
      go_ret
      exact ⟨by rw [HR.out]; rfl, rfl⟩
    | true =>
      have d2 : decide ((18446744069414584321 : Int) ≤ (nonce.toNat : Int)) = false := by rw [ge_big_dec, hn]; rfl
      have HR := hid (HCE.out _ _ hk hn)
      clear hk hn HCE
      go_enter Tryz.func83, Tryz.ntmps83
      go_wp2
      go_loop [17] (fun iv => ∃ i : Nat, i ≤ l.length ∧ iv = .int .i64 i ∧ Hid ((l.take i).all (fun x => decide (x < big)) = true)) (fun iv => l.length - (intOf iv).toNat)
      case atStart => exact ⟨0, by omega, rfl, hid rfl⟩
      case round =>
        obtain ⟨i, hi, rfl, hI⟩ := hrel
        by_cases hlt : i < l.length
        · obtain ⟨b, o, rfl⟩ : ∃ b o, a = some ⟨b, o, none⟩ := by
            cases a with
            | none => have := HN.out rfl; omega
            | some ad => obtain ⟨h1, _⟩ := HC.out ad rfl; exact ⟨ad.block, ad.off, by cases ad; simp only at h1; subst h1; rfl⟩
          have hc := (HC.out _ rfl).2 i l[i] (List.getElem?_eq_getElem hlt)
          have hx : l[i]? = some l[i] := List.getElem?_eq_getElem hlt
          generalize l[i] = x at *
          have hc' : w.cell? ⟨b, o + i, none⟩ = some (.int .u64 x.toNat) := hc
          have HX := hid hx
          clear hc hx
          by_cases hb : x < big
          · have hbi := (lt_big_iff x).1 hb
            have hB := hid hb
            clear hb
            have hd : decide ((18446744069414584321 : Int) ≤ (x.toNat : Int)) = false := by simp; omega
            clear hbi
            go_wp2
            go_round
            case rel => exact ⟨i + 1, by omega, by go_num, hid (allE_snoc HX.out hI.out hB.out)⟩
            case measure => simp [intOf]; omega
          · have hbi : ¬ (x.toNat : Int) < 18446744069414584321 := fun h => hb ((lt_big_iff x).2 h)
            have hfin := allE_bad HX.out hb
            have HFIN := hid hfin
            have hd : decide ((18446744069414584321 : Int) ≤ (x.toNat : Int)) = true := by simp; omega
            clear hbi hfin hb
            go_wp2
            go_ret
            exact ⟨by rw [HR.out, HFIN.out]; rfl, rfl⟩
        · have hil : i = l.length := by omega
          have hall : allE l = true := by
            have := hI.out
            rw [hil, List.take_length] at this
            exact this
          have HALL := hid hall
          have hlB : decide ((i : Int) < (l.length : Int)) = false := by simp; omega
          clear hall
          go_wp2
          go_ret
          exact ⟨by rw [HR.out, HALL.out]; rfl, rfl⟩

theorem k786 : ((UInt64.toNat 786432 : Nat) : Int) = 786432 := rfl
theorem Add_786 (p : Int) (hp : IsBig p) (m : Nat) (hm : m ≤ 1000000000000) (w : World) :
    Calls Tryz.prog 98 #[.agg #[.int .u64 p], .int .u64 786432, .int .u64 (m : Int)] w fun e w' => e = .returned (uv (fAdd 786432 (UInt64.ofNat m))) ∧ Ext w w' := by
  have h := Add_any p hp 786432 (UInt64.ofNat m) w
  rw [toNat_ofNat_lt (by omega)] at h
  exact h
set_option maxRecDepth 100000 in
set_option maxHeartbeats 1600000 in
theorem start_any (key nonce : UInt64) (n : Nat) (hn : n ≤ 1000000000000) (w : World) :
    Calls Tryz.prog 97 #[uv key, uv nonce, .int .i64 (n : Int)] w fun e w' => e = .returned (cipStart key nonce n).v ∧ Ext w w' := by
  have hw : IntKind.u64.wrap (n : Int) = (n : Int) := by simp [IntKind.wrap, IntKind.bits, IntKind.signed]; omega
  have CA : Hid (∀ v, Calls Tryz.prog 98 #[.agg #[.int .u64 18446744069414584321], .int .u64 786432, .int .u64 (n : Int)] v fun e w' => e = .returned (uv (fAdd 786432 (UInt64.ofNat n))) ∧ Ext v w') := hid (Add_786 _ big_is n hn)
  obtain ⟨x, hx⟩ : ∃ x, x = fAdd 786432 (UInt64.ofNat n) := ⟨_, rfl⟩
  rw [← hx] at CA
  have CP : Hid (∀ v, Calls Tryz.prog 99 #[.int .u64 18446744069414584321, .agg #[uv key, uv nonce, uv x]] v fun e w' => e = .returned (cipStart key nonce n).v ∧ Ext v w') := hid fun v => by
    have := Permute_any 18446744069414584321 big_is ⟨key, nonce, x⟩ v
    unfold cipStart
    rw [← hx]
    exact this
  clear hx
  generalize cipStart key nonce n = r at *
  have hx1 := ((Ext.refl w).alloc (.cells #[.int .u64 0, .int .u64 0, .int .u64 0] 29)).alloc (.cells #[.int .u64 18446744069414584321] 135)
  have hb := heap_alloc_some (o' := .cells #[.int .u64 18446744069414584321] 135) (heap_new w (.cells #[.int .u64 0, .int .u64 0, .int .u64 0] 29))
  go_enter Tryz.func97, Tryz.ntmps97
  go_wp2_with fail
  generalize (w.alloc (.cells #[.int .u64 0, .int .u64 0, .int .u64 0] 29)).alloc (.cells #[.int .u64 18446744069414584321] 135) = w0 at *
  refine (CA.out _).mono ?_
  rintro e w1 ⟨rfl, hx2⟩
  have HB1 := hid (hx2.heap_some hb)
  have HX1 := hid (hx1.trans hx2)
  clear hx2 hb hx1
  go_wp2_with fail
  refine (CP.out _).mono ?_
  rintro e w2 ⟨rfl, hx3⟩
  have HB2 := hx3.heap_some HB1.out
  have d0 : w2.cell? ⟨w.heap.size, 0, none⟩ = some (.int .u64 0) := cell_of HB2 0
  have d1 : w2.cell? ⟨w.heap.size, 1, none⟩ = some (.int .u64 0) := cell_of HB2 1
  have d2 : w2.cell? ⟨w.heap.size, 2, none⟩ = some (.int .u64 0) := cell_of HB2 2
  have df : ∀ i, w2.frozen? ⟨w.heap.size, i, none⟩ = false := fun i => frozen_of HB2 i
  have HBB := hid HB2
  have HX3 := hid (HX1.out.trans hx3)
  clear HB2 hx3
  go_wp2
  have hB3 := heap_setCell_same (heap_setCell_same (heap_setCell_same HBB.out 0 (.int .u64 r.a.toNat)) 1 (.int .u64 r.b.toNat)) 2 (.int .u64 r.c.toNat)
  have r0 := cell_of hB3 0
  have r1 := cell_of hB3 1
  have r2 := cell_of hB3 2
  have hfin := ((HX3.out.setCell (p := ⟨w.heap.size, 0, none⟩) (Nat.le_refl _) (.int .u64 r.a.toNat)).setCell (p := ⟨w.heap.size, 1, none⟩) (Nat.le_refl _) (.int .u64 r.b.toNat)).setCell (p := ⟨w.heap.size, 2, none⟩) (Nat.le_refl _) (.int .u64 r.c.toNat)
  exact bodyPost_ret (v := r.v) (by simp [results, Tryz.results97, go_sem, r0, r1, r2]) rfl ⟨rfl, hfin⟩
end Go.Proofs.YtgfmjfkdogcnhaaGreat
