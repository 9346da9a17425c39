/- Seal and Open of any oracle; the laws' add of one; the plain law of OracleSeal. -/
import Derived.Test.YtdkilbnocmnekaaCipOpen
import Derived.Test.YtdkilbnocmnekaaSealI2
import Derived.Test.YtdkilbnocmnekaaPlainLaw
set_option linter.unusedSimpArgs false
namespace Go.Proofs.Ytdkilbnocmnekaa
open Go.RowKit
theorem drawOf_lt (s : UInt64) : drawOf s < big := by
  unfold drawOf mix3
  rw [UInt64.lt_iff_toNat_lt, UInt64.toNat_mod]
  exact Nat.mod_lt _ (by decide)
theorem takeL_all (M : Orc) (n : Nat) : allE (takeL M n) = true := by
  unfold allE takeL
  rw [List.all_eq_true]
  intro x hx
  obtain ⟨i, -, rfl⟩ := List.mem_map.1 hx
  exact decide_eq_true (drawOf_lt _)
attribute [local irreducible] perm fAdd fMul fPow fSub fNeg fRed hashU drawOf nextState

set_option maxRecDepth 100000 in
set_option maxHeartbeats 800000 in
theorem Seal_real {w : World} {b : Nat} {M : Orc} {F : Nat → Prop} {key nonce : UInt64} {pv : Value} {plain : List UInt64} (h : OrcAt w b M F) (hI : M.ideal = false) (hl : RdU w pv plain) (hL : plain.length ≤ 100000000) :
    Calls Try.prog 36 #[.pointer (some ⟨b, 0, none⟩), uv key, uv nonce, pv] w (SealO w b F (if cipE key nonce plain then cipSeal key nonce plain else [], M)) := by
  have HH := hid h
  obtain ⟨qv, mk, ms, mp, Q, S, hin⟩ := h
  have hs := hin.self
  rw [hI] at hs
  obtain ⟨c0, -⟩ := self_cells hs
  have CS := hid (cipSeal_any key nonce pv plain w hl hL)
  clear hin hs hl hI
  generalize (if cipE key nonce plain then cipSeal key nonce plain else []) = r at *
  go_enter Try.func36, Try.ntmps36
  go_wp2_with fail
  refine CS.out.mono ?_
  rintro e w1 ⟨v, rfl, hown, hx, hfr⟩
  have HOWN := hid hown
  have HX := hid hx
  have HFR := hid hfr
  clear hown hx hfr
  go_wp2_with fail
  go_ret
  exact ⟨v, F, rfl, HOWN.out, .of_ext HH.out HX.out, fun k hk => ⟨HFR.out k hk, fun hf => by have := HFR.out k hk; have := HH.out.foot_lt k hf; omega⟩⟩

set_option maxRecDepth 100000 in
set_option maxHeartbeats 800000 in
theorem Open_real {w : World} {b : Nat} {M : Orc} {F : Nat → Prop} {key nonce : UInt64} {lv : Value} {l : List UInt64} (h : OrcAt w b M F) (hI : M.ideal = false) (hl : RdU w lv l) (hL : l.length ≤ 100000000) :
    Calls Try.prog 38 #[.pointer (some ⟨b, 0, none⟩), uv key, uv nonce, lv] w (OpenC w (cipOpen key nonce l)) := by
  obtain ⟨qv, mk, ms, mp, Q, S, hin⟩ := h
  have hs := hin.self
  rw [hI] at hs
  obtain ⟨c0, -⟩ := self_cells hs
  have CS := hid (cipOpen_any key nonce lv l w hl hL)
  clear hin hs hl hI
  generalize cipOpen key nonce l = r at *
  obtain ⟨pl, ok⟩ := r
  go_enter Try.func38, Try.ntmps38
  go_wp2_with fail
  refine CS.out.mono ?_
  rintro e w1 ⟨v, rfl, hown, hx, hfr⟩
  simp only at hown
  obtain ⟨va, vc, rfl, -⟩ := ownsRow_rd hown
  have HOWN := hid hown
  have HX := hid hx
  have HFR := hid hfr
  clear hown hx hfr
  go_wp2_with fail
  exact bodyPost_ret (v := .tuple #[.slice va pl.length vc, .bool ok]) (by simp [results, Try.results38, go_sem]) rfl ⟨_, rfl, HOWN.out, HX.out, HFR.out⟩

def addOne (x : UInt64) : UInt64 := if x.toNat = 18446744069414584320 then 0 else x + 1
theorem addOne_ne {x : UInt64} (h : x < big) : addOne x ≠ x := by
  have hb := (lt_big_iff x).1 h
  unfold addOne
  split
  · next h1 => intro h2; rw [← h2] at h1; exact absurd h1 (by decide)
  · intro h2
    have := congrArg UInt64.toNat h2
    rw [UInt64.toNat_add] at this
    simp at this
    omega
set_option maxRecDepth 100000 in
set_option maxHeartbeats 800000 in
theorem addOne_any (x : UInt64) (w : World) (h : x < big) :
    Calls Try.prog 39 #[uv x, .int .u64 1] w fun e w' => e = .returned (uv (addOne x)) ∧ w' = w := by
  have hb := (lt_big_iff x).1 h
  clear h
  by_cases h1 : x.toNat = 18446744069414584320
  · have hd : decide ((18446744069414584320 : Int) ≤ (x.toNat : Int)) = true := by simp; omega
    have hr : addOne x = 0 := by unfold addOne; rw [if_pos h1]
    have hx : (x.toNat : Int) = 18446744069414584320 := by omega
    have HR := hid hr
    clear hr h1
    go_enter Try.func39, Try.ntmps39
    go_wp2
    go_ret
    exact ⟨by rw [HR.out]; rfl, rfl⟩
  · have hd : decide ((18446744069414584320 : Int) ≤ (x.toNat : Int)) = false := by simp; omega
    have hr : ((addOne x).toNat : Int) = (x.toNat : Int) + 1 := by
      unfold addOne
      rw [if_neg h1, UInt64.toNat_add]
      simp
      omega
    have hw : IntKind.u64.wrap ((x.toNat : Int) + 1) = (x.toNat : Int) + 1 := by simp [IntKind.wrap, IntKind.bits, IntKind.signed]; omega
    have HR := hid hr
    clear hr h1
    go_enter Try.func39, Try.ntmps39
    go_wp2
    go_ret
    exact ⟨by show Ending.returned (.int .u64 ((x.toNat : Int) + 1)) = .returned (.int .u64 ((addOne x).toNat : Int)); rw [HR.out], rfl⟩

theorem encL_a (n : Nat) : ∀ (l : List UInt64) (i : Nat) (s : S3), i + l.length = n → (s.a < big ∨ l ≠ []) → (encL n i s l).1.a < big
  | [], _, s, _, h => by rw [encL]; rcases h with h | h; exact h; exact absurd rfl h
  | x :: r, i, s, hn, _ => by
    rw [encL_cons]
    refine encL_a n r _ _ (by simp at hn; omega) ?_
    cases r with
    | nil =>
      left
      unfold S3.next
      rw [if_pos (.inr (by simp at hn; omega))]
      exact (perm_lt _).1
    | cons y r => exact .inr (by simp)
/-- What a law asks of a seal: the sealed list, and what opening answers. -/
structure SealsOk (k nn : UInt64) (l sl : List UInt64) (op : List UInt64 → List UInt64 × Bool) (pre : List UInt64) (t : UInt64) : Prop where
  eq : sl = pre ++ [t]
  len : pre.length = l.length
  all : allE sl = true
  yes : op sl = (l, true)
  no : (op (pre ++ [addOne t])).2 = false
theorem allE_snoc' (l : List UInt64) (t : UInt64) : allE (l ++ [t]) = (allE l && decide (t < big)) := by simp [allE]
theorem seal_real_law {k nn : UInt64} {l : List UInt64} (h : cipE k nn l = true) : ∃ pre t, SealsOk k nn l (cipSeal k nn l) (cipOpen k nn) pre t := by
  have h' := h
  simp only [cipE, Bool.and_eq_true] at h'
  obtain ⟨⟨hk, hn⟩, hl⟩ := h'
  have hd := cipDec_seal k nn l hl
  have ht : (encL l.length 0 (cipStart k nn l.length) l).1.a < big := encL_a _ l 0 _ (by simp) (.inl (perm_lt _).1)
  have ha := encL_all l.length l 0 (cipStart k nn l.length)
  have hlen := encL_length l.length l 0 (cipStart k nn l.length)
  have hs : cipSeal k nn l = (encL l.length 0 (cipStart k nn l.length) l).2 ++ [(encL l.length 0 (cipStart k nn l.length) l).1.a] := rfl
  generalize (encL l.length 0 (cipStart k nn l.length) l).2 = pre at *
  generalize (encL l.length 0 (cipStart k nn l.length) l).1.a = t at *
  have hall : allE (pre ++ [t]) = true := by rw [allE_snoc', ha, decide_eq_true ht]; rfl
  refine ⟨pre, t, hs, hlen, by rw [hs]; exact hall, ?_, ?_⟩
  · rw [hs, cipOpen_snoc (by unfold cipE; rw [hk, hn, hall]; rfl), hd]
    simp
  · cases hE : cipE k nn (pre ++ [addOne t]) with
    | false => rw [cipOpen_bad hE]
    | true =>
      rw [cipOpen_snoc hE, hd]
      have : (t == addOne t) = false := by
        rcases h : (t == addOne t) with _ | _
        · rfl
        · exact absurd (by simpa using h : t = addOne t).symm (addOne_ne ht)
      simp only [this, Bool.false_eq_true, if_false]
def opI (M : Orc) (k nn : UInt64) (l : List UInt64) : List UInt64 × Bool := (((findS M.seals k nn l).map (·.plain)).getD [], (findS M.seals k nn l).isSome)
theorem addSeal_seals' (M : Orc) (s : Sl) : (M.addSeal s).seals = M.seals ++ [s] := rfl
theorem addSeal_ideal' (M : Orc) (s : Sl) : (M.addSeal s).ideal = M.ideal := rfl
theorem seal_ideal_law {M : Orc} (hM : M.seals = []) {k nn : UInt64} {l : List UInt64} (h : cipE k nn l = true) :
    ∃ sl M1, M.sealI k nn l = (sl, M1) ∧ M1.ideal = M.ideal ∧ (∀ s ∈ M1.seals, s.plain = l) ∧ ∃ pre t, SealsOk k nn l sl (opI M1 k nn) pre t := by
  have hh := sealI_new (M := M) (key := k) (nonce := nn) (plain := l) h (by rw [hM]; rfl)
  have hall := takeL_all M (l.length + 1)
  have hlen := takeL_length M (l.length + 1)
  have hse : ((M.steps (l.length + 1)).addSeal ⟨k, nn, takeL M (l.length + 1), l⟩).seals = [⟨k, nn, takeL M (l.length + 1), l⟩] := by
    rw [addSeal_seals', steps_seals, hM]; rfl
  have hid : ((M.steps (l.length + 1)).addSeal ⟨k, nn, takeL M (l.length + 1), l⟩).ideal = M.ideal := by
    rw [addSeal_ideal', steps_ideal]
  generalize (M.steps (l.length + 1)).addSeal ⟨k, nn, takeL M (l.length + 1), l⟩ = M1 at *
  generalize takeL M (l.length + 1) = sl at *
  refine ⟨sl, M1, hh, hid, by rw [hse]; simp, ?_⟩
  have hne : sl ≠ [] := by rintro rfl; simp at hlen
  have hsl := (List.dropLast_concat_getLast hne).symm
  generalize sl.getLast hne = t at hsl
  have hpl : sl.dropLast.length = l.length := by rw [List.length_dropLast, hlen]; rfl
  generalize sl.dropLast = pre at *
  subst hsl
  rw [allE_snoc'] at hall
  simp only [Bool.and_eq_true, decide_eq_true_eq] at hall
  refine ⟨pre, t, rfl, hpl, by rw [allE_snoc', hall.1, decide_eq_true hall.2]; rfl, ?_, ?_⟩
  · unfold opI; rw [hse]; simp [findS, isSeal]
  · unfold opI; rw [hse]
    have : isSeal ⟨k, nn, pre ++ [t], l⟩ k nn (pre ++ [addOne t]) = false := by
      rcases hb : isSeal ⟨k, nn, pre ++ [t], l⟩ k nn (pre ++ [addOne t]) with _ | _
      · rfl
      · have h3 := (isSeal_iff.1 hb).2.2
        simp at h3
        exact absurd h3.symm (addOne_ne hall.2)
    simp [findS, this]
end Go.Proofs.Ytdkilbnocmnekaa
