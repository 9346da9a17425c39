/- Seal and Open of a real oracle. -/
import Derived.Test.YtgfmjfkdogcnhaaGreatCipOpen
import Derived.Test.YtgfmjfkdogcnhaaGreatSealI
import Derived.Test.YtgfmjfkdogcnhaaGreatPlainLaw
set_option linter.unusedSimpArgs false
namespace Go.Proofs.YtgfmjfkdogcnhaaGreat
open Go.RowKit
theorem drawOf_lt (s : UInt64) : drawOf s < big := by
  unfold drawOf mix3
  rw [UInt64.lt_iff_toNat_lt, UInt64.toNat_mod]
  exact Nat.mod_lt _ (by decide)
theorem takeL_all (M : Orc) (n : Nat) : allE (takeL M n) = true := by
  unfold allE takeL
  rw [List.all_eq_true]
  intro x hx
  obtain ⟨i, -, rfl⟩ := List.mem_map.1 hx
  exact decide_eq_true (drawOf_lt _)
attribute [local irreducible] perm fAdd fMul fPow fSub fNeg fRed hashU drawOf nextState

set_option maxRecDepth 100000 in
set_option maxHeartbeats 800000 in
theorem Seal_real {w : World} {b : Nat} {M : Orc} {F : Nat → Prop} {key nonce : UInt64} {pv : Value} {plain : List UInt64} (h : OrcAt w b M F) (hI : M.ideal = false) (hl : RdU w pv plain) (hL : plain.length ≤ 100000000) :
    Calls Tryz.prog 53 #[.pointer (some ⟨b, 0, none⟩), uv key, uv nonce, pv] w (SealO w b F (if cipE key nonce plain then cipSeal key nonce plain else [], M)) := by
  have HH := hid h
  obtain ⟨qv, mk, ms, mp, Q, S, hin⟩ := h
  have hs := hin.self
  rw [hI] at hs
  obtain ⟨c0, -⟩ := self_cells hs
  have CS := hid (cipSeal_any key nonce pv plain w hl hL)
  clear hin hs hl hI
  generalize (if cipE key nonce plain then cipSeal key nonce plain else []) = r at *
  go_enter Tryz.func53, Tryz.ntmps53
  go_wp2_with fail
  refine CS.out.mono ?_
  rintro e w1 ⟨v, rfl, hown, hx, hfr⟩
  have HOWN := hid hown
  have HX := hid hx
  have HFR := hid hfr
  clear hown hx hfr
  go_wp2_with fail
  go_ret
  exact ⟨v, F, rfl, HOWN.out, .of_ext HH.out HX.out, fun k hk => ⟨HFR.out k hk, fun hf => by have := HFR.out k hk; have := HH.out.foot_lt k hf; omega⟩⟩

set_option maxRecDepth 100000 in
set_option maxHeartbeats 800000 in
theorem Open_real {w : World} {b : Nat} {M : Orc} {F : Nat → Prop} {key nonce : UInt64} {lv : Value} {l : List UInt64} (h : OrcAt w b M F) (hI : M.ideal = false) (hl : RdU w lv l) (hL : l.length ≤ 100000000) :
    Calls Tryz.prog 21 #[.pointer (some ⟨b, 0, none⟩), uv key, uv nonce, lv] w (OpenC w (cipOpen key nonce l)) := by
  obtain ⟨qv, mk, ms, mp, Q, S, hin⟩ := h
  have hs := hin.self
  rw [hI] at hs
  obtain ⟨c0, -⟩ := self_cells hs
  have CS := hid (cipOpen_any key nonce lv l w hl hL)
  clear hin hs hl hI
  generalize cipOpen key nonce l = r at *
  obtain ⟨pl, ok⟩ := r
  go_enter Tryz.func21, Tryz.ntmps21
  go_wp2_with fail
  refine CS.out.mono ?_
  rintro e w1 ⟨v, rfl, hown, hx, hfr⟩
  simp only at hown
  obtain ⟨va, vc, rfl, -⟩ := ownsRow_rd hown
  have HOWN := hid hown
  have HX := hid hx
  have HFR := hid hfr
  clear hown hx hfr
  go_wp2_with fail
  exact bodyPost_ret (v := .tuple #[.slice va pl.length vc, .bool ok]) (by simp [results, Tryz.results21, go_sem]) rfl ⟨_, rfl, HOWN.out, HX.out, HFR.out⟩

theorem encL_a (n : Nat) : ∀ (l : List UInt64) (i : Nat) (s : S3), i + l.length = n → (s.a < big ∨ l ≠ []) → (encL n i s l).1.a < big
  | [], _, s, _, h => by rw [encL]; rcases h with h | h; exact h; exact absurd rfl h
  | x :: r, i, s, hn, _ => by
    rw [encL_cons]
    refine encL_a n r _ _ (by simp at hn; omega) ?_
    cases r with
    | nil =>
      left
      unfold S3.next
      rw [if_pos (.inr (by simp at hn; omega))]
      exact (permC_lt _).1
    | cons y r => exact .inr (by simp)
end Go.Proofs.YtgfmjfkdogcnhaaGreat
