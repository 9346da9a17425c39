/- Open of the cipher. -/
import Derived.Test.YtdkilbnocmnekaaCipDec
set_option linter.unusedSimpArgs false
namespace Go.Proofs.Ytdkilbnocmnekaa
open Go.RowKit
attribute [local irreducible] perm fAdd fMul fPow fSub fNeg fRed

/-- What Open hands back: the plain list, and whether the tag is right. -/
def cipOpen (key nonce : UInt64) (l : List UInt64) : List UInt64 × Bool :=
  if cipE key nonce l && (match l.getLast? with | some t => (cipDec key nonce l.dropLast).2 == t | none => false) then ((cipDec key nonce l.dropLast).1, true) else ([], false)
theorem cipOpen_nil (key nonce : UInt64) : cipOpen key nonce [] = ([], false) := by unfold cipOpen; simp
theorem cipOpen_bad {key nonce : UInt64} {l : List UInt64} (h : cipE key nonce l = false) : cipOpen key nonce l = ([], false) := by unfold cipOpen; rw [h]; rfl
theorem cipOpen_snoc {key nonce : UInt64} {l : List UInt64} {t : UInt64} (h : cipE key nonce (l ++ [t]) = true) : cipOpen key nonce (l ++ [t]) = if (cipDec key nonce l).2 == t then ((cipDec key nonce l).1, true) else ([], false) := by
  unfold cipOpen; rw [h]; simp
def OpenC (w : World) (r : List UInt64 × Bool) (e : Ending) (w' : World) : Prop :=
  ∃ v, e = .returned (.tuple #[v, .bool r.2]) ∧ OwnU w' v r.1 ∧ Ext w w' ∧ ∀ k, blk v = some k → w.heap.size ≤ k
theorem OpenC.none {w w' : World} (k : Ext w w') : OpenC w ([], false) (.returned (.tuple #[.slice none 0 0, .bool false])) w' := ⟨_, rfl, World.ownsRow_nil _ _ _ _, k, fun k h => by cases h⟩

set_option maxRecDepth 100000 in
set_option maxHeartbeats 3200000 in
theorem cipOpen_any (key nonce : UInt64) (lv : Value) (l : List UInt64) (w : World) (hl : RdU w lv l) (hL : l.length ≤ 100000000) :
    Calls Try.prog 56 #[uv key, uv nonce, lv] w (OpenC w (cipOpen key nonce l)) := by
  have HE := hid (cipElements_any key nonce lv l w hl (by omega))
  obtain ⟨la, lc, rfl, hlc, hlm, hnil, hcell⟩ := id hl
  have HL := hid hl
  rcases List.eq_nil_or_concat l with rfl | ⟨l0, t, rfl⟩
  · have HR := hid (cipOpen_nil key nonce)
    clear hl hcell HL hnil hlc hlm
    have h0 : (([] : List UInt64).length : Int) = 0 := rfl
    go_enter Try.func56, Try.ntmps56
    go_wp2_with fail
    rw [HR.out]
    exact bodyPost_ret (v := .tuple #[.slice none 0 0, .bool false]) (by simp [results, Try.results56, go_sem]) rfl (.none (Ext.refl _))
  · rw [List.concat_eq_append] at *
    obtain ⟨b, o, hla, hct⟩ := HL.out.at (i := l0.length) (x := t) (by simp)
    subst hla
    have hlen : (l0 ++ [t]).length = l0.length + 1 := by simp
    obtain ⟨n, hn⟩ : ∃ n, n = l0.length := ⟨_, rfl⟩
    have hr0 : RdU w (.slice (some ⟨b, o, none⟩) n lc) l0 := by
      refine ⟨_, lc, by rw [hn], by omega, hlm, (fun h => by cases h), fun ad ha => ⟨(hcell ad ha).1, fun i x hx => (hcell ad ha).2 i x ?_⟩⟩
      rw [List.getElem?_append_left ((List.getElem?_eq_some_iff.1 hx).1)]; exact hx
    rw [hlen, ← hn] at HE HL ⊢
    have hn1 : n ≤ 100000000 := by omega
    rw [← hn] at hct
    have CD : Hid (Calls Try.prog 64 #[uv key, uv nonce, .slice (some ⟨b, o, none⟩) n lc] w (DecO w (cipDec key nonce l0))) := hid (decrypt_any key nonce _ l0 w hr0 (by omega))
    have hnc : n + 1 ≤ lc := by omega
    have hz0 : (((n + 1 : Nat) : Int) == 0) = false := by simp; omega
    have hw1 : IntKind.i64.wrap (((n + 1 : Nat) : Int) - 1) = (n : Int) := by rw [IntWalk.i64_in _ (by omega)]; omega
    clear hl hcell hnil hlc hlen hr0 HL hn
    cases hE : cipE key nonce (l0 ++ [t]) with
    | false =>
      rw [hE] at HE
      have HR := hid (cipOpen_bad hE)
      clear hE
      go_enter Try.func56, Try.ntmps56
      go_wp2_with fail
      refine HE.out.mono ?_
      rintro e w1 ⟨rfl, rfl⟩
      go_wp2_with fail
      rw [HR.out]
      exact bodyPost_ret (v := .tuple #[.slice none 0 0, .bool false]) (by simp [results, Try.results56, go_sem]) rfl (.none (Ext.refl _))
    | true =>
      rw [hE] at HE
      have HR := hid (cipOpen_snoc hE)
      clear hE
      generalize cipDec key nonce l0 = pd at *
      obtain ⟨pl, tg⟩ := pd
      simp only at HR
      have hnn : (0 : Int) ≤ (n : Int) := Int.natCast_nonneg _
      have hnl : (n : Int) < ((n + 1 : Nat) : Int) := by omega
      have HCT := hid hct
      go_enter Try.func56, Try.ntmps56
      go_wp2_with fail
      refine HE.out.mono ?_
      rintro e w1 ⟨rfl, rfl⟩
      go_wp2_with fail
      refine CD.out.mono ?_
      rintro e w2 ⟨pv, rfl, hown, hx2, hfr⟩
      simp only at hown
      obtain ⟨pa, pc, rfl, -⟩ := ownsRow_rd hown
      have hct2 := hx2.cell_some HCT.out
      have HX2 := hid hx2
      have HOWN := hid hown
      have HFR := hid hfr
      clear hx2 hown hfr hct
      rcases htt : ((tg.toNat : Int) != (t.toNat : Int)) with _ | _
      · have htb : (tg == t) = true := by
          have h1 : (tg.toNat : Int) = (t.toNat : Int) := by simpa using htt
          have h2 : tg = t := UInt64.toNat_inj.1 (by omega)
          rw [h2]; simp
        rw [htb] at HR
        simp only [if_true] at HR
        go_wp2_with fail
        rw [HR.out]
        exact bodyPost_ret (v := .tuple #[.slice pa pl.length pc, .bool true]) (by simp [results, Try.results56, go_sem]) rfl ⟨_, rfl, HOWN.out, HX2.out, HFR.out⟩
      · have htb : (tg == t) = false := by
          rcases h : (tg == t) with _ | _
          · rfl
          · have h2 : tg = t := by simpa using h
            rw [h2] at htt; simp at htt
        rw [htb] at HR
        simp only [Bool.false_eq_true, if_false] at HR
        go_wp2_with fail
        rw [HR.out]
        exact bodyPost_ret (v := .tuple #[.slice none 0 0, .bool false]) (by simp [results, Try.results56, go_sem]) rfl (.none HX2.out)
end Go.Proofs.Ytdkilbnocmnekaa
