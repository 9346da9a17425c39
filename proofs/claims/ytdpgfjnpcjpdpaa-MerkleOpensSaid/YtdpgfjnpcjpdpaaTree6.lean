/- The path of a commitment tree: the reference's walk; lists are copied. -/
import Derived.Test.YtdpgfjnpcjpdpaaTree5
set_option linter.unusedSimpArgs false
namespace Go.Proofs.Ytdpgfjnpcjpdpaa
open Go.RowKit
attribute [local irreducible] perm fAdd fMul fPow fSub fNeg fRed

set_option maxRecDepth 100000 in
set_option maxHeartbeats 3200000 in
theorem refPath_any (lv : Value) (ls : Lv) (i : Int) (w : World) (hl : RdL w lv ls) (hL : ls.length ≤ 1000000000000) (hE : ∀ l ∈ ls, l.length ≤ 1000000000000) :
    Calls Try.prog 21 #[lv, .int .i64 i] w (NewP w (pathL ls i)) := by
  obtain ⟨a, c, rfl, hc1, hc2, -⟩ := hl.shape
  have HWF := hid (refFormed_any _ ls w hl hL hE)
  have HL := hid hl
  have HC := hid hc1
  have hp : pathL ls i = if pathI ls i then pathN ls i.toNat (ls.length - 1) else [] := rfl
  have HP := hid hp
  have hpi : pathI ls i = (formed ls && (decide (0 ≤ i) && decide (i < (lnAt ls 0 : Nat)))) := rfl
  have HPI := hid hpi
  clear hl hE hc2 hp hpi
  go_enter Try.func21, Try.ntmps21
  go_wp2_with fail
  refine HWF.out.mono ?_
  rintro e w1 ⟨rfl, hx1⟩
  have HX1 := hid hx1
  cases hf : formed ls with
  | false =>
    have hr : pathL ls i = [] := by rw [HP.out, HPI.out, hf]; rfl
    have HR := hid hr
    clear hr hf hx1
    go_wp2_with fail
    go_ret
    exact ⟨_, rfl, by rw [HR.out]; exact ownU_nil _, HX1.out, by intro k hk; cases hk⟩
  | true =>
    by_cases hi0 : i < 0
    · have hr : pathL ls i = [] := by rw [HP.out, HPI.out, hf, decide_eq_false (show ¬ 0 ≤ i by omega)]; rfl
      have HR := hid hr
      clear hr hf hx1
      go_wp2_with fail
      go_ret
      exact ⟨_, rfl, by rw [HR.out]; exact ownU_nil _, HX1.out, by intro k hk; cases hk⟩
    · have hlen : 0 < ls.length := List.length_pos_iff.2 (formed_ne hf)
      obtain ⟨l, hk⟩ : ∃ l, ls[0]? = some l := ⟨_, List.getElem?_eq_getElem (by omega)⟩
      have hl1 := HL.out.ext HX1.out
      have HL1 := hid hl1
      obtain ⟨b, o, y, d, rfl, hcell, hrd, hld, -⟩ := hl1.at hk
      have hln := lnAt_of hk
      have hcell0 : w1.cell? ⟨b, o, none⟩ = some (.slice y l.length d) := hcell
      by_cases hi1 : i < (l.length : Int)
      · obtain ⟨j, rfl⟩ : ∃ j : Nat, i = (j : Int) := ⟨i.toNat, by omega⟩
        have hpI : pathI ls (j : Int) = true := by rw [HPI.out, hf, hln, decide_eq_true (show (0 : Int) ≤ j by omega), decide_eq_true hi1]; rfl
        have hr : pathL ls (j : Int) = pathN ls j (ls.length - 1) := by rw [HP.out, hpI]; rfl
        have hji : j < lnAt ls 0 := by rw [hln]; omega
        obtain ⟨m, hm⟩ : ∃ m, ls.length = m + 1 := ⟨ls.length - 1, by omega⟩
        rw [hm, Nat.add_sub_cancel] at hr
        have HR := hid hr
        have HF := hid hf
        have HJI := hid hji
        have HM := hid hm
        have hj1 : j ≤ 1024 := by have := (isNum_pos (formed_first hf)).2; omega
        have hmL : m ≤ 1000000000000 := by omega
        obtain ⟨w2, hw2⟩ : ∃ w2, w2 = w1 := ⟨_, rfl⟩
        have HW2 := hid hw2
        have hd1 : decide ((j : Int) < 0) = false := by simp
        have hd2 : decide (l.length ≤ j) = false := by simp; omega
        have hm1 : (0 : Int) < (m : Int) + 1 := by omega
        rw [hm] at HL1 HWF HL ⊢
        clear hr hf hji hm hpI hln hk hx1 hl1 hcell hrd hlen hL hi1 hi0 hw2 HPI HP
        obtain ⟨i0, hi, hz0, hz1, hz2⟩ := info_parts Try.infoU
        have HI := hid hi
        have HZ0 := hid hz0
        have HZ1 := hid hz1
        have HZ2 := hid hz2
        clear hi hz0 hz1 hz2
        go_wp2_with fail
        go_loopw [1, 5, 6] (fun iv p kv wr => ∃ k : Nat, k ≤ m ∧ kv = .int .i64 k ∧ iv = .int .i64 ((j / 2 ^ k : Nat) : Int) ∧ OwnU wr p (pathN ls j k) ∧ Ext w1 wr ∧ ∀ t, blk p = some t → w1.heap.size ≤ t) (fun _ _ kv _ => (m - (intOf kv).toNat))
        case atStart => exact ⟨0, by omega, rfl, by simp, ownU_nil _, by rw [← HW2.out]; exact Ext.refl _, by intro t ht; cases ht⟩
        case round =>
          obtain ⟨k, hkm, rfl, rfl, hown, hxr, hfr⟩ := hrel
          have HXR := hid hxr
          have HFR := hid hfr
          by_cases hlt : k < m
          · obtain ⟨l', hkk⟩ : ∃ l', ls[k]? = some l' := ⟨_, List.getElem?_eq_getElem (by rw [HM.out]; omega)⟩
            obtain ⟨b', o', y', d', he, hc', hr', -⟩ := (HL1.out.ext hxr).at hkk
            injection he with he
            injection he with he1 he2
            subst he1 he2
            have hsib := path_sib HF.out HJI.out k (by rw [HM.out]; omega)
            rw [lnAt_of hkk] at hsib
            have hq : j / 2 ^ k ≤ 1024 := Nat.le_trans (Nat.div_le_self _ _) hj1
            have hx1 := xor1_i64 (j / 2 ^ k) (by omega)
            have hpow := half_pow j k
            have hps := pathN_succ ls j k
            have hpl := pathN_length ls j k
            generalize pathN ls j k = p0 at *
            generalize j / 2 ^ k = q at *
            generalize q ^^^ 1 = s at *
            obtain ⟨x, hxs⟩ : ∃ x, l'[s]? = some x := ⟨_, List.getElem?_eq_getElem hsib⟩
            rw [at2_of hkk hxs] at hps
            obtain ⟨b2, o2, rfl, hc2⟩ := hr'.uat hxs
            obtain ⟨pa, pc, rfl, -⟩ := ownsRow_rd hown
            have HOWN := hid hown
            have HPS := hid hps
            have HPL := hid hpl
            have HPOW := hid hpow
            have hk0 : (0 : Int) ≤ (k : Int) := by omega
            have hs1 : (s : Int) < (l'.length : Int) := by omega
            have hr1 := RdC.new1 wr (uv x) 28
            have hown2 : OwnU (wr.alloc (.cells #[uv x] 28)) (.slice pa p0.length pc) p0 := ownsRow_ext hown ((Ext.refl wr).alloc _)
            clear hown hps hpl hxr hfr hkk hr' hsib hxs hpow
            go_wp2_with (at_builtin; refine wpList_app rfl _ _ 24 rfl 28 i0 (.int .u64 0) 1 8 Try.underlying24 HI.out HZ0.out HZ1.out HZ2.out rfl (by decide) _ p0.length (us p0) rfl hown2 _ 1 [uv x] rfl hr1 rfl (us_one [x]) (by have := HPL.out; unfold maxLen; omega) (by have := HPL.out; omega) ?_)
            intro v' w3 hown3 hk3 hb3
            have hg := grown_one HXR.out HFR.out hown3 hk3 (by simpa using hb3)
            have HG := hid hg
            clear hown3 hk3 hb3 hg hr1 hown2
            go_wp2_with fail
            go_roundw
            case rel => exact ⟨k + 1, by omega, by go_num, by rw [← HPOW.out]; go_num, by rw [HPS.out]; exact HG.out.1, HG.out.2.1, HG.out.2.2⟩
            case measure => simp [intOf]; omega
          · obtain rfl : k = m := by omega
            have HOWN := hid hown
            clear hown hxr hfr
            go_wp2_with fail
            go_ret
            exact ⟨_, rfl, by rw [HR.out]; exact HOWN.out, HX1.out.trans HXR.out, fun t ht => Nat.le_trans HX1.out.size (HFR.out t ht)⟩
      · have hr : pathL ls i = [] := by rw [HP.out, HPI.out, hf, hln, decide_eq_false hi1]; simp
        have HR := hid hr
        have hd : decide ((l.length : Int) ≤ i) = true := by simp; omega
        have hlen' : (0 : Int) < (ls.length : Int) := by omega
        clear hr hf hk hl1 hcell hrd hln
        go_wp2_with fail
        go_ret
        exact ⟨_, rfl, by rw [HR.out]; exact ownU_nil _, HX1.out, by intro k hk; cases hk⟩
end Go.Proofs.Ytdpgfjnpcjpdpaa
