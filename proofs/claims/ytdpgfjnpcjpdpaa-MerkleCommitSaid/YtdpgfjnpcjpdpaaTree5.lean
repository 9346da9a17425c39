/- Well-formed levels, the root: the reference's walks. The path of a commitment tree: the reference's walk; lists are copied. -/
import Derived.Test.YtdpgfjnpcjpdpaaTree4
set_option linter.unusedSimpArgs false
namespace Go.Proofs.Ytdpgfjnpcjpdpaa
open Go.RowKit
attribute [local irreducible] perm fAdd fMul fPow fSub fNeg fRed

theorem two_len {n : Nat} (h : n ≤ 1000000000000) : IntKind.i64.wrap (2 * (n : Int)) = 2 * (n : Int) := IntWalk.i64_in _ (by omega)
set_option maxRecDepth 100000 in
set_option maxHeartbeats 3200000 in
theorem refFormed_any (lv : Value) (ls : Lv) (w : World) (hl : RdL w lv ls) (hL : ls.length ≤ 1000000000000) (hE : ∀ l ∈ ls, l.length ≤ 1000000000000) :
    Calls Try.prog 61 #[lv] w fun e w' => e = .returned (.bool (formed ls)) ∧ Ext w w' := by
  obtain ⟨a, c, rfl, hc1, hc2, -⟩ := hl.shape
  have HL := hid hl
  have HE := hid hE
  by_cases hne : ls = []
  · subst hne
    have h0 : (((([] : Lv).length : Nat) : Int) == 0) = true := rfl
    clear hE hl
    go_enter Try.func61, Try.ntmps61
    go_wp2
    go_ret
    exact ⟨rfl, Ext.refl _⟩
  · obtain ⟨m, hm⟩ : ∃ m, ls.length = m + 1 := ⟨ls.length - 1, by have := List.length_pos_iff.2 hne; omega⟩
    obtain ⟨l0, hk0⟩ : ∃ l, ls[0]? = some l := ⟨_, List.getElem?_eq_getElem (by omega)⟩
    obtain ⟨lm, hkm⟩ : ∃ l, ls[m]? = some l := ⟨_, List.getElem?_eq_getElem (by omega)⟩
    obtain ⟨b, o, y, d, rfl, hcell0, -, -⟩ := hl.at hk0
    obtain ⟨b', o', y', d', he, hcellm, -, -⟩ := hl.at hkm
    injection he with he
    injection he with he1 he2
    subst he1 he2
    have hcz : w.cell? ⟨b, o, none⟩ = some (.slice y l0.length d) := hcell0
    have hn0 := lnAt_of hk0
    have hnm := lnAt_of hkm
    have hle0 := hE l0 (List.mem_of_getElem? hk0)
    have hlem := hE lm (List.mem_of_getElem? hkm)
    have hmL : m ≤ 1000000000000 := by omega
    have e1 : ((m + 1 : Nat) : Int) - 1 = (m : Int) := by omega
    have e0 : (((m : Int) + 1) == 0) = false := by simp; omega
    have HN0 := hid hn0
    have HNM := hid hnm
    have HM := hid hm
    have HNE := hid hne
    have HLE := hid hle0
    rw [hm] at HL hc1 ⊢
    clear hl hE hcell0 hn0 hnm hk0 hkm hm hne hc2
    go_enter Try.func61, Try.ntmps61
    go_wp2_with fail
    refine (Count_len _ _).mono ?_
    rintro e w' ⟨rfl, rfl⟩
    cases hn : isNum l0.length with
    | false =>
      have hfin : formed ls = false := formed_not fun h => by have := h.first; rw [HN0.out, hn] at this; cases this
      have HFIN := hid hfin
      clear hn hfin
      go_wp2_with fail
      go_ret
      exact ⟨ret_bool HFIN.out.symm, Ext.refl _⟩
    | true =>
      by_cases hlast : lm.length = 1
      · have hq : ((lm.length : Int) != 1) = false := by simp [hlast]
        have HN := hid hn
        have HLA := hid hlast
        clear hn hlast
        go_wp2_with fail
        go_loopw [3] (fun iv wr => ∃ i : Nat, 1 ≤ i ∧ i ≤ m + 1 ∧ iv = .int .i64 i ∧ Hid (∀ j, 1 ≤ j → j < i → 2 * lnAt ls j = lnAt ls (j - 1)) ∧ Ext w wr) (fun iv _ => (m + 1 - (intOf iv).toNat))
        case atStart => exact ⟨1, by omega, by omega, rfl, hid (fun j h1 h2 => by omega), Ext.refl _⟩
        case round =>
          obtain ⟨i, h1i, hi, rfl, hI, hxr⟩ := hrel
          have HXR := hid hxr
          by_cases hlt : i < m + 1
          · obtain ⟨k, rfl⟩ : ∃ k, i = k + 1 := ⟨i - 1, by omega⟩
            obtain ⟨la, hka⟩ : ∃ l, ls[k]? = some l := ⟨_, List.getElem?_eq_getElem (by rw [HM.out]; omega)⟩
            obtain ⟨lb, hkb⟩ : ∃ l, ls[k + 1]? = some l := ⟨_, List.getElem?_eq_getElem (by rw [HM.out]; omega)⟩
            obtain ⟨b1, o1, y1, d1, he, hc1', -, -⟩ := HL.out.at hka
            injection he with he
            injection he with he1 he2
            subst he1 he2
            obtain ⟨b2, o2, y2, d2, he, hc2', -, -⟩ := HL.out.at hkb
            injection he with he
            injection he with he1 he2
            subst he1 he2
            have hla := HE.out la (List.mem_of_getElem? hka)
            have hlb := HE.out lb (List.mem_of_getElem? hkb)
            have hwr := two_len hlb
            have hna := lnAt_of hka
            have hnb := lnAt_of hkb
            have HNA := hid hna
            have HNB := hid hnb
            have hcs : ∀ v, Ext wr v → v.cell? ⟨b, o + k, none⟩ = some (.slice y1 la.length d1) ∧ v.cell? ⟨b, o + (k + 1), none⟩ = some (.slice y2 lb.length d2) := fun v h => ⟨(hxr.trans h).cell_some hc1', (hxr.trans h).cell_some hc2'⟩
            have HCS := hid hcs
            have ek : ((k + 1 : Nat) : Int) - 1 = (k : Int) := by omega
            have ek0 : (0 : Int) ≤ (k : Int) + 1 := by omega
            have ekw : IntKind.i64.wrap ((k : Int) + 1 - 1) = (k : Int) := by rw [show (k : Int) + 1 - 1 = k by omega]; exact IntWalk.i64_in _ (by omega)
            have ekv : IntKind.i64.wrap (k : Int) = (k : Int) := IntWalk.i64_in _ (by omega)
            have ekm : (k : Int) + 1 < (m : Int) + 1 := by omega
            have ekm' : (k : Int) < (m : Int) + 1 := by omega
            clear hka hkb hc1' hc2' hna hnb hcs hxr h1i
            by_cases hq2 : 2 * lb.length = la.length
            · have hqB : ((2 * (lb.length : Int)) != (la.length : Int)) = false := by simp; omega
              have HQ2 := hid hq2
              clear hq2
              go_wp2_with fail
              refine wp_region_T (fun v => (v.cell? ⟨b, o + k, none⟩ = some (.slice y1 la.length d1) ∧ v.cell? ⟨b, o + (k + 1), none⟩ = some (.slice y2 lb.length d2)) ∧ Ext wr v) 12 [(0, true), (1, true), (2, true), (3, true), (4, true), (5, true), (6, true), (7, true), (8, true), (9, true), (10, true), (11, true), (12, false)] (by kernel_rfl) (by kernel_rfl) (by intro c a d v w h; cases d <;> exact h) ?_
              intro ops hops
              have HS := keep0 HCS.out
              iterate 12
                refine wpT_take (v := ?_) (by rw [hops, List.getElem?_toArray]; rfl) (by first | rfl | (rw [hops]; rfl)) ?_ HS ?_
                rotate_left
                · intro v h; go_simp; with_reducible rfl
                simp only [Act.put, List.getElem_toArray, List.getElem_cons_zero, List.getElem_cons_succ, List.setIfInBounds_toArray, List.set_cons_zero, List.set_cons_succ]
              refine wpT_step (by rw [hops, List.getElem?_toArray]; rfl) (by first | rfl | (rw [hops]; rfl)) ?_
              intro K hK
              go_wp2_with fail
              refine ⟨fun h => absurd h (by decide), ?_⟩
              rw [wpT_nil]
              clear hops ops
              clear HS
              go_wp2_with fail
              go_roundw
              case rel =>
                refine ⟨k + 1 + 1, by omega, by omega, by go_num, hid (fun j h1 h2 => ?_), HXR.out.drew⟩
                rcases Nat.lt_or_ge j (k + 1) with h | h
                · exact hI.out j h1 h
                · obtain rfl : j = k + 1 := by omega
                  rw [Nat.add_sub_cancel, HNA.out, HNB.out]; exact HQ2.out
              case measure => simp [intOf]; omega
            · have hqB : ((2 * (lb.length : Int)) != (la.length : Int)) = true := by simp; omega
              have HQ2 := hid hq2
              clear hq2
              have hfin : formed ls = false := formed_not fun h => by
                have := h.chain (k + 1) (by omega) (by rw [HM.out]; omega)
                rw [Nat.add_sub_cancel, HNA.out, HNB.out] at this
                exact HQ2.out this
              have HFIN := hid hfin
              clear hfin
              go_wp2_with fail
              refine wp_region_T (fun v => (v.cell? ⟨b, o + k, none⟩ = some (.slice y1 la.length d1) ∧ v.cell? ⟨b, o + (k + 1), none⟩ = some (.slice y2 lb.length d2)) ∧ Ext wr v) 12 [(0, true), (1, true), (2, true), (3, true), (4, true), (5, true), (6, true), (7, true), (8, true), (9, true), (10, true), (11, true), (12, false)] (by kernel_rfl) (by kernel_rfl) (by intro c a d v w h; cases d <;> exact h) ?_
              intro ops hops
              have HS := keep0 HCS.out
              iterate 12
                refine wpT_take (v := ?_) (by rw [hops, List.getElem?_toArray]; rfl) (by first | rfl | (rw [hops]; rfl)) ?_ HS ?_
                rotate_left
                · intro v h; go_simp; with_reducible rfl
                simp only [Act.put, List.getElem_toArray, List.getElem_cons_zero, List.getElem_cons_succ, List.setIfInBounds_toArray, List.set_cons_zero, List.set_cons_succ]
              refine wpT_step (by rw [hops, List.getElem?_toArray]; rfl) (by first | rfl | (rw [hops]; rfl)) ?_
              intro K hK
              go_wp2_with fail
              refine ⟨fun h => absurd h (by decide), ?_⟩
              rw [wpT_nil]
              clear hops ops
              clear HS
              go_wp2_with fail
              go_ret
              exact ⟨ret_bool HFIN.out.symm, HXR.out.drew⟩
          · obtain rfl : i = m + 1 := by omega
            have hfin : formed ls = true := (formed_iff ls).2 ⟨HNE.out, by rw [HN0.out]; exact HN.out, by rw [HM.out, Nat.add_sub_cancel, HNM.out]; exact HLA.out, fun j h1 h2 => hI.out j h1 (by rw [HM.out] at h2; exact h2)⟩
            have HFIN := hid hfin
            clear hfin hxr
            go_wp2_with fail
            go_ret
            exact ⟨ret_bool HFIN.out.symm, HXR.out⟩
      · have hq : ((lm.length : Int) != 1) = true := by simp; omega
        have hfin : formed ls = false := formed_not fun h => by
          have := h.last
          rw [HM.out, Nat.add_sub_cancel, HNM.out] at this
          exact hlast this
        have HFIN := hid hfin
        clear hn hlast hfin
        go_wp2_with fail
        go_ret
        exact ⟨ret_bool HFIN.out.symm, Ext.refl _⟩

set_option maxRecDepth 100000 in
set_option maxHeartbeats 1600000 in
theorem refRoot_any (lv : Value) (ls : Lv) (w : World) (hl : RdL w lv ls) (hL : ls.length ≤ 1000000000000) (hE : ∀ l ∈ ls, l.length ≤ 1000000000000) :
    Calls Try.prog 18 #[lv] w fun e w' => e = .returned (uv (rootL ls)) ∧ Ext w w' := by
  obtain ⟨a, c, rfl, hc1, hc2, -⟩ := hl.shape
  have HWF := hid (refFormed_any _ ls w hl hL hE)
  have HL := hid hl
  clear hl hE hc1 hc2
  go_enter Try.func18, Try.ntmps18
  go_wp2_with fail
  refine HWF.out.mono ?_
  rintro e w1 ⟨rfl, hx1⟩
  have HX1 := hid hx1
  cases hf : formed ls with
  | false =>
    have hr : rootL ls = 0 := by unfold rootL; rw [hf]; rfl
    have HR := hid hr
    clear hr hf hx1
    go_wp2_with fail
    go_ret
    exact ⟨by rw [HR.out]; rfl, HX1.out⟩
  | true =>
    have hr : rootL ls = at2 ls (ls.length - 1) 0 := by unfold rootL; rw [hf]; rfl
    have hne := formed_ne hf
    have hlast := formed_last hf
    obtain ⟨m, hm⟩ : ∃ m, ls.length = m + 1 := ⟨ls.length - 1, by have := List.length_pos_iff.2 hne; omega⟩
    rw [hm, Nat.add_sub_cancel] at hlast hr
    obtain ⟨l, hk⟩ : ∃ l, ls[m]? = some l := ⟨_, List.getElem?_eq_getElem (by omega)⟩
    rw [lnAt_of hk] at hlast
    obtain ⟨x, hx0⟩ : ∃ x, l[0]? = some x := ⟨_, List.getElem?_eq_getElem (by omega)⟩
    rw [at2_of hk hx0] at hr
    obtain ⟨b, o, y, d, rfl, hcell, hrd, hld, -⟩ := (HL.out.ext HX1.out).at hk
    obtain ⟨b', o', rfl, hcell'⟩ := hrd.uat hx0
    rw [hlast] at hcell hld
    have HR := hid hr
    have hcell0 : w1.cell? ⟨b', o', none⟩ = some (.int .u64 x.toNat) := hcell'
    have e1 : ((m + 1 : Nat) : Int) - 1 = (m : Int) := by omega
    rw [hm] at hL ⊢
    clear hr hf hx1 hne hlast hm hk hx0 hrd hcell'
    go_wp2_with fail
    go_ret
    exact ⟨by rw [HR.out]; rfl, HX1.out⟩
end Go.Proofs.Ytdpgfjnpcjpdpaa
namespace Go.Proofs.Ytdpgfjnpcjpdpaa
open Go.RowKit
attribute [local irreducible] perm fAdd fMul fPow fSub fNeg fRed

set_option maxRecDepth 100000 in
set_option maxHeartbeats 3200000 in
theorem refPath_any (lv : Value) (ls : Lv) (i : Int) (w : World) (hl : RdL w lv ls) (hL : ls.length ≤ 1000000000000) (hE : ∀ l ∈ ls, l.length ≤ 1000000000000) :
    Calls Try.prog 21 #[lv, .int .i64 i] w (NewP w (pathL ls i)) := by
  obtain ⟨a, c, rfl, hc1, hc2, -⟩ := hl.shape
  have HWF := hid (refFormed_any _ ls w hl hL hE)
  have HL := hid hl
  have HC := hid hc1
  have hp : pathL ls i = if pathI ls i then pathN ls i.toNat (ls.length - 1) else [] := rfl
  have HP := hid hp
  have hpi : pathI ls i = (formed ls && (decide (0 ≤ i) && decide (i < (lnAt ls 0 : Nat)))) := rfl
  have HPI := hid hpi
  clear hl hE hc2 hp hpi
  go_enter Try.func21, Try.ntmps21
  go_wp2_with fail
  refine HWF.out.mono ?_
  rintro e w1 ⟨rfl, hx1⟩
  have HX1 := hid hx1
  cases hf : formed ls with
  | false =>
    have hr : pathL ls i = [] := by rw [HP.out, HPI.out, hf]; rfl
    have HR := hid hr
    clear hr hf hx1
    go_wp2_with fail
    go_ret
    exact ⟨_, rfl, by rw [HR.out]; exact ownU_nil _, HX1.out, by intro k hk; cases hk⟩
  | true =>
    by_cases hi0 : i < 0
    · have hr : pathL ls i = [] := by rw [HP.out, HPI.out, hf, decide_eq_false (show ¬ 0 ≤ i by omega)]; rfl
      have HR := hid hr
      clear hr hf hx1
      go_wp2_with fail
      go_ret
      exact ⟨_, rfl, by rw [HR.out]; exact ownU_nil _, HX1.out, by intro k hk; cases hk⟩
    · have hlen : 0 < ls.length := List.length_pos_iff.2 (formed_ne hf)
      obtain ⟨l, hk⟩ : ∃ l, ls[0]? = some l := ⟨_, List.getElem?_eq_getElem (by omega)⟩
      have hl1 := HL.out.ext HX1.out
      have HL1 := hid hl1
      obtain ⟨b, o, y, d, rfl, hcell, hrd, hld, -⟩ := hl1.at hk
      have hln := lnAt_of hk
      have hcell0 : w1.cell? ⟨b, o, none⟩ = some (.slice y l.length d) := hcell
      by_cases hi1 : i < (l.length : Int)
      · obtain ⟨j, rfl⟩ : ∃ j : Nat, i = (j : Int) := ⟨i.toNat, by omega⟩
        have hpI : pathI ls (j : Int) = true := by rw [HPI.out, hf, hln, decide_eq_true (show (0 : Int) ≤ j by omega), decide_eq_true hi1]; rfl
        have hr : pathL ls (j : Int) = pathN ls j (ls.length - 1) := by rw [HP.out, hpI]; rfl
        have hji : j < lnAt ls 0 := by rw [hln]; omega
        obtain ⟨m, hm⟩ : ∃ m, ls.length = m + 1 := ⟨ls.length - 1, by omega⟩
        rw [hm, Nat.add_sub_cancel] at hr
        have HR := hid hr
        have HF := hid hf
        have HJI := hid hji
        have HM := hid hm
        have hj1 : j ≤ 1024 := by have := (isNum_pos (formed_first hf)).2; omega
        have hmL : m ≤ 1000000000000 := by omega
        obtain ⟨w2, hw2⟩ : ∃ w2, w2 = w1 := ⟨_, rfl⟩
        have HW2 := hid hw2
        have hd1 : decide ((j : Int) < 0) = false := by simp
        have hd2 : decide (l.length ≤ j) = false := by simp; omega
        have hm1 : (0 : Int) < (m : Int) + 1 := by omega
        rw [hm] at HL1 HWF HL ⊢
        clear hr hf hji hm hpI hln hk hx1 hl1 hcell hrd hlen hL hi1 hi0 hw2 HPI HP
        obtain ⟨i0, hi, hz0, hz1, hz2⟩ := info_parts Try.infoU
        have HI := hid hi
        have HZ0 := hid hz0
        have HZ1 := hid hz1
        have HZ2 := hid hz2
        clear hi hz0 hz1 hz2
        go_wp2_with fail
        go_loopw [1, 5, 6] (fun iv p kv wr => ∃ k : Nat, k ≤ m ∧ kv = .int .i64 k ∧ iv = .int .i64 ((j / 2 ^ k : Nat) : Int) ∧ OwnU wr p (pathN ls j k) ∧ Ext w1 wr ∧ ∀ t, blk p = some t → w1.heap.size ≤ t) (fun _ _ kv _ => (m - (intOf kv).toNat))
        case atStart => exact ⟨0, by omega, rfl, by simp, ownU_nil _, by rw [← HW2.out]; exact Ext.refl _, by intro t ht; cases ht⟩
        case round =>
          obtain ⟨k, hkm, rfl, rfl, hown, hxr, hfr⟩ := hrel
          have HXR := hid hxr
          have HFR := hid hfr
          by_cases hlt : k < m
          · obtain ⟨l', hkk⟩ : ∃ l', ls[k]? = some l' := ⟨_, List.getElem?_eq_getElem (by rw [HM.out]; omega)⟩
            obtain ⟨b', o', y', d', he, hc', hr', -⟩ := (HL1.out.ext hxr).at hkk
            injection he with he
            injection he with he1 he2
            subst he1 he2
            have hsib := path_sib HF.out HJI.out k (by rw [HM.out]; omega)
            rw [lnAt_of hkk] at hsib
            have hq : j / 2 ^ k ≤ 1024 := Nat.le_trans (Nat.div_le_self _ _) hj1
            have hx1 := xor1_i64 (j / 2 ^ k) (by omega)
            have hpow := half_pow j k
            have hps := pathN_succ ls j k
            have hpl := pathN_length ls j k
            generalize pathN ls j k = p0 at *
            generalize j / 2 ^ k = q at *
            generalize q ^^^ 1 = s at *
            obtain ⟨x, hxs⟩ : ∃ x, l'[s]? = some x := ⟨_, List.getElem?_eq_getElem hsib⟩
            rw [at2_of hkk hxs] at hps
            obtain ⟨b2, o2, rfl, hc2⟩ := hr'.uat hxs
            obtain ⟨pa, pc, rfl, -⟩ := ownsRow_rd hown
            have HOWN := hid hown
            have HPS := hid hps
            have HPL := hid hpl
            have HPOW := hid hpow
            have hk0 : (0 : Int) ≤ (k : Int) := by omega
            have hs1 : (s : Int) < (l'.length : Int) := by omega
            have hr1 := RdC.new1 wr (uv x) 28
            have hown2 : OwnU (wr.alloc (.cells #[uv x] 28)) (.slice pa p0.length pc) p0 := ownsRow_ext hown ((Ext.refl wr).alloc _)
            clear hown hps hpl hxr hfr hkk hr' hsib hxs hpow
            go_wp2_with (at_builtin; refine wpList_app rfl _ _ 24 rfl 28 i0 (.int .u64 0) 1 8 Try.underlying24 HI.out HZ0.out HZ1.out HZ2.out rfl (by decide) _ p0.length (us p0) rfl hown2 _ 1 [uv x] rfl hr1 rfl (us_one [x]) (by have := HPL.out; unfold maxLen; omega) (by have := HPL.out; omega) ?_)
            intro v' w3 hown3 hk3 hb3
            have hg := grown_one HXR.out HFR.out hown3 hk3 (by simpa using hb3)
            have HG := hid hg
            clear hown3 hk3 hb3 hg hr1 hown2
            go_wp2_with fail
            go_roundw
            case rel => exact ⟨k + 1, by omega, by go_num, by rw [← HPOW.out]; go_num, by rw [HPS.out]; exact HG.out.1, HG.out.2.1, HG.out.2.2⟩
            case measure => simp [intOf]; omega
          · obtain rfl : k = m := by omega
            have HOWN := hid hown
            clear hown hxr hfr
            go_wp2_with fail
            go_ret
            exact ⟨_, rfl, by rw [HR.out]; exact HOWN.out, HX1.out.trans HXR.out, fun t ht => Nat.le_trans HX1.out.size (HFR.out t ht)⟩
      · have hr : pathL ls i = [] := by rw [HP.out, HPI.out, hf, hln, decide_eq_false hi1]; simp
        have HR := hid hr
        have hd : decide ((l.length : Int) ≤ i) = true := by simp; omega
        have hlen' : (0 : Int) < (ls.length : Int) := by omega
        clear hr hf hk hl1 hcell hrd hln
        go_wp2_with fail
        go_ret
        exact ⟨_, rfl, by rw [HR.out]; exact ownU_nil _, HX1.out, by intro k hk; cases hk⟩
end Go.Proofs.Ytdpgfjnpcjpdpaa
