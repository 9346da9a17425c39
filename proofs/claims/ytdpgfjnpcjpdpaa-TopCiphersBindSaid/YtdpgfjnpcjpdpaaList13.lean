/- right13 and same13: lists of leaves with their salts. -/
import Derived.Test.YtdpgfjnpcjpdpaaTrans
set_option linter.unusedSimpArgs false
namespace Go.Proofs.Ytdpgfjnpcjpdpaa
open Go.RowKit
attribute [local irreducible] perm fAdd fMul fPow fSub fNeg fRed hashU drawOf nextState awT

structure R13 (leaves : Lv) (salts : List UInt64) : Prop where
  ok : commitOk leaves salts = true
  l16 : leaves.length ≤ 16
  l20 : ∀ l ∈ leaves, l.length ≤ 20
set_option maxRecDepth 100000 in
set_option maxHeartbeats 3200000 in
theorem right13_any {w : World} {lv sv : Value} {leaves : Lv} {salts : List UInt64} (hl : RdL w lv leaves) (hs : RdU w sv salts) :
    Calls Try.prog 23 #[.agg #[lv, sv]] w fun e w' => ∃ r, e = .returned (.bool r) ∧ (r = true → R13 leaves salts) ∧ Ext w w' := by
  obtain ⟨la, lc, rfl, hlc, hlm, -⟩ := hl.shape
  obtain ⟨sa, sc, rfl, hsc, hsm, -⟩ := id hs
  have hx0 := (Ext.refl w).alloc (.cells #[.slice la leaves.length lc, .slice sa salts.length sc] 36)
  have HX0 := hid hx0
  have HL := hid (hl.ext hx0)
  have HRD := hid fun (h : salts.length ≤ 1000000000000) => rReduced_any _ salts _ (hs.ext hx0).weak h
  have HM := hid (Nat.le_trans hlc hlm)
  have HSM := hid (Nat.le_trans hsc hsm)
  clear hx0 hl hs hlc hlm hsc hsm
  go_enter Try.func23, Try.ntmps23
  by_cases h1 : (leaves.length : Int) < 1
  · go_wp2_with fail
    go_ret
    exact ⟨false, rfl, (fun h => by cases h), HX0.out⟩
  have d1 : decide ((leaves.length : Int) < 1) = false := decide_eq_false h1
  have d1' : decide (leaves.length < 1) = false := decide_eq_false (by omega)
  by_cases h2 : (16 : Int) < (leaves.length : Int)
  · have d2 : decide ((16 : Int) < (leaves.length : Int)) = true := by simp; omega
    have d2' : decide (16 < leaves.length) = true := by simp; omega
    clear h1 h2
    go_wp2_with fail
    go_ret
    exact ⟨false, rfl, (fun h => by cases h), HX0.out⟩
  have d2 : decide ((16 : Int) < (leaves.length : Int)) = false := by simp; omega
  have d2' : decide (16 < leaves.length) = false := by simp; omega
  have hwr : IntKind.i64.wrap ((leaves.length : Int) - 1) = (leaves.length : Int) - 1 := IntWalk.i64_in _ (by omega)
  have hnum : isNum leaves.length = (bits .and .i64 (leaves.length : Int) ((leaves.length : Int) - 1) == 0) := by
    rw [← numI_nat]
    unfold numI
    rw [decide_eq_true (show (1 : Int) ≤ (leaves.length : Int) by omega), decide_eq_true (show (leaves.length : Int) ≤ 1024 by omega)]; simp
  have H16 := hid (show leaves.length ≤ 16 by omega)
  have HNUM := hid hnum
  obtain ⟨B, hB⟩ : ∃ B, B = bits .and .i64 (leaves.length : Int) ((leaves.length : Int) - 1) := ⟨_, rfl⟩
  rw [← hB] at HNUM
  clear h1 h2 hnum
  have hl16 : (leaves.length : Int) ≤ 16 := by have := H16.out; omega
  cases hb : (B == 0) with
  | false =>
    have hbn : (bits .and .i64 (leaves.length : Int) ((leaves.length : Int) - 1) != 0) = true := by rw [← hB]; simp [bne, hb]
    have hbz : ¬ bits .and .i64 (leaves.length : Int) ((leaves.length : Int) - 1) = 0 := by rw [← hB]; simpa using hb
    clear hb hB
    go_wp2_with fail
    go_ret
    exact ⟨false, rfl, (fun h => by cases h), HX0.out⟩
  | true =>
    have hbn : (bits .and .i64 (leaves.length : Int) ((leaves.length : Int) - 1) != 0) = false := by rw [← hB]; simp [bne, hb]
    have hbz : bits .and .i64 (leaves.length : Int) ((leaves.length : Int) - 1) = 0 := by rw [← hB]; simpa using hb
    have HN1 : Hid (isNum leaves.length = true) := hid (HNUM.out.trans hb)
    clear hb hB
    by_cases hsl : salts.length = leaves.length
    case neg =>
      have hd3 : ((salts.length : Int) != (leaves.length : Int)) = true := by simp; omega
      clear hsl
      go_wp2_with fail
      go_ret
      exact ⟨false, rfl, (fun h => by cases h), HX0.out⟩
    have hd3 : ((salts.length : Int) != (leaves.length : Int)) = false := by simp; omega
    have HSL := hid hsl
    clear hsl
    cases hal : allE salts with
    | false =>
      rw [hal] at HRD
      clear hal
      go_wp2_with fail
      refine (HRD.out (by have h1 := HSL.out; have h2 := H16.out; omega)).mono ?_
      rintro e w1 ⟨rfl, hx1⟩
      have HX1 := hid (HX0.out.trans hx1)
      clear hx1
      go_wp2_with fail
      go_ret
      exact ⟨false, rfl, (fun h => by cases h), HX1.out⟩
    | true =>
      rw [hal] at HRD
      have HAL := hid hal
      clear hal
      have hbx := heap_new w (.cells #[.slice la leaves.length lc, .slice sa salts.length sc] 36)
      have HBX := hid hbx
      clear hbx
      go_wp2_with fail
      refine (HRD.out (by have h1 := HSL.out; have h2 := H16.out; omega)).mono ?_
      rintro e w1 ⟨rfl, hx1⟩
      have c0 : w1.cell? ⟨w.heap.size, 0, none⟩ = some (.slice la leaves.length lc) := cell_of (hx1.heap_some HBX.out) 0
      have HX1 := hid (HX0.out.trans hx1)
      have HL1 := hid (HL.out.ext hx1)
      clear hx1
      go_wp2_with fail
      go_loopw [38] (fun iv wr => ∃ i : Nat, i ≤ leaves.length ∧ iv = .int .i64 i ∧ Hid (∀ j, j < i → ∀ l, leaves[j]? = some l → l.length ≤ 20 ∧ allE l = true) ∧ Hid (Ext w1 wr)) (fun iv _ => leaves.length - (intOf iv).toNat)
      case atStart => exact ⟨0, by omega, rfl, hid (fun j hj => by omega), hid (Ext.refl _)⟩
      case round =>
        obtain ⟨i, hi, rfl, HI, HE⟩ := hrel
        have HC0 := hid (HE.out.cell_some c0)
        by_cases hlt : i < leaves.length
        · obtain ⟨l, hll⟩ : ∃ l, leaves[i]? = some l := ⟨_, List.getElem?_eq_getElem hlt⟩
          obtain ⟨b, o, y, d, rfl, hc, hrl, -⟩ := HL1.out.at hll
          have hcr := HE.out.cell_some hc
          have HRL := hid (hrl.ext HE.out)
          have hi0 : (0 : Int) ≤ (i : Int) := by omega
          have hiq : (i : Int) < (leaves.length : Int) := by omega
          have HLL := hid hll
          clear hll hc hrl
          by_cases h20 : 20 < l.length
          · have hd : decide ((20 : Int) < (l.length : Int)) = true := by simp; omega
            have hd' : decide (20 < l.length) = true := by simp; omega
            clear h20
            go_wp2_with fail
            go_ret
            exact ⟨false, rfl, (fun h => by cases h), HX1.out.trans HE.out⟩
          · have hd : decide ((20 : Int) < (l.length : Int)) = false := by simp; omega
            have hd' : decide (20 < l.length) = false := by simp; omega
            have H20 := hid h20
            clear h20
            go_wp2_with fail
            refine (rReduced_any _ l _ HRL.out (by have := H20.out; omega)).mono ?_
            rintro e w2 ⟨rfl, hx2⟩
            have HX2 := hid (HE.out.trans hx2)
            clear hx2 hcr
            cases hal2 : allE l with
            | false =>
              clear hal2
              go_wp2_with fail
              go_ret
              exact ⟨false, rfl, (fun h => by cases h), HX1.out.trans HX2.out⟩
            | true =>
              have HA2 := hid hal2
              clear hal2
              go_wp2_with fail
              go_roundw
              case rel =>
                have h16 := H16.out
                refine ⟨i + 1, by omega, by go_num, hid (fun j hj l' hl' => ?_), HX2⟩
                rcases Nat.lt_or_ge j i with h | h
                · exact HI.out j h l' hl'
                · obtain rfl : j = i := by omega
                  rw [HLL.out] at hl'
                  cases hl'
                  exact ⟨by have := H20.out; omega, HA2.out⟩
              case measure => have h16 := H16.out; simp [intOf]; omega
        · have hiz : i = leaves.length := by omega
          have hfin : R13 leaves salts := by
            refine ⟨?_, H16.out, fun l hl => ?_⟩
            · unfold commitOk
              rw [HN1.out, HAL.out, HSL.out]
              simp only [beq_self_eq_true, Bool.true_and, List.all_eq_true]
              intro l hl
              obtain ⟨j, hj⟩ := List.mem_iff_getElem?.1 hl
              exact (HI.out j (by have := (List.getElem?_eq_some_iff.1 hj).1; omega) l hj).2
            · obtain ⟨j, hj⟩ := List.mem_iff_getElem?.1 hl
              exact (HI.out j (by have := (List.getElem?_eq_some_iff.1 hj).1; omega) l hj).1
          have HFIN := hid hfin
          clear hfin hiz
          go_wp2_with fail
          go_ret
          exact ⟨true, rfl, fun _ => HFIN.out, HX1.out.trans HE.out⟩

theorem take_eq_snoc {α : Type} {a b : List α} {i : Nat} {x y : α} (ha : a[i]? = some x) (hb : b[i]? = some y) (h : a.take i = b.take i) (he : x = y) : a.take (i + 1) = b.take (i + 1) := by
  rw [List.take_add_one, List.take_add_one, ha, hb, h, he]
set_option maxRecDepth 100000 in
set_option maxHeartbeats 3200000 in
theorem same13_any {w : World} {lv sv mv tv : Value} {ls ms : Lv} {ss ts : List UInt64} (hl : RdL w lv ls) (hs : RdU w sv ss) (hm : RdL w mv ms) (ht : RdU w tv ts) (hL : ls.length ≤ 16) (hM : ms.length ≤ 16) (hE : ∀ l ∈ ls, l.length ≤ 1000000) (hE' : ∀ l ∈ ms, l.length ≤ 1000000) (hS : ss.length ≤ 1000000) (hT : ts.length ≤ 1000000) :
    Calls Try.prog 28 #[.agg #[lv, sv], .agg #[mv, tv]] w fun e w' => e = .returned (.bool (decide (ls = ms ∧ ss = ts))) ∧ Ext w w' := by
  obtain ⟨la, lc, rfl, -⟩ := hl.shape
  obtain ⟨sa, sc, rfl, -⟩ := id hs
  obtain ⟨ma, mc, rfl, -⟩ := hm.shape
  obtain ⟨ta, tc, rfl, -⟩ := id ht
  obtain ⟨w0, hw0⟩ : ∃ w0, w0 = (w.alloc (.cells #[.slice la ls.length lc, .slice sa ss.length sc] 36)).alloc (.cells #[.slice ma ms.length mc, .slice ta ts.length tc] 36) := ⟨_, rfl⟩
  have hx0 : Ext w w0 := by rw [hw0]; exact ((Ext.refl _).alloc _).alloc _
  have hba : w0.heap[w.heap.size]? = some (.cells #[.slice la ls.length lc, .slice sa ss.length sc] 36 (0, 0)) := by rw [hw0]; exact heap_alloc_some (heap_new _ _)
  have hbb : w0.heap[w.heap.size + 1]? = some (.cells #[.slice ma ms.length mc, .slice ta ts.length tc] 36 (0, 0)) := by rw [hw0]; exact heap_new_at _ _ (by simp)
  have hce : ∀ v, Ext w0 v → v.cell? ⟨w.heap.size, 0, none⟩ = some (.slice la ls.length lc) ∧ v.cell? ⟨w.heap.size, 1, none⟩ = some (.slice sa ss.length sc) ∧ v.cell? ⟨w.heap.size + 1, 0, none⟩ = some (.slice ma ms.length mc) ∧ v.cell? ⟨w.heap.size + 1, 1, none⟩ = some (.slice ta ts.length tc) := fun v k =>
    ⟨k.cell_some (cell_of hba 0), k.cell_some (cell_of hba 1), k.cell_some (cell_of hbb 0), k.cell_some (cell_of hbb 1)⟩
  have HX0 := hid hx0
  have HL := hid (hl.ext hx0)
  have HM := hid (hm.ext hx0)
  have HSA := hid (Same01_any _ _ ss ts w0 (hs.ext hx0) (ht.ext hx0) (by omega) (by omega))
  have HCE := hid hce
  have HW0 := hid hw0
  have HE := hid hE
  have HE' := hid hE'
  obtain ⟨R, hR⟩ : ∃ R, R = decide (ls = ms ∧ ss = ts) := ⟨_, rfl⟩
  have HR := hid hR
  rw [← hR]
  have hL16 : (ls.length : Int) ≤ 16 := by omega
  clear hx0 hba hbb hce hl hs hm ht hw0 hE hE' hR
  by_cases hlen : ls.length = ms.length
  case neg =>
    have hd : ((ls.length : Int) != (ms.length : Int)) = true := by simp; omega
    have HF : Hid (R = false) := hid (by rw [HR.out]; exact decide_eq_false (by rintro ⟨rfl, -⟩; exact hlen rfl))
    clear hlen
    go_enter Try.func28, Try.ntmps28
    go_wp2_with fail
    go_ret
    rw [← HW0.out]
    exact ⟨ret_bool HF.out.symm, HX0.out⟩
  have hd : ((ls.length : Int) != (ms.length : Int)) = false := by simp; omega
  have HLEN := hid hlen
  clear hlen
  go_enter Try.func28, Try.ntmps28
  go_wp2_with fail
  rw [← HW0.out]
  refine HSA.out.mono ?_
  rintro e w1 ⟨rfl, hx1⟩
  have HX1 := hid (HX0.out.trans hx1)
  have HXX := hid hx1
  cases hst : ss == ts with
  | false =>
    have HF : Hid (R = false) := hid (by rw [HR.out]; exact decide_eq_false (by rintro ⟨-, rfl⟩; simp at hst))
    clear hst hx1
    go_wp2_with fail
    go_ret
    exact ⟨ret_bool HF.out.symm, HX1.out⟩
  | true =>
    have HST : Hid (ss = ts) := hid (by simpa using hst)
    have HC1 : Hid (∀ v, Ext w1 v → _) := hid fun v k => HCE.out v (hx1.trans k)
    have HL1 := hid (HL.out.ext hx1)
    have HM1 := hid (HM.out.ext hx1)
    obtain ⟨c0, -, -, -⟩ := HCE.out w1 hx1
    clear hst hx1
    go_wp2_with fail
    go_loopw [24] (fun iv wr => ∃ i : Nat, i ≤ ls.length ∧ iv = .int .i64 i ∧ Hid (ls.take i = ms.take i) ∧ Hid (Ext w1 wr)) (fun iv _ => ls.length - (intOf iv).toNat)
    case atStart => exact ⟨0, by omega, rfl, hid rfl, hid (Ext.refl _)⟩
    case round =>
      obtain ⟨i, hi, rfl, HI, HEX⟩ := hrel
      by_cases hlt : i < ls.length
      · have hlt2 : i < ms.length := by rw [← HLEN.out]; exact hlt
        obtain ⟨l, hll⟩ : ∃ l, ls[i]? = some l := ⟨_, List.getElem?_eq_getElem hlt⟩
        obtain ⟨m, hmm⟩ : ∃ m, ms[i]? = some m := ⟨_, List.getElem?_eq_getElem hlt2⟩
        obtain ⟨b, o, y, d, rfl, hc, hrl, -⟩ := HL1.out.at hll
        obtain ⟨b', o', y', d', rfl, hc', hrm, -⟩ := HM1.out.at hmm
        have hd1 : decide ((i : Int) < (ls.length : Int)) = true := by simp; omega
        have i0 : (0 : Int) ≤ (i : Int) := by omega
        have i1 : (i : Int) < (ls.length : Int) := by omega
        have i2 : (i : Int) < (ms.length : Int) := by omega
        have hcr : ∀ v, Ext wr v → v.cell? ⟨w.heap.size, 0, none⟩ = some (.slice (some ⟨b, o, none⟩) ls.length lc) ∧ v.cell? ⟨w.heap.size + 1, 0, none⟩ = some (.slice (some ⟨b', o', none⟩) ms.length mc) ∧ v.cell? ⟨b, o + i, none⟩ = some (.slice y l.length d) ∧ v.cell? ⟨b', o' + i, none⟩ = some (.slice y' m.length d') := fun v k => by
          obtain ⟨g0, -, g2, -⟩ := HCE.out v (HXX.out.trans (HEX.out.trans k))
          exact ⟨g0, g2, (HEX.out.trans k).cell_some hc, (HEX.out.trans k).cell_some hc'⟩
        have HCR := hid hcr
        have HLL := hid hll
        have HMM := hid hmm
        have HRL := hid hrl
        have HRM := hid hrm
        clear hll hmm hc hc' hrl hrm hcr c0
        go_wp2_with fail
        refine wp_region_T (fun v => (v.cell? ⟨w.heap.size, 0, none⟩ = some (.slice (some ⟨b, o, none⟩) ls.length lc) ∧ v.cell? ⟨w.heap.size + 1, 0, none⟩ = some (.slice (some ⟨b', o', none⟩) ms.length mc) ∧ v.cell? ⟨b, o + i, none⟩ = some (.slice y l.length d) ∧ v.cell? ⟨b', o' + i, none⟩ = some (.slice y' m.length d')) ∧ Ext wr v) 10 [(0, true), (1, true), (2, true), (3, true), (4, true), (5, true), (6, true), (7, true), (8, true), (9, true), (10, false), (11, false)] (by kernel_rfl) (by kernel_rfl) (by intro c a d v w h; cases d <;> exact h) ?_
        intro ops hops
        have HS := (And.intro (HCR.out _ (Ext.refl wr).drew) (Ext.refl wr).drew)
        iterate 10
          refine wpT_take (v := ?_) (by rw [hops, List.getElem?_toArray]; rfl) (by first | rfl | (rw [hops]; rfl)) ?_ HS ?_
          rotate_left
          · intro v h; go_simp; with_reducible rfl
          simp only [Act.put, List.getElem_toArray, List.getElem_cons_zero, List.getElem_cons_succ, List.setIfInBounds_toArray, List.set_cons_zero, List.set_cons_succ]
        have hxr := HS.2
        clear HS
        refine wpT_step (by rw [hops, List.getElem?_toArray]; rfl) (by first | rfl | (rw [hops]; rfl)) ?_
        intro K hK
        go_wp2_with fail
        refine (Same01W_any _ _ l m _ (HRL.out.ext (HEX.out.trans hxr)) (HRM.out.ext (HEX.out.trans hxr)) (by have := HE.out l (List.mem_of_getElem? HLL.out); omega) (by have := HE'.out m (List.mem_of_getElem? HMM.out); omega)).mono ?_
        rintro e w2 ⟨rfl, hx2⟩
        have HX2 := hid (HEX.out.trans (hxr.trans hx2))
        clear hx2 hxr
        refine hK _ _ ⟨fun h => absurd h (by decide), ?_⟩
        clear hK K
        cases hlm : l == m with
        | false =>
          have HF : Hid (R = false) := hid (by rw [HR.out]; exact decide_eq_false (by
            rintro ⟨h1, -⟩
            have h2 := HLL.out
            rw [h1, HMM.out] at h2
            rw [Option.some.inj h2] at hlm
            simp at hlm))
          clear hlm
          refine wpT_step (by rw [hops, List.getElem?_toArray]; rfl) (by first | rfl | (rw [hops]; rfl)) ?_
          intro K hK
          go_wp2_with fail
          try (with_reducible refine ⟨fun h => absurd h (by decide), ?_⟩)
          try rw [← hops]
          rw [wpT_nil]
          clear hops ops
          go_wp2_with fail
          go_ret
          exact ⟨ret_bool HF.out.symm, HX1.out.trans HX2.out⟩
        | true =>
          have HLM : Hid (l = m) := hid (by simpa using hlm)
          clear hlm
          refine wpT_step (by rw [hops, List.getElem?_toArray]; rfl) (by first | rfl | (rw [hops]; rfl)) ?_
          intro K hK
          go_wp2_with fail
          try (with_reducible refine ⟨fun h => absurd h (by decide), ?_⟩)
          try rw [← hops]
          rw [wpT_nil]
          clear hops ops
          go_wp2_with fail
          go_roundw
          case rel => exact ⟨i + 1, by omega, by go_num, hid (take_eq_snoc HLL.out HMM.out HI.out HLM.out), HX2⟩
          case measure => simp [intOf]; omega
      · have hiz : i = ls.length := by omega
        have HF : Hid (R = true) := hid (by
          rw [HR.out]
          refine decide_eq_true ⟨?_, HST.out⟩
          have h1 := HI.out
          rw [hiz, List.take_length] at h1
          rw [HLEN.out, List.take_length] at h1
          exact h1)
        have hd1 : decide ((i : Int) < (ls.length : Int)) = false := by simp; omega
        clear hiz c0
        go_wp2_with fail
        go_ret
        exact ⟨ret_bool HF.out.symm, HX1.out.trans HEX.out⟩
end Go.Proofs.Ytdpgfjnpcjpdpaa
