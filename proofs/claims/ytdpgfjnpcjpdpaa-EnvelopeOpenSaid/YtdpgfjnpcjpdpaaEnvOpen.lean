/- EnvelopeOpen returns true: the walk. -/
import Derived.Test.YtdpgfjnpcjpdpaaEnvSealed
set_option linter.unusedSimpArgs false
namespace Go.Proofs.Ytdpgfjnpcjpdpaa
open Go.RowKit
attribute [local irreducible] perm fAdd fMul fPow fSub fNeg fRed hashU drawOf nextState cipSeal
theorem eqIn_slice_nil {P : Program} (w : World) (d : Nat) (t e : TypeId) (a : Addr) (n c : Nat) (h : P.underlying t = some (.slice e)) : (Op.equalIn (d + 1) t (.slice (some a) n c) (.slice none 0 0)).run P w = .ok false w := by
  simp [Op.equalIn, run_underlying h]
theorem outs_some (w : World) (a : Addr) (n c : Nat) : (binOp .eql 111 (.slice (some a) n c) (.slice none 0 0)).run Try.prog w = .ok (.bool false) w := by
  have h2 : (Op.equal 111 (.slice (some a) n c) (.slice none 0 0)).run Try.prog w = .ok false w := eqIn_slice_nil (P := Try.prog) w 9999 111 83 a n c (by kernel_rfl)
  simp [binOp, h2]
theorem oCells_at (O : List Ot) (i : Nat) {x : Ot} (h : O[i]? = some x) : (oCells O)[i * 4]? = some (.int .u64 0) ∧ (oCells O)[i * 4 + 1]? = some (uv x.1.a) ∧ (oCells O)[i * 4 + 2]? = some (uv x.1.b) ∧ (oCells O)[i * 4 + 3]? = some x.2.2 := by
  induction O generalizing i with
  | nil => simp at h
  | cons y r ih =>
    have hc : oCells (y :: r) = .int .u64 0 :: uv y.1.a :: uv y.1.b :: y.2.2 :: oCells r := by simp [oCells]
    rw [hc]
    cases i with
    | zero => simp at h; subst h; exact ⟨rfl, rfl, rfl, rfl⟩
    | succ i =>
      have := ih i (by simpa using h)
      rw [show (i + 1) * 4 = i * 4 + 1 + 1 + 1 + 1 by omega]
      simpa using this
theorem outs_at {w : World} {oa : Addr} {n oc : Nat} {O : List Ot} (h : w.ownsRow 0 83 4 (.slice (some oa) n oc) n (oCells O)) {i : Nat} {x : Ot} (hx : O[i]? = some x) :
    ∃ b o, oa = ⟨b, o, none⟩ ∧ w.cell? ⟨b, o + i * 4, none⟩ = some (.int .u64 0) ∧ w.cell? ⟨b, o + i * 4 + 1, none⟩ = some (uv x.1.a) ∧ w.cell? ⟨b, o + i * 4 + 2, none⟩ = some (uv x.1.b) ∧ w.cell? ⟨b, o + i * 4 + 3, none⟩ = some x.2.2 := by
  obtain ⟨a, c, he, -, -, -, h4⟩ := ownsRow_rd h
  injection he with e1 e2 e3
  subst e1 e3
  obtain ⟨hs, hc⟩ := h4 oa rfl
  obtain ⟨b, o, s⟩ := oa
  simp only at hs
  subst hs
  obtain ⟨c0, c1, c2, c3⟩ := oCells_at O i hx
  exact ⟨b, o, rfl, hc _ _ c0, by have := hc _ _ c1; rwa [← Nat.add_assoc] at this, by have := hc _ _ c2; rwa [← Nat.add_assoc] at this, by have := hc _ _ c3; rwa [← Nat.add_assoc] at this⟩
theorem openP_rel {M MR : Orc} (h : Rel M MR) (ideal : Bool) (view : UInt64) (pt : E2) (c : List UInt64) : openP ideal MR.seals view pt c = openP ideal M.seals view pt c := by
  have hi : ∀ k, openI MR.seals k 0 c = openI M.seals k 0 c := fun k => by unfold openI; rw [h.seals]
  unfold openP
  rw [hi]
set_option maxRecDepth 100000 in
set_option maxHeartbeats 12800000 in
theorem EnvelopeOpen_any {w : World} {ideal : Bool} {seed : UInt64} {lv vv : Value} {l : List Pc} {views : List UInt64} (hl : RdP w lv l) (hv : RdU' w vv views) :
    Calls Try.prog 12 #[.agg #[uv seed, .bool ideal], lv, vv] w fun e w' => e = .returned (.bool true) ∧ Ext w w' := by
  obtain ⟨la, lc, rfl, hlc, hlm, -⟩ := id hl
  obtain ⟨ya, yc, rfl, hyc, hym, -⟩ := id hv
  obtain ⟨N, hN⟩ : ∃ N, N = w.heap.size := ⟨_, rfl⟩
  obtain ⟨w0, hw0⟩ : ∃ w0, w0 = w.alloc (.cells #[uv seed, .bool ideal] 89) := ⟨_, rfl⟩
  have hx0 : Ext w w0 := by rw [hw0]; exact (Ext.refl w).alloc _
  have hb0 : w0.heap[N]? = some (.cells #[uv seed, .bool ideal] 89 (0, 0)) := by rw [hw0, hN]; exact heap_new _ _
  have HW := hid hw0
  have HX0 := hid hx0
  have HB0 := hid hb0
  have HL := hid hl
  have HV := hid (hv.ext hx0)
  have HA := hid awake35_any
  have HLM := hid (And.intro (Nat.le_trans hlc hlm) (Nat.le_trans hyc hym))
  clear hw0 hx0 hb0 hl hlc hlm hv hyc hym
  go_enter Try.func12, Try.ntmps12
  go_upto_region 1 with fail
  rw [← HW.out, ← hN]
  clear hN
  go_wp2_with fail
  refine (HA.out _).mono ?_
  rintro e w1 ⟨rfl, hx⟩
  have HX1 := hid hx
  clear hx
  by_cases hs : l.length ≤ 4
  case neg =>
    have hd : decide ((4 : Int) < (l.length : Int)) = true := by simp; omega
    have hd2 : decide (4 < l.length) = true := by simp; omega
    clear hs
    go_wp2_with fail
    refine (HA.out _).mono ?_
    rintro e w2 ⟨rfl, hx⟩
    have HX2 := hid ((HX0.out.trans HX1.out).trans hx)
    clear hx
    go_wp2_with fail
    go_ret
    exact ⟨rfl, HX2.out⟩
  have hd : decide ((4 : Int) < (l.length : Int)) = false := by simp; omega
  have hd2 : decide (4 < l.length) = false := by simp; omega
  by_cases ht : views.length ≤ 4
  case neg =>
    have hf : decide ((4 : Int) < (views.length : Int)) = true := by simp; omega
    have hf2 : decide (4 < views.length) = true := by simp; omega
    clear hs ht
    go_wp2_with fail
    refine (HA.out _).mono ?_
    rintro e w2 ⟨rfl, hx⟩
    have HX2 := hid ((HX0.out.trans HX1.out).trans hx)
    clear hx
    go_wp2_with fail
    go_ret
    exact ⟨rfl, HX2.out⟩
  have hf : decide ((4 : Int) < (views.length : Int)) = false := by simp; omega
  have hf2 : decide (4 < views.length) = false := by simp; omega
  have HSM := hid (And.intro hs ht)
  obtain ⟨d0, d1⟩ := two_cells (HX1.out.heap_some HB0.out)
  clear hs ht HA
  go_wp2_with fail
  refine (oracles_any ideal seed _).mono ?_
  rintro e w3 ⟨b, F, rfl, hat, hx, hF⟩
  have HX3 := hid (HX1.out.trans hx)
  have HAT := hid hat
  have HFN : Hid (∀ k, F k → w0.heap.size ≤ k) := hid fun k hk => Nat.le_trans HX1.out.size (hF k hk)
  clear hx hat hF d0 d1 hd hd2 hf hf2
  generalize stP ideal seed = st at *
  go_upto_region 4 with fail
  obtain ⟨B, hB⟩ : ∃ B, B = w3.heap.size := ⟨_, rfl⟩
  obtain ⟨w4, hw4⟩ : ∃ w4, w4 = w3.alloc (.cells #[.bool ideal, uv st, .int .i64 0, .slice none 0 0, .slice none 0 0, .slice none 0 0] 95) := ⟨_, rfl⟩
  have hx4 : Ext w3 w4 := by rw [hw4]; exact (Ext.refl w3).alloc _
  have hb4 : w4.heap[B]? = some (.cells #[.bool ideal, uv st, .int .i64 0, .slice none 0 0, .slice none 0 0, .slice none 0 0] 95 (0, 0)) := by rw [hw4, hB]; exact heap_new _ _
  rw [← hw4, ← hB]
  have HX4 := hid (HX3.out.trans hx4)
  have HB4 := hid hb4
  have HAT4 := hid (HAT.out.ext hx4)
  have HBF : Hid (¬ F B) := hid (fun h => by have := HAT.out.foot_lt _ h; omega)
  have HBW : Hid (w0.heap.size ≤ B) := hid (by rw [hB]; exact HX3.out.size)
  clear hw4 hx4 hb4 hB
  have HSD := hid (sealed_any (M0 := Orc.fresh ideal st) (ideal := ideal) (lv := .slice la l.length lc) (l := l) HAT4.out rfl rfl (by show (0 : Nat) ≤ _; omega) rfl (HL.out.ext (HX0.out.trans HX4.out)) (fun k hk hne hf => by
    have h1 := HFN.out k hf
    have h2 : k < w.heap.size := by
      obtain ⟨x, hx⟩ : ∃ x, l[0]? = some x := ⟨_, List.getElem?_eq_getElem (List.length_pos_iff.2 hne)⟩
      obtain ⟨xb, xo, rfl, q0, -⟩ := HL.out.at hx
      cases hk
      exact cell_lt q0
    have := HX0.out.size
    omega) (by have := HSM.out.1; omega))
  obtain ⟨d0, d1, d2, d3, d4, d5⟩ := six_cellsP HB4.out
  go_wp2_with fail
  refine (HSD.out).mono ?_
  rintro e w5 ⟨M, MR, F', sv, oa, oc, O, rfl, hto, hst, hown, hoz, hoF, hOl, hel, hrel, hqs, hdr, hln, hidl, hpl, hsl⟩
  obtain ⟨sa, sc, rfl⟩ := hst.now.len
  have hb5 := hto.kp.heap_some HBF.out HB4.out
  obtain ⟨k0, k1, k2, k3, k4, k5⟩ := six_cellsP hb5
  have kf := frozen_of hb5
  obtain ⟨hb6, hk6⟩ := six_setP (d0 := .bool ideal) (d1 := uv MR.state) (d2 := .int .i64 (MR.draws : Int)) (d3 := .slice none 0 0) (d4 := .slice sa MR.seals.length sc) (d5 := .slice none 0 0) hb5
  have hBlt : B < w4.heap.size := heap_lt HB4.out
  have hBF' : ¬ F' B := hto.far hBlt HBF.out
  have HTO := hid hto
  have HB6 := hid hb6
  have HK6 := hid hk6
  have HST := hid hst
  have HOW := hid hown
  have HOZ := hid (And.intro hoz hoF)
  have HEL := hid hel
  have HREL := hid hrel
  have HQS := hid hqs
  have HFC := hid (And.intro hOl (And.intro hdr (And.intro hln (And.intro hidl (And.intro hpl hsl)))))
  have HBB := hid (And.intro hBlt hBF')
  clear hto hst hown hoz hoF hOl hel hrel hqs hdr hln hidl hpl hsl hb5 hb6 hk6 hBlt hBF' d0 d1 d2 d3 d4 d5 HSD
  go_upto_region 7 with fail
  generalize ((((((w5.setCell ⟨B, 0, none⟩ (.bool ideal)).setCell ⟨B, 1, none⟩ (uv MR.state)).setCell ⟨B, 2, none⟩ (.int .i64 (MR.draws : Int))).setCell ⟨B, 3, none⟩ (.slice none 0 0)).setCell ⟨B, 4, none⟩ (.slice sa MR.seals.length sc)).setCell ⟨B, 5, none⟩ (.slice none 0 0)) = w6 at *
  clear k0 k1 k2 k3 k4 k5 kf
  have HAT6 := hid (HTO.out.at'.kp HK6.out (fun k hk e => by subst e; exact HBB.out.2 hk))
  have hkB : Kp (fun k => F' k ∨ k < w4.heap.size) w5 w6 := HK6.out.mono fun k _ h => .inr (by rw [h]; exact HBB.out.1)
  have HSC := hid (HST.out.grow (G' := fun _ => False) hkB (fun k h => h.elim))
  have HX6 := hid (show Ext w0 w6 from (HX4.out.kp HTO.out.kp HFN.out).kp HK6.out (fun k h => by rw [h]; exact HBW.out))
  have HO6 := hid (ownsRow_kp HOW.out HK6.out (fun k h e => by cases h; have := HOZ.out.1; have := HBB.out.1; omega))
  have HE6 : Hid (∀ x ∈ O, OwnU w6 x.2.2 x.2.1 ∧ x.2.1.length ≤ 3) := hid fun x hx => by
    obtain ⟨h1, h2, h3⟩ := HEL.out x hx
    exact ⟨ownsRow_kp h1 HK6.out (fun k h e => by have := (h3 k h).1; have := HBB.out.1; omega), h2⟩
  clear hkB
  have hcmp := fun w : World => outs_some w oa l.length oc
  have hl4 : l.length ≤ 4 := HSM.out.1
  have hv4 : views.length ≤ 4 := HSM.out.2
  go_wp2_with fail
  go_loopw [51] (fun iv wr => ∃ i : Nat, i ≤ l.length ∧ iv = .int .i64 i ∧ Hid (Ext w6 wr)) (fun iv _ => l.length - (intOf iv).toNat)
  case atStart => exact ⟨0, by omega, rfl, hid (Ext.refl _)⟩
  case round =>
    obtain ⟨i, hi, rfl, HX⟩ := hrel
    by_cases hlt : i < l.length
    · have hltB : decide ((i : Int) < (l.length : Int)) = true := by simp; omega
      obtain ⟨x, hxi⟩ : ∃ x, O[i]? = some x := ⟨_, List.getElem?_eq_getElem (by rw [HFC.out.1]; exact hlt)⟩
      obtain ⟨ob, oo, rfl, q0, q1, q2, q3⟩ := outs_at (ownsRow_ext HO6.out HX.out) hxi
      obtain ⟨hcx, hcl⟩ := HE6.out x (List.mem_of_getElem? hxi)
      obtain ⟨pt, c, cv⟩ := x
      simp only at q0 q1 q2 q3 hcx hcl
      obtain ⟨ca, cc, rfl, -⟩ := ownsRow_rd hcx
      have hil : (i : Int) < (l.length : Int) := by omega
      have hi0 : (0 : Int) ≤ (i : Int) := Int.natCast_nonneg _
      have HCX := hid hcx
      clear hxi hcx
      go_upto_region 12 with fail
      obtain ⟨P, hP⟩ : ∃ P, P = wr.heap.size := ⟨_, rfl⟩
      obtain ⟨w7, hw7⟩ : ∃ w7, w7 = wr.alloc (.cells #[.int .u64 0, uv pt.a, uv pt.b, .slice ca c.length cc] 83) := ⟨_, rfl⟩
      have hx7 : Ext wr w7 := by rw [hw7]; exact (Ext.refl wr).alloc _
      have hb7 : w7.heap[P]? = some (.cells #[.int .u64 0, uv pt.a, uv pt.b, .slice ca c.length cc] 83 (0, 0)) := by rw [hw7, hP]; exact heap_new _ _
      rw [← hw7, ← hP]
      have HX7 := hid (HX.out.trans hx7)
      have HP7 := hid hb7
      clear hw7 hx7 hb7 hP q0 q1 q2 q3
      go_wp2_with fail
      go_loopw [57] (fun jv wq => ∃ j : Nat, j ≤ views.length ∧ jv = .int .i64 j ∧ Hid (Ext w7 wq)) (fun jv _ => views.length - (intOf jv).toNat)
      case atStart => exact ⟨0, by omega, rfl, hid (Ext.refl _)⟩
      case round =>
        obtain ⟨j, hj, rfl, HY⟩ := hrel
        by_cases hjt : j < views.length
        · have hjtB : decide ((j : Int) < (views.length : Int)) = true := by simp; omega
          obtain ⟨view, hvj⟩ : ∃ view, views[j]? = some view := ⟨_, List.getElem?_eq_getElem hjt⟩
          have HXA := hid (HX7.out.trans HY.out)
          obtain ⟨vb, vo, rfl, hvc⟩ := (HV.out.ext (HX6.out.trans HXA.out)).uat hvj
          have hjl : (j : Int) < (views.length : Int) := by omega
          have hj0 : (0 : Int) ≤ (j : Int) := Int.natCast_nonneg _
          obtain ⟨o0, o1, o2, o3⟩ := four_cells (HY.out.heap_some HP7.out)
          obtain ⟨res, hres⟩ : ∃ res, res = openP ideal M.seals view pt c := ⟨_, rfl⟩
          have hcr : Hid (∀ v, Ext w6 v → RdU v (.slice ca c.length cc) c) := hid fun v k => OwnU.rdu (ownsRow_ext HCX.out k)
          have HO1 : Hid (Calls Try.prog 42 #[.pointer (some ⟨b, 0, none⟩), uv view, .agg #[.int .u64 0, uv pt.a, uv pt.b, .slice ca c.length cc]] wr fun e w' => e = .returned (r3 res) ∧ Ext wr w') := hid (by
            have h := envOpen_any (view := view) (commit := 0) (pt := pt) (HAT6.out.ext HXA.out) (hcr.out _ HXA.out) (by omega) (by intro s hs; have := HFC.out.2.2.2.2.1 s hs; omega)
            rw [openP_eq, HFC.out.2.2.2.1, ← hres] at h
            exact h)
          have HO2 : Hid (∀ v, Ext wr v → Calls Try.prog 50 #[.agg #[.bool ideal, uv MR.state, .int .i64 (MR.draws : Int), .slice none 0 0, .slice sa MR.seals.length sc, .slice none 0 0], uv view, .agg #[.int .u64 0, uv pt.a, uv pt.b, .slice ca c.length cc]] v fun e w' => e = .returned (r3 res) ∧ Ext v w') := hid fun v k => by
            have h := rEnvOpen_any (w := v) (ideal := ideal) (st := MR.state) (nn := (MR.draws : Int)) (qv := .slice none 0 0) (sv := .slice sa MR.seals.length sc) (pv := .slice none 0 0) (ss := MR.seals) (view := view) (commit := 0) (pt := pt) ⟨_, _, _, rfl⟩ ⟨_, _, _, rfl⟩ (HSC.out.now.ext (HXA.out.trans k)) (hcr.out _ (HXA.out.trans k)) (by omega) (by have := HFC.out.2.2.1; have := HSM.out.1; omega) (by intro s hs; have := HFC.out.2.2.2.2.2 s hs; omega)
            rw [openP_rel HREL.out, ← hres] at h
            exact h
          clear hres hcr
          obtain ⟨ra, rb, rk⟩ := res
          unfold r3 at HO1 HO2
          simp only at HO1 HO2
          go_wp2_with fail
          refine (HO1.out).mono ?_
          rintro e v5 ⟨rfl, hx⟩
          have HX5 := hid hx
          clear hx o0 o1 o2 o3 HO1
          obtain ⟨o0, o1, o2, o3⟩ := four_cells ((HY.out.trans HX5.out).heap_some HP7.out)
          obtain ⟨d0, d1, d2, d3, d4, d5⟩ := six_cellsP ((HXA.out.trans HX5.out).heap_some HB6.out)
          go_wp2_with fail
          refine (HO2.out _ HX5.out).mono ?_
          rintro e v6 ⟨rfl, hx⟩
          have HX6b := hid (HX5.out.trans hx)
          clear hx o0 o1 o2 o3 d0 d1 d2 d3 d4 d5 HO2 HX5
          obtain ⟨d0, d1, d2, d3, d4, d5⟩ := six_cellsP ((HXA.out.trans HX6b.out).heap_some HB6.out)
          have hask := asked_any (ideal := ideal) (st := MR.state) (qa := none) (qc := 0) (sa := sa) (sn := MR.seals.length) (sc := sc) (pa := none) (pn := 0) (pc := 0) (HAT6.out.ext (HXA.out.trans HX6b.out)) (by rw [HQS.out]; simp) (by rw [HQS.out]; intro q hq; cases hq)
          rw [HQS.out, ← HREL.out.draws] at hask
          have HASK := hid hask
          clear hask
          have ha : ((ra.toNat : Int) == (ra.toNat : Int)) = true := by simp
          have hb : ((rb.toNat : Int) == (rb.toNat : Int)) = true := by simp
          have hk : (rk == rk) = true := by simp
          have ha2 : ((ra.toNat : Int) != (ra.toNat : Int)) = false := by simp
          have hb2 : ((rb.toNat : Int) != (rb.toNat : Int)) = false := by simp
          have hk2 : (rk != rk) = false := by simp
          go_wp2_with fail
          refine (HASK.out).mono ?_
          rintro e v7 ⟨rfl, hx⟩
          have HYN := hid (HY.out.trans (HX6b.out.trans hx))
          clear hx d0 d1 d2 d3 d4 d5 HASK HX6b HXA
          go_wp2_with fail
          go_roundw
          case rel => exact ⟨j + 1, by omega, by go_num, HYN⟩
          case measure => simp [intOf]; omega
        · obtain rfl : j = views.length := by omega
          have hjtB : decide ((views.length : Int) < (views.length : Int)) = false := by simp
          go_wp2_with fail
          have HXN := hid (HX7.out.trans HY.out)
          go_wp2_with fail
          go_roundw
          case rel => exact ⟨i + 1, by omega, by go_num, HXN⟩
          case measure => simp [intOf]; omega
    · obtain rfl : i = l.length := by omega
      have hltB : decide ((l.length : Int) < (l.length : Int)) = false := by simp
      go_wp2_with fail
      go_ret
      exact ⟨rfl, HX0.out.trans (HX6.out.trans HX.out)⟩
end Go.Proofs.Ytdpgfjnpcjpdpaa
