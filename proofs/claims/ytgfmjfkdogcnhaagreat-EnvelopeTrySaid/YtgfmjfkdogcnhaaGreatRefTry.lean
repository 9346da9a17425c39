/- moidoreref35.Try. (Written by wip/tools/gen_reftry.py.) -/
import Derived.Test.YtgfmjfkdogcnhaaGreatTry
import Derived.Test.YtgfmjfkdogcnhaaGreatRefCommitP
import Derived.Test.YtgfmjfkdogcnhaaGreatRefKeys
import Derived.Test.YtgfmjfkdogcnhaaGreatNoteEq
set_option linter.unusedSimpArgs false
namespace Go.Proofs.YtgfmjfkdogcnhaaGreat
open Go.RowKit
attribute [local irreducible] perm fAdd fMul fPow fSub fNeg fRed hashU drawOf nextState cipSeal
set_option maxRecDepth 100000 in
set_option maxHeartbeats 6400000 in
theorem rTry_any {w : World} {ideal : Bool} {st : UInt64} {nn : Int} {qv sv pv : Value} {qs : List Qn} {ss : List Sl} {seed commit rho : UInt64} {number : Int} {pt : E2} {cv : Value} {c : List UInt64} (hp : isSl pv) (hq : RdQc w qv qs) (hs : RdSc w sv ss) (hc : RdU w cv c) (hL : c.length ≤ 100000000) (hS : ss.length ≤ 1000000000) (hE : ∀ s ∈ ss, s.sealed.length ≤ 1000000000) (hEq : ∀ q ∈ qs, q.elems.length ≤ 100000000) (hQ : qs.length ≤ 100000000) :
    Calls Tryz.prog 9 #[plVal ideal st nn qv sv pv, uv seed, .int .i64 number, .agg #[uv commit, uv pt.a, uv pt.b, cv], uv rho] w fun e w' => e = .returned (nb (tryR seed number commit rho (openP ideal ss (kView seed number) pt c) (commitP ideal qs))) ∧ Ext w w' := by
  have HO : Hid (∀ v, Ext w v → Calls Tryz.prog 30 #[plVal ideal st nn qv sv pv, uv (kView seed number), .agg #[uv commit, uv pt.a, uv pt.b, cv]] v fun e w' => e = .returned (r3 (openP ideal ss (kView seed number) pt c)) ∧ Ext v w') := hid fun v k => rEnvOpen_any (by
    obtain ⟨Q, h1, ⟨a, c, h2, -⟩, -⟩ := hq
    exact ⟨_, _, _, h2⟩) hp (hs.ext k) (hc.ext k) hL hS hE
  have HK : Hid (∀ (n : Nt) v, Ext w v → Calls Tryz.prog 34 #[plVal ideal st nn qv sv pv, nv n] v fun e w' => e = .returned (v2 (commitP ideal qs n)) ∧ Ext v w') := hid fun n v k => rCommitment_any n (by
    obtain ⟨a, c, h⟩ := hs.len
    exact ⟨_, _, _, h⟩) hp (hq.ext k) hEq hQ
  obtain ⟨ca, cc, rfl, -⟩ := id hc
  obtain ⟨pa, pn, pc, rfl⟩ := hp
  obtain ⟨sa, sc, rfl⟩ := hs.len
  obtain ⟨qa, qc, rfl⟩ : ∃ a c, qv = .slice a qs.length c := by
    obtain ⟨Q, h1, ⟨a, c, h2, -⟩, -⟩ := hq
    exact ⟨a, c, by rw [h2, ← h1, List.length_map]⟩
  obtain ⟨res, hres⟩ : ∃ res, res = tryR seed number commit rho (openP ideal ss (kView seed number) pt c) (commitP ideal qs) := ⟨_, rfl⟩
  rw [← hres]
  have HV := hid (rkView_any seed number)
  have HSP := hid (rkSpend_any seed)
  have HOW := hid (rkOwner_any (kSpend seed) number)
  have hown : ∃ own, own = kOwner (kSpend seed) number := ⟨_, rfl⟩
  obtain ⟨own, hown⟩ := hown
  rw [← hown] at HOW
  have HRES := hid (And.intro hres hown.symm)
  clear hres hown hc hs hq hL hS hE hEq hQ
  generalize openP ideal ss (kView seed number) pt c = op at *
  generalize commitP ideal qs = ck at *
  generalize kView seed number = view at *
  generalize qs.length = ql at *
  generalize ss.length = sl at *
  generalize c.length = cl at *
  obtain ⟨o1, o2, o3⟩ := op
  unfold r3 at HO
  unfold v2 at HK
  unfold plVal at HO HK ⊢
  simp only at HO HK ⊢
  obtain ⟨N, hN⟩ : ∃ N, N = w.heap.size := ⟨_, rfl⟩
  obtain ⟨w0, hw0⟩ : ∃ w0, w0 = ((w.alloc (.cells #[.bool ideal, uv st, .int .i64 nn, .slice qa ql qc, .slice sa sl sc, .slice pa pn pc] 38)).alloc (.cells #[uv commit, uv pt.a, uv pt.b, .slice ca cl cc] 28)).alloc (.cells #[.int .u64 0, .int .u64 0, .int .u64 0, .int .u64 0] 42) := ⟨_, rfl⟩
  have hx0 : Ext w w0 := by rw [hw0]; exact (((Ext.refl w).alloc _).alloc _).alloc _
  have hbp : w0.heap[N]? = some (.cells #[.bool ideal, uv st, .int .i64 nn, .slice qa ql qc, .slice sa sl sc, .slice pa pn pc] 38 (0, 0)) := by rw [hw0, hN]; exact heap_alloc_some (heap_alloc_some (heap_new _ _))
  have hb0 : w0.heap[N + 1]? = some (.cells #[uv commit, uv pt.a, uv pt.b, .slice ca cl cc] 28 (0, 0)) := by
    rw [hw0, hN]
    refine heap_alloc_some ?_
    have := heap_new (w.alloc (.cells #[.bool ideal, uv st, .int .i64 nn, .slice qa ql qc, .slice sa sl sc, .slice pa pn pc] 38)) (.cells #[uv commit, uv pt.a, uv pt.b, .slice ca cl cc] 28)
    simpa using this
  have hb1 : w0.heap[N + 2]? = some (.cells #[.int .u64 0, .int .u64 0, .int .u64 0, .int .u64 0] 42 (0, 0)) := by
    rw [hw0, hN]
    have := heap_new ((w.alloc (.cells #[.bool ideal, uv st, .int .i64 nn, .slice qa ql qc, .slice sa sl sc, .slice pa pn pc] 38)).alloc (.cells #[uv commit, uv pt.a, uv pt.b, .slice ca cl cc] 28)) (.cells #[.int .u64 0, .int .u64 0, .int .u64 0, .int .u64 0] 42)
    simpa using this
  have H : Hid (∀ v, Ext w0 v → (v.cell? ⟨N, 0, none⟩ = some (.bool ideal) ∧ v.cell? ⟨N, 1, none⟩ = some (uv st) ∧ v.cell? ⟨N, 2, none⟩ = some (.int .i64 nn) ∧ v.cell? ⟨N, 3, none⟩ = some (.slice qa ql qc) ∧ v.cell? ⟨N, 4, none⟩ = some (.slice sa sl sc) ∧ v.cell? ⟨N, 5, none⟩ = some (.slice pa pn pc)) ∧ (v.cell? ⟨N + 1, 0, none⟩ = some (uv commit) ∧ v.cell? ⟨N + 1, 1, none⟩ = some (uv pt.a) ∧ v.cell? ⟨N + 1, 2, none⟩ = some (uv pt.b) ∧ v.cell? ⟨N + 1, 3, none⟩ = some (.slice ca cl cc))) := hid fun v k => ⟨six_cellsP (k.heap_some hbp), four_cells (k.heap_some hb0)⟩
  have HEND : Hid (∀ (v : World) (d0 d1 d2 d3 : Value), Ext w0 v → ((((v.setCell ⟨N + 2, 0, none⟩ d0).setCell ⟨N + 2, 1, none⟩ d1).setCell ⟨N + 2, 2, none⟩ d2).setCell ⟨N + 2, 3, none⟩ d3).heap[N + 2]? = some (.cells #[d0, d1, d2, d3] 42 (0, 0)) ∧
      Ext w ((((v.setCell ⟨N + 2, 0, none⟩ d0).setCell ⟨N + 2, 1, none⟩ d1).setCell ⟨N + 2, 2, none⟩ d2).setCell ⟨N + 2, 3, none⟩ d3)) := hid fun v d0 d1 d2 d3 k => by
    obtain ⟨h1, h2⟩ := four_setN (d0 := d0) (d1 := d1) (d2 := d2) (d3 := d3) (k.heap_some hb1)
    exact ⟨h1, (hx0.trans k).kp h2 fun i hi => by rw [hi, hN]; omega⟩
  have HB1 := hid hb1
  have HW := hid hw0
  have HX0 := hid hx0
  obtain ⟨isn, hisn⟩ : ∃ isn, isn = isNumK number := ⟨_, rfl⟩
  clear hw0 hx0 hbp hb0 hb1
  cases isn with
  | false =>
    have hr : res = (zeroN, false) := by rw [HRES.out.1]; exact tryR_num hisn.symm
    subst hr
    unfold isNumK at hisn
    go_enter Tryz.func9, Tryz.ntmps9
    go_upto_region 1 with fail
    rw [← HW.out, ← hN]
    have HE := hid (HEND.out w0 (.int .u64 0) (.int .u64 0) (.int .u64 0) (.int .u64 0) (Ext.refl _))
    obtain ⟨z0, z1, z2, z3⟩ := four_cells HB1.out
    have zf := frozen_of HB1.out
    clear hN HO HK HV HSP HOW HRES HEND
    have hor : decide (number < 0) = true ∨ (decide (number < 0) = false ∧ decide (4 ≤ number) = true) := by
      by_cases h : number < 0
      · exact .inl (by simp [h])
      · have h' : 0 ≤ number := by omega
        refine .inr ⟨by simp; omega, ?_⟩
        simp [h'] at hisn
        simp [hisn]
    clear hisn
    rcases hor with h0 | ⟨h0, h4⟩
    · go_wp2_with fail
      obtain ⟨hE1, hE2⟩ := HE.out
      obtain ⟨r0, r1, r2, r3⟩ := four_cells hE1
      generalize (((w0.setCell ⟨N + 2, 0, none⟩ (.int .u64 0)).setCell ⟨N + 2, 1, none⟩ (.int .u64 0)).setCell ⟨N + 2, 2, none⟩ (.int .u64 0)).setCell ⟨N + 2, 3, none⟩ (.int .u64 0) = W at *
      exact bodyPost_ret (v := .tuple #[.agg #[.int .u64 0, .int .u64 0, .int .u64 0, .int .u64 0], .bool false]) (by simp [results, Tryz.results9, go_sem, r0, r1, r2, r3]) rfl ⟨rfl, hE2⟩
    · have h4' : decide (number ≥ 4) = true := h4
      go_wp2_with fail
      obtain ⟨hE1, hE2⟩ := HE.out
      obtain ⟨r0, r1, r2, r3⟩ := four_cells hE1
      generalize (((w0.setCell ⟨N + 2, 0, none⟩ (.int .u64 0)).setCell ⟨N + 2, 1, none⟩ (.int .u64 0)).setCell ⟨N + 2, 2, none⟩ (.int .u64 0)).setCell ⟨N + 2, 3, none⟩ (.int .u64 0) = W at *
      exact bodyPost_ret (v := .tuple #[.agg #[.int .u64 0, .int .u64 0, .int .u64 0, .int .u64 0], .bool false]) (by simp [results, Tryz.results9, go_sem, r0, r1, r2, r3]) rfl ⟨rfl, hE2⟩
  | true =>
    have hn0 : 0 ≤ number ∧ number < 4 := by unfold isNumK at hisn; simpa using hisn.symm
    have h0 : decide (number < 0) = false := by simp; omega
    have h4 : decide (4 ≤ number) = false := by simp; omega
    have HI := hid hisn.symm
    clear hisn
    go_enter Tryz.func9, Tryz.ntmps9
    go_upto_region 1 with fail
    rw [← HW.out, ← hN]
    clear hN
    go_upto_region 3 with fail
    clear h0 h4 hn0
    refine wp_region_T (fun v => ((v.cell? ⟨N, 0, none⟩ = some (.bool ideal) ∧ v.cell? ⟨N, 1, none⟩ = some (uv st) ∧ v.cell? ⟨N, 2, none⟩ = some (.int .i64 nn) ∧ v.cell? ⟨N, 3, none⟩ = some (.slice qa ql qc) ∧ v.cell? ⟨N, 4, none⟩ = some (.slice sa sl sc) ∧ v.cell? ⟨N, 5, none⟩ = some (.slice pa pn pc)) ∧ (v.cell? ⟨N + 1, 0, none⟩ = some (uv commit) ∧ v.cell? ⟨N + 1, 1, none⟩ = some (uv pt.a) ∧ v.cell? ⟨N + 1, 2, none⟩ = some (uv pt.b) ∧ v.cell? ⟨N + 1, 3, none⟩ = some (.slice ca cl cc))) ∧ Ext w0 v) 12 [(0, true), (1, true), (2, true), (4, true), (3, false), (5, false), (6, true), (7, true), (8, true), (9, true), (10, true), (11, true), (12, false)] (by kernel_rfl) (by kernel_rfl) (by intro c a d v w h; cases d <;> exact h) ?_
    intro ops hops
    have HS := keep0 H.out
    iterate 4
      refine wpT_take (v := ?_) (by rw [hops, List.getElem?_toArray]; rfl) (by first | rfl | (rw [hops]; rfl)) ?_ HS ?_
      rotate_left
      · intro v h; go_simp; with_reducible rfl
      simp only [Act.put, List.getElem_toArray, List.getElem_cons_zero, List.getElem_cons_succ, List.setIfInBounds_toArray, List.set_cons_zero, List.set_cons_succ]
    refine wpT_step (by rw [hops, List.getElem?_toArray]; rfl) (by first | rfl | (rw [hops]; rfl)) ?_
    intro K hK
    go_wp2_with fail
    refine (HV.out _).mono ?_
    rintro e w1 ⟨rfl, hx⟩
    have HS1 := keepE H.out HS hx
    clear HS hx
    refine hK _ _ ⟨fun _ => HS1, ?_⟩
    clear hK K
    refine wpT_step (by rw [hops, List.getElem?_toArray]; rfl) (by first | rfl | (rw [hops]; rfl)) ?_
    intro K hK
    go_wp2_with fail
    refine (HO.out _ (HX0.out.trans HS1.2)).mono ?_
    rintro e w2 ⟨rfl, hx⟩
    have HS2 := keepE H.out HS1 hx
    have HX2 := hid HS2.2
    clear HS1 hx
    refine hK _ _ ⟨fun _ => HS2, ?_⟩
    clear hK K
    iterate 6
      refine wpT_take (v := ?_) (by rw [hops, List.getElem?_toArray]; rfl) (by first | rfl | (rw [hops]; rfl)) ?_ HS2 ?_
      rotate_left
      · intro v h; go_simp; with_reducible rfl
      simp only [Act.put, List.getElem_toArray, List.getElem_cons_zero, List.getElem_cons_succ, List.setIfInBounds_toArray, List.set_cons_zero, List.set_cons_succ]
    clear HS2
    refine wpT_step (by rw [hops, List.getElem?_toArray]; rfl) (by first | rfl | (rw [hops]; rfl)) ?_
    intro K hK
    go_wp2_with fail
    try (with_reducible refine ⟨fun h => absurd h (by decide), ?_⟩)
    try rw [wpT_nil]
    try clear hops ops
    go_wp2_with fail
    refine (HSP.out _).mono ?_
    rintro e w3 ⟨rfl, hx⟩
    have HX3 := hid (HX2.out.trans hx)
    clear hx
    go_wp2_with fail
    refine (HOW.out _).mono ?_
    rintro e w4 ⟨rfl, hx⟩
    have HX4 := hid (HX3.out.trans hx)
    clear hx
    obtain ⟨P, hP⟩ : ∃ P, P = w4.heap.size := ⟨_, rfl⟩
    have hb5 := heap_new w4 (.cells #[uv o1, uv own, uv rho, uv o2] 42)
    rw [← hP] at hb5
    have HX5 := hid (HX4.out.alloc (.cells #[uv o1, uv own, uv rho, uv o2] 42))
    obtain ⟨w5, hw5⟩ : ∃ w5, w5 = w4.alloc (.cells #[uv o1, uv own, uv rho, uv o2] 42) := ⟨_, rfl⟩
    rw [← hw5] at hb5 HX5
    have HW5 := hid hw5
    clear hw5
    cases o3 with
    | false =>
      have hr : res = (zeroN, false) := by rw [HRES.out.1]; exact tryR_shut
      subst hr
      go_upto_region 5 with fail
      rw [← HW5.out]
      obtain ⟨z0, z1, z2, z3⟩ := four_cells (HX5.out.heap_some HB1.out)
      have zf := frozen_of (HX5.out.heap_some HB1.out)
      have HE := hid (HEND.out w5 (.int .u64 0) (.int .u64 0) (.int .u64 0) (.int .u64 0) HX5.out)
      clear HO HK HV HSP HOW HRES HEND
      go_wp2_with fail
      obtain ⟨hE1, hE2⟩ := HE.out
      obtain ⟨r0, r1, r2, r3⟩ := four_cells hE1
      generalize (((w5.setCell ⟨N + 2, 0, none⟩ (.int .u64 0)).setCell ⟨N + 2, 1, none⟩ (.int .u64 0)).setCell ⟨N + 2, 2, none⟩ (.int .u64 0)).setCell ⟨N + 2, 3, none⟩ (.int .u64 0) = W at *
      exact bodyPost_ret (v := .tuple #[.agg #[.int .u64 0, .int .u64 0, .int .u64 0, .int .u64 0], .bool false]) (by simp [results, Tryz.results9, go_sem, r0, r1, r2, r3]) rfl ⟨rfl, hE2⟩
    | true =>
      obtain ⟨cc1, cc2⟩ : ∃ x, x = ck ⟨o1, own, rho, o2⟩ := ⟨_, rfl⟩
      obtain ⟨k1, k2⟩ := cc1
      have hr := HRES.out.1
      rw [tryR_open HI.out HRES.out.2 cc2.symm] at hr
      have HK1 : Hid (∀ v, Ext w v → Calls Tryz.prog 34 #[.agg #[.bool ideal, uv st, .int .i64 nn, .slice qa ql qc, .slice sa sl sc, .slice pa pn pc], .agg #[uv o1, uv own, uv rho, uv o2]] v fun e w' => e = .returned (.tuple #[uv k1, .bool k2]) ∧ Ext v w') := hid fun v k => by
        have := HK.out ⟨o1, own, rho, o2⟩ v k
        rw [← cc2] at this
        exact this
      have HR := hid hr
      clear HO HK HV HRES hr cc2 HSP HOW
      go_upto_region 5 with fail
      rw [← HW5.out, ← hP]
      clear hP
      have HB5 := hid hb5
      obtain ⟨p0, p1, p2, p3⟩ := four_cells hb5
      obtain ⟨⟨d0, d1, d2, d3, d4, d5⟩, -⟩ := H.out w5 HX5.out
      clear hb5
      go_wp2_with fail
      refine (HK1.out _ (HX0.out.trans HX5.out)).mono ?_
      rintro e w6 ⟨rfl, hx⟩
      have HX6 := hid (HX5.out.trans hx)
      clear p0 p1 p2 p3 d0 d1 d2 d3 d4 d5
      obtain ⟨p0, p1, p2, p3⟩ := four_cells (hx.heap_some HB5.out)
      obtain ⟨-, c0, c1, c2, c3⟩ := H.out w6 HX6.out
      obtain ⟨z0, z1, z2, z3⟩ := four_cells (HX6.out.heap_some HB1.out)
      have zf := frozen_of (HX6.out.heap_some HB1.out)
      clear hx HK1
      cases k2 with
      | false =>
        have hr : res = (zeroN, false) := by rw [HR.out, Bool.false_and, if_neg (by simp)]
        subst hr
        have HE := hid (HEND.out w6 (.int .u64 0) (.int .u64 0) (.int .u64 0) (.int .u64 0) HX6.out)
        clear HEND HR
        go_wp2_with fail
        obtain ⟨hE1, hE2⟩ := HE.out
        obtain ⟨r0, r1, r2, r3⟩ := four_cells hE1
        generalize (((w6.setCell ⟨N + 2, 0, none⟩ (.int .u64 0)).setCell ⟨N + 2, 1, none⟩ (.int .u64 0)).setCell ⟨N + 2, 2, none⟩ (.int .u64 0)).setCell ⟨N + 2, 3, none⟩ (.int .u64 0) = W at *
        exact bodyPost_ret (v := .tuple #[.agg #[.int .u64 0, .int .u64 0, .int .u64 0, .int .u64 0], .bool false]) (by simp [results, Tryz.results9, go_sem, r0, r1, r2, r3]) rfl ⟨rfl, hE2⟩
      | true =>
        by_cases hk : k1 = commit
        case neg =>
          have hr : res = (zeroN, false) := by rw [HR.out, Bool.true_and, if_neg (by simpa using hk)]
          have hne : ((k1.toNat : Int) != (commit.toNat : Int)) = true := by
            have : k1.toNat ≠ commit.toNat := fun h => hk (UInt64.toNat_inj.1 h)
            simp; omega
          subst hr
          have HE := hid (HEND.out w6 (.int .u64 0) (.int .u64 0) (.int .u64 0) (.int .u64 0) HX6.out)
          clear HEND HR hk
          go_wp2_with fail
          obtain ⟨hE1, hE2⟩ := HE.out
          obtain ⟨r0, r1, r2, r3⟩ := four_cells hE1
          generalize (((w6.setCell ⟨N + 2, 0, none⟩ (.int .u64 0)).setCell ⟨N + 2, 1, none⟩ (.int .u64 0)).setCell ⟨N + 2, 2, none⟩ (.int .u64 0)).setCell ⟨N + 2, 3, none⟩ (.int .u64 0) = W at *
          exact bodyPost_ret (v := .tuple #[.agg #[.int .u64 0, .int .u64 0, .int .u64 0, .int .u64 0], .bool false]) (by simp [results, Tryz.results9, go_sem, r0, r1, r2, r3]) rfl ⟨rfl, hE2⟩
        subst hk
        have hr : res = (⟨o1, own, rho, o2⟩, true) := by rw [HR.out, Bool.true_and, if_pos (by simp)]
        have hne : ((k1.toNat : Int) != (k1.toNat : Int)) = false := by simp
        subst hr
        have HE := hid (HEND.out w6 (uv o1) (uv own) (uv rho) (uv o2) HX6.out)
        clear HEND HR
        go_wp2_with fail
        obtain ⟨hE1, hE2⟩ := HE.out
        obtain ⟨r0, r1, r2, r3⟩ := four_cells hE1
        generalize (((w6.setCell ⟨N + 2, 0, none⟩ (uv o1)).setCell ⟨N + 2, 1, none⟩ (uv own)).setCell ⟨N + 2, 2, none⟩ (uv rho)).setCell ⟨N + 2, 3, none⟩ (uv o2) = W at *
        exact bodyPost_ret (v := .tuple #[.agg #[uv o1, uv own, uv rho, uv o2], .bool true]) (by simp [results, Tryz.results9, go_sem, r0, r1, r2, r3]) rfl ⟨rfl, hE2⟩
theorem noteEqIn (a b : Nt) (w : World) : (Op.equalIn 10000 42 (nv a) (nv b)).run Tryz.prog w = .ok (a.same b) w := by
  unfold nv
  rw [show (10000 : Nat) = 9999 + 1 from rfl, run_equalIn_struct w 9999 42 _ _ Tryz.note_struct Tryz.note_held]
  have hf := Tryz.note_fields
  generalize (Tryz.prog.fieldsOf 42).toList = fs at hf
  obtain ⟨f0, f1, f2, f3, rfl⟩ : ∃ f0 f1 f2 f3, fs = [f0, f1, f2, f3] := by
    have hl : fs.length = 4 := by have := congrArg List.length hf; rwa [List.length_map] at this
    match fs, hl with
    | [a, b, c, d], _ => exact ⟨a, b, c, d, rfl⟩
  simp only [List.map_cons, List.map_nil, List.cons.injEq, Prod.mk.injEq, and_true, decide_eq_true_eq] at hf
  obtain ⟨⟨n0, t0, o0⟩, ⟨n1, t1, o1⟩, ⟨n2, t2, o2⟩, n3, t3, o3⟩ := hf
  have hu : Tryz.prog.underlying 22 = some (.int .u64) := Tryz.underlying22
  simp [Op.eqFields, n0, n1, n2, n3, t0, t1, t2, t3, o0, o1, o2, o3, go_sem, hu, u_beq, Nt.same]
  by_cases h0 : a.value = b.value <;> by_cases h1 : a.owner = b.owner <;> by_cases h2 : a.rho = b.rho <;> by_cases h3 : a.blind = b.blind <;> simp [h0, h1, h2, h3]
theorem Nt.same_refl (a : Nt) : a.same a = true := Nt.same_iff.2 rfl
theorem Nt.ok_all {n : Nt} (h : n.ok = true) : allE n.list = true := by
  unfold Nt.ok at h
  simp only [Bool.and_eq_true, decide_eq_true_eq] at h
  obtain ⟨⟨⟨h1, h2⟩, h3⟩, h4⟩ := h
  unfold allE Nt.list
  simp [big, UInt64.lt_iff_toNat_lt]
  refine ⟨?_, ?_, ?_, ?_⟩ <;> omega
theorem commitK_eq {M : Orc} {ideal : Bool} {qs : List Qn} (hi : M.ideal = ideal) (hq : ideal = true → M.qs = qs) (hr : ideal = false → ∀ q ∈ M.qs, q.answer = hashU q.label q.elems) : commitK M = commitP ideal qs := by
  funext n
  unfold commitK commitP
  cases hok : n.ok with
  | false => simp only [Bool.false_eq_true, if_false]
  | true =>
    simp only [if_true]
    unfold Orc.peek
    rw [Nt.ok_all hok, if_pos rfl, hi]
    cases ideal with
    | true =>
      simp only [if_true]
      rw [hq rfl]
      unfold peekI
      generalize findQ qs 2 n.list = o
      cases o <;> simp only
    | false =>
      simp only [Bool.false_eq_true, if_false]
      cases hf : findQ M.qs 2 n.list with
      | none => simp only
      | some i =>
        simp only
        unfold findQ at hf
        rw [List.findIdx?_eq_some_iff_getElem] at hf
        obtain ⟨hl, h1, -⟩ := hf
        simp only [Bool.and_eq_true, beq_iff_eq] at h1
        unfold answerAt
        rw [List.getElem?_eq_getElem hl]
        simp only [Option.map_some, Option.getD_some]
        rw [hr rfl _ (List.getElem_mem hl), h1.1, h1.2]
end Go.Proofs.YtgfmjfkdogcnhaaGreat
