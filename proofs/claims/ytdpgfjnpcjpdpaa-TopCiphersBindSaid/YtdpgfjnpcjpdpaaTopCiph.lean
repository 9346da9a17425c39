/- TopCiphersBind returns true: the walk. -/
import Derived.Test.YtdpgfjnpcjpdpaaAwk13
import Derived.Test.YtdpgfjnpcjpdpaaCiph13
set_option linter.unusedSimpArgs false
namespace Go.Proofs.Ytdpgfjnpcjpdpaa
open Go.RowKit
attribute [local irreducible] perm fAdd fMul fPow fSub fNeg fRed hashU drawOf nextState awT aw13 awi cipSeal cipOpen
set_option maxRecDepth 100000 in
set_option maxHeartbeats 12800000 in
theorem TopCiphersBind_any {w : World} {key : UInt64} {av bv : Value} {a b : List UInt64} (ha : RdU w av a) (hb : RdU w bv b) :
    Calls Try.prog 8 #[uv key, av, bv] w fun e w' => e = .returned (.bool true) ∧ Ext w w' := by
  obtain ⟨aa, ac, rfl, -⟩ := id ha
  obtain ⟨ba, bc, rfl, -⟩ := id hb
  have HAA := hid ha
  have HBB := hid hb
  have HA := hid awake13_any
  clear ha hb
  go_enter Try.func8, Try.ntmps8
  go_wp2_with fail
  refine (HA.out _).mono ?_
  rintro e w1 ⟨rfl, hx1⟩
  have HX1 := hid hx1
  clear hx1
  by_cases h1 : 20 < a.length
  · have d1 : decide ((20 : Int) < (a.length : Int)) = true := decide_eq_true (by omega)
    have d1' : decide (20 < a.length) = true := decide_eq_true h1
    clear h1
    go_wp2_with fail
    refine (HA.out _).mono ?_
    rintro e wz ⟨rfl, hxz⟩
    have HXZ := hid (HX1.out.trans hxz)
    clear hxz
    go_wp2_with fail
    go_ret
    exact ⟨rfl, HXZ.out⟩
  have d1 : decide ((20 : Int) < (a.length : Int)) = false := decide_eq_false (by omega)
  have d1' : decide (20 < a.length) = false := decide_eq_false h1
  have H20 := hid h1
  clear h1
  by_cases h2 : a.length = b.length
  case neg =>
    have d2 : ((a.length : Int) != (b.length : Int)) = true := by simp; omega
    clear h2
    go_wp2_with fail
    refine (HA.out _).mono ?_
    rintro e wz ⟨rfl, hxz⟩
    have HXZ := hid (HX1.out.trans hxz)
    clear hxz
    go_wp2_with fail
    go_ret
    exact ⟨rfl, HXZ.out⟩
  have d2 : ((a.length : Int) != (b.length : Int)) = false := by simp; omega
  have HLN := hid h2
  clear h2
  have hkd := ge_big_dec key
  cases hk : decide (key < big) with
  | false =>
    have d3 : decide ((18446744069414584321 : Int) ≤ (key.toNat : Int)) = true := by rw [hkd, hk]; rfl
    clear hk hkd
    go_wp2_with fail
    refine (HA.out _).mono ?_
    rintro e wz ⟨rfl, hxz⟩
    have HXZ := hid (HX1.out.trans hxz)
    clear hxz
    go_wp2_with fail
    go_ret
    exact ⟨rfl, HXZ.out⟩
  | true =>
    have d3 : decide ((18446744069414584321 : Int) ≤ (key.toNat : Int)) = false := by rw [hkd, hk]; rfl
    have HK := hid hk
    clear hk hkd
    go_wp2_with fail
    refine (rReduced_any _ a _ (HAA.out.ext HX1.out).weak (by have := H20.out; omega)).mono ?_
    rintro e w2 ⟨rfl, hx2⟩
    have HX2 := hid (HX1.out.trans hx2)
    clear hx2
    cases hea : allE a with
    | false =>
      clear hea
      go_wp2_with fail
      refine (HA.out _).mono ?_
      rintro e wz ⟨rfl, hxz⟩
      have HXZ := hid (HX2.out.trans hxz)
      clear hxz
      go_wp2_with fail
      go_ret
      exact ⟨rfl, HXZ.out⟩
    | true =>
      have HEA := hid hea
      clear hea
      go_wp2_with fail
      refine (rReduced_any _ b _ (HBB.out.ext HX2.out).weak (by have := H20.out; have := HLN.out; omega)).mono ?_
      rintro e w3 ⟨rfl, hx3⟩
      have HX3 := hid (HX2.out.trans hx3)
      clear hx3
      cases heb : allE b with
      | false =>
        clear heb
        go_wp2_with fail
        refine (HA.out _).mono ?_
        rintro e wz ⟨rfl, hxz⟩
        have HXZ := hid (HX3.out.trans hxz)
        clear hxz
        go_wp2_with fail
        go_ret
        exact ⟨rfl, HXZ.out⟩
      | true =>
        have h0big : decide ((0 : UInt64) < big) = true := by decide
        have HCA : Hid (cipE key 0 a = true) := hid (by unfold cipE; rw [HK.out, h0big, HEA.out]; rfl)
        have HCB : Hid (cipE key 0 b = true) := hid (by unfold cipE; rw [HK.out, h0big, heb]; rfl)
        clear heb h0big d1 d1' d2 d3
        go_wp2_with fail
        refine (Real_any _).mono ?_
        rintro e w4 ⟨o, F4, rfl, hat4, hx4, hF4⟩
        have HX4 := hid (HX3.out.trans hx4)
        have HAT4 := hid hat4
        have HF4 : Hid (∀ k, F4 k → w.heap.size ≤ k) := hid fun k hk => Nat.le_trans HX3.out.size (hF4 k hk)
        clear hat4 hx4 hF4
        go_wp2_with fail
        refine (tNew_any 1 _).mono ?_
        rintro e w5 ⟨rfl, hx5⟩
        have HX5 := hid (HX4.out.trans hx5)
        have HSE := hid (Seal_real (key := key) (nonce := 0) (HAT4.out.ext hx5) rfl (HAA.out.ext HX5.out) (by have := H20.out; omega))
        have HT5 := hid (OrcTo.of_ext HAT4.out hx5)
        clear hx5
        go_wp2_with fail
        refine HSE.out.mono ?_
        rintro e w6 ⟨v6, F6, rfl, ho6, ht6, hn6⟩
        rw [HCA.out] at ho6
        have ho6' : OwnU w6 v6 (cipSeal key 0 a) := ho6
        have ht6' : OrcTo w5 o F4 (Orc.fresh false 0) w6 F6 := ht6
        obtain ⟨v6a, v6c, rfl, -⟩ := ownsRow_rd ho6'
        have HT6 := hid (HT5.out.trans ht6')
        have HAB := hid (tAbsorb_any (st := 1) (cnt := 0) (tag := 1) ht6'.at' (OwnU.rdu ho6').weak (by rw [(cipSeal_facts HCA.out).2]; have := H20.out; omega) (by simp [Orc.fresh]) (by simp [Orc.fresh]))
        clear ho6 ho6' ht6 ht6' hn6 HSE
        go_wp2_with fail
        refine HAB.out.mono ?_
        rintro e w7 ⟨rfl, F7, ht7⟩
        obtain ⟨h1, e1⟩ : ∃ h1, h1 = (Orc.fresh false 0).hash 18 (1 :: 1 :: cipSeal key 0 a) := ⟨_, rfl⟩
        rw [← e1] at ht7 ⊢
        have HT7 := hid (HT6.out.trans ht7)
        have HE1 := hid e1
        have q1 := hash_qs_le (Orc.fresh false 0) 18 (1 :: 1 :: cipSeal key 0 a)
        have r1 := hash_draws_le (Orc.fresh false 0) 18 (1 :: 1 :: cipSeal key 0 a)
        have i1 := hash_ideal (Orc.fresh false 0) 18 (1 :: 1 :: cipSeal key 0 a)
        rw [← e1] at q1 r1 i1
        have HQ1 : Hid (h1.2.qs.length ≤ 1 ∧ h1.2.draws ≤ 1 ∧ h1.2.ideal = false) := hid ⟨q1, r1, i1⟩
        clear q1 r1 i1 e1 ht7 HAB
        go_wp2_with fail
        obtain ⟨g, hg⟩ : ∃ g, g = w7.heap.size := ⟨_, rfl⟩
        obtain ⟨w8, hw8⟩ : ∃ w8, w8 = w7.alloc (.cells #[.int .u64 (h1.1.toNat : Int), .int .u64 0] 44) := ⟨_, rfl⟩
        have hg8 : w8.heap[g]? = some (.cells #[.int .u64 (h1.1.toNat : Int), .int .u64 0] 44 (0, 0)) := by rw [hw8, hg]; exact heap_new _ _
        have hx8 : Ext w7 w8 := by rw [hw8]; exact (Ext.refl _).alloc _
        have hgF : ¬ F7 g := fun hf => by have := HT7.out.at'.foot_lt _ hf; omega
        have HS8 : Hid (Stays F7 w8 fun v => v.cell? ⟨g, 0, none⟩ = some (uv h1.1) ∧ v.cell? ⟨g, 1, none⟩ = some (.int .u64 0)) := hid fun v k => ⟨cell_of (k.heap_some hgF hg8) 0, cell_of (k.heap_some hgF hg8) 1⟩
        have HT8 := hid (HT7.out.ext hx8)
        rw [← hw8]
        try rw [← hg]
        clear hg hw8 hg8 hx8 hgF
        refine (tNew_any 1 _).mono ?_
        rintro e w9 ⟨rfl, hx9⟩
        have HT9 := hid (HT8.out.ext hx9)
        have HX9 := hid (HX4.out.kp HT9.out.kp HF4.out)
        have HSE := hid (Seal_real (key := key) (nonce := 0) HT9.out.at' HQ1.out.2.2 (HBB.out.ext HX9.out) (by have := H20.out; have := HLN.out; omega))
        have HS9 : Hid (Stays F7 w9 fun v => v.cell? ⟨g, 0, none⟩ = some (uv h1.1) ∧ v.cell? ⟨g, 1, none⟩ = some (.int .u64 0)) := hid fun v k => HS8.out v ((Kp.of_ext hx9).trans k)
        clear hx9
        go_wp2_with fail
        refine HSE.out.mono ?_
        rintro e w10 ⟨v10, F10, rfl, ho10, ht10, hn10⟩
        rw [HCB.out] at ho10
        have ho10' : OwnU w10 v10 (cipSeal key 0 b) := ho10
        have ht10' : OrcTo w9 o F7 h1.2 w10 F10 := ht10
        obtain ⟨v10a, v10c, rfl, -⟩ := ownsRow_rd ho10'
        have HT10 := hid (HT9.out.trans ht10')
        have HS10 := hid (Stays.to HS9.out ht10')
        have HAB := hid (tAbsorb_any (st := 1) (cnt := 0) (tag := 1) ht10'.at' (OwnU.rdu ho10').weak (by rw [(cipSeal_facts HCB.out).2]; have := H20.out; have := HLN.out; omega) (by have := HQ1.out; omega) (by have := HQ1.out; omega))
        clear ho10 ho10' ht10 ht10' hn10 HSE
        go_wp2_with fail
        refine HAB.out.mono ?_
        rintro e w11 ⟨rfl, F11, ht11⟩
        obtain ⟨h2, e2⟩ : ∃ h2, h2 = h1.2.hash 18 (1 :: 1 :: cipSeal key 0 b) := ⟨_, rfl⟩
        rw [← e2] at ht11 ⊢
        have HT11 := hid (HT10.out.trans ht11)
        have HS11 := hid (Stays.to HS10.out ht11)
        have HE2 := hid e2
        have HC := hid (ciph13 HCA.out HCB.out (by have := H20.out; omega) (by have := H20.out; have := HLN.out; omega) HE1.out e2)
        clear ht11 e2 HAB
        go_wp2_with fail
        obtain ⟨g', hg'⟩ : ∃ g', g' = w11.heap.size := ⟨_, rfl⟩
        obtain ⟨w12, hw12⟩ : ∃ w12, w12 = w11.alloc (.cells #[.int .u64 (h2.1.toNat : Int), .int .u64 0] 44) := ⟨_, rfl⟩
        have hg12 : w12.heap[g']? = some (.cells #[.int .u64 (h2.1.toNat : Int), .int .u64 0] 44 (0, 0)) := by rw [hw12, hg']; exact heap_new _ _
        have hx12 : Ext w11 w12 := by rw [hw12]; exact (Ext.refl _).alloc _
        have HT12 := hid (HT11.out.ext hx12)
        have hc12 := HS11.out w12 (Kp.of_ext hx12)
        have HX12 := hid (HX4.out.kp HT12.out.kp HF4.out)
        have HCOL := hid (Collision_any HT12.out.at' (by have := HC.out.few2; omega) (fun q hq => by have := HC.out.sml q hq; omega))
        have HC12 := hid (And.intro hc12 (And.intro (cell_of hg12 0 : w12.cell? ⟨g', 0, none⟩ = some (uv h2.1)) (cell_of hg12 1 : w12.cell? ⟨g', 1, none⟩ = some (.int .u64 0))))
        rw [← hw12]
        try rw [← hg']
        clear hg' hw12 hg12 hx12 hc12
        refine HCOL.out.mono ?_
        rintro e w13 hcol
        have hfin : ∃ (u1 u2 : UInt64 × Option Addr × Nat × Nat × UInt64) (cl : Bool), e = .returned (.tuple #[.agg #[uv u1.1, .slice u1.2.1 u1.2.2.1 u1.2.2.2.1, uv u1.2.2.2.2], .agg #[uv u2.1, .slice u2.2.1 u2.2.2.1 u2.2.2.2.1, uv u2.2.2.2.2], .bool cl]) ∧ Ext w12 w13 ∧ (h1.1 = h2.1 → a ≠ b → cl = true) := by
          rcases hcol with ⟨i, j, p, q, va', vb', -, -, -, -, -, rfl, hrp, hrq, hx⟩ | ⟨hno, rfl, hx⟩
          · obtain ⟨pa, pc, rfl, -⟩ := hrp
            obtain ⟨qa', qc', rfl, -⟩ := hrq
            exact ⟨(p.label, pa, p.elems.length, pc, p.answer), (q.label, qa', q.elems.length, qc', q.answer), true, rfl, hx, fun _ _ => rfl⟩
          · exact ⟨(0, none, 0, 0, 0), (0, none, 0, 0, 0), false, rfl, hx, fun h hn => absurd (HC.out.inj hno h) hn⟩
        obtain ⟨⟨x1, x2, x3, x4, x5⟩, ⟨y1, y2, y3, y4, y5⟩, cl, rfl, hx13, hcl⟩ := hfin
        have HX13 := hid (HX12.out.trans hx13)
        have hce : ∀ v, Ext w13 v → (v.cell? ⟨g, 0, none⟩ = some (uv h1.1) ∧ v.cell? ⟨g, 1, none⟩ = some (.int .u64 0)) ∧ v.cell? ⟨g', 0, none⟩ = some (uv h2.1) ∧ v.cell? ⟨g', 1, none⟩ = some (.int .u64 0) := fun v k =>
          ⟨⟨(hx13.trans k).cell_some HC12.out.1.1, (hx13.trans k).cell_some HC12.out.1.2⟩, (hx13.trans k).cell_some HC12.out.2.1, (hx13.trans k).cell_some HC12.out.2.2⟩
        have HCE := hid hce
        have HCL := hid hcl
        have HSAME := hid HC.out.same
        clear hcol hx13 hcl hce HCOL HC
        obtain ⟨h1a, h1b⟩ := h1
        obtain ⟨h2a, h2b⟩ := h2
        simp only at HCE HCL HSAME
        go_wp2_with fail
        by_cases hh : h1a = h2a
        case' pos =>
          subst hh
          cases hab : a == b
          case' true =>
            have HAB2 := hid hab
            clear hab
            refine wp_region_T (fun v => ((v.cell? ⟨g, 0, none⟩ = some (uv h1a) ∧ v.cell? ⟨g, 1, none⟩ = some (.int .u64 0)) ∧ v.cell? ⟨g', 0, none⟩ = some (uv h1a) ∧ v.cell? ⟨g', 1, none⟩ = some (.int .u64 0)) ∧ Ext w13 v) 6 [(0, true), (1, true), (2, true), (3, true), (4, true), (5, false), (6, false), (7, false), (8, false), (9, false), (10, false)] (by kernel_rfl) (by kernel_rfl) (by intro c a d v w h; cases d <;> exact h) ?_
            intro ops hops
            have hxd := (((Ext.refl w13).alloc (.cells #[uv x1, .slice x2 x3 x4, uv x5] 49)).alloc (.cells #[uv y1, .slice y2 y3 y4, uv y5] 49)).drew
            have HR := And.intro (HCE.out _ hxd) hxd
            iterate 5
              refine wpT_take (v := ?_) (by rw [hops, List.getElem?_toArray]; rfl) (by first | rfl | (rw [hops]; rfl)) ?_ HR ?_
              rotate_left
              · intro v h; go_simp; with_reducible rfl
              simp only [Act.put, List.getElem_toArray, List.getElem_cons_zero, List.getElem_cons_succ, List.setIfInBounds_toArray, List.set_cons_zero, List.set_cons_succ]
            have hxr := HR.2
            clear HR hxd
            refine wpT_step (by rw [hops, List.getElem?_toArray]; rfl) (by first | rfl | (rw [hops]; rfl)) ?_
            intro K hK
            go_wp2_with fail
            refine (Same01_any _ _ a b _ (HAA.out.ext (HX13.out.trans hxr)) (HBB.out.ext (HX13.out.trans hxr)) (by have := H20.out; omega) (by have := H20.out; have := HLN.out; omega)).mono ?_
            rintro e w14 ⟨rfl, hx14⟩
            have hxx := hxr.trans hx14
            have HX14 := hid (HX13.out.trans hxx)
            rw [HAB2.out]
            refine hK _ _ ⟨fun _ => And.intro (HCE.out _ hxx) hxx, ?_⟩
            clear hK K
            clear hx14 hxr hxx HSAME HCL HCE
            refine wpT_step (by rw [hops, List.getElem?_toArray]; rfl) (by first | rfl | (rw [hops]; rfl)) ?_
            intro K hK
            go_wp2_with fail
            try (with_reducible refine ⟨fun h => absurd h (by decide), ?_⟩)
            try rw [← hops]
            refine wpT_step (by rw [hops, List.getElem?_toArray]; rfl) (by first | rfl | (rw [hops]; rfl)) ?_
            intro K hK
            go_wp2_with fail
            try (with_reducible refine ⟨fun h => absurd h (by decide), ?_⟩)
            try rw [← hops]
            refine wpT_none (by rw [hops, List.getElem?_toArray]; rfl) (by first | rfl | (rw [hops]; rfl)) ⟨fun h => absurd h (by decide), ?_⟩
            simp only [Act.put, List.getElem_toArray, List.getElem_cons_zero, List.getElem_cons_succ, List.setIfInBounds_toArray, List.set_cons_zero, List.set_cons_succ]
            refine wpT_none (by rw [hops, List.getElem?_toArray]; rfl) (by first | rfl | (rw [hops]; rfl)) ⟨fun h => absurd h (by decide), ?_⟩
            simp only [Act.put, List.getElem_toArray, List.getElem_cons_zero, List.getElem_cons_succ, List.setIfInBounds_toArray, List.set_cons_zero, List.set_cons_succ]
            refine wpT_step (by rw [hops, List.getElem?_toArray]; rfl) (by first | rfl | (rw [hops]; rfl)) ?_
            intro K hK
            go_wp2_with fail
            try (with_reducible refine ⟨fun h => absurd h (by decide), ?_⟩)
            try rw [← hops]
            rw [wpT_nil]
            clear hops ops
            go_wp2_with fail
          case' false =>
            have HAB2 := hid hab
            have hcl2 := HCL.out rfl (by simpa using hab)
            subst hcl2
            clear hab
            refine wp_region_T (fun v => ((v.cell? ⟨g, 0, none⟩ = some (uv h1a) ∧ v.cell? ⟨g, 1, none⟩ = some (.int .u64 0)) ∧ v.cell? ⟨g', 0, none⟩ = some (uv h1a) ∧ v.cell? ⟨g', 1, none⟩ = some (.int .u64 0)) ∧ Ext w13 v) 6 [(0, true), (1, true), (2, true), (3, true), (4, true), (5, false), (6, false), (7, false), (8, false), (9, false), (10, false)] (by kernel_rfl) (by kernel_rfl) (by intro c a d v w h; cases d <;> exact h) ?_
            intro ops hops
            have hxd := (((Ext.refl w13).alloc (.cells #[uv x1, .slice x2 x3 x4, uv x5] 49)).alloc (.cells #[uv y1, .slice y2 y3 y4, uv y5] 49)).drew
            have HR := And.intro (HCE.out _ hxd) hxd
            iterate 5
              refine wpT_take (v := ?_) (by rw [hops, List.getElem?_toArray]; rfl) (by first | rfl | (rw [hops]; rfl)) ?_ HR ?_
              rotate_left
              · intro v h; go_simp; with_reducible rfl
              simp only [Act.put, List.getElem_toArray, List.getElem_cons_zero, List.getElem_cons_succ, List.setIfInBounds_toArray, List.set_cons_zero, List.set_cons_succ]
            have hxr := HR.2
            clear HR hxd
            refine wpT_step (by rw [hops, List.getElem?_toArray]; rfl) (by first | rfl | (rw [hops]; rfl)) ?_
            intro K hK
            go_wp2_with fail
            refine (Same01_any _ _ a b _ (HAA.out.ext (HX13.out.trans hxr)) (HBB.out.ext (HX13.out.trans hxr)) (by have := H20.out; omega) (by have := H20.out; have := HLN.out; omega)).mono ?_
            rintro e w14 ⟨rfl, hx14⟩
            have hxx := hxr.trans hx14
            have HX14 := hid (HX13.out.trans hxx)
            rw [HAB2.out]
            refine hK _ _ ⟨fun _ => And.intro (HCE.out _ hxx) hxx, ?_⟩
            clear hK K
            clear hx14 hxr hxx HSAME HCL HCE
            refine wpT_step (by rw [hops, List.getElem?_toArray]; rfl) (by first | rfl | (rw [hops]; rfl)) ?_
            intro K hK
            go_wp2_with fail
            try (with_reducible refine ⟨fun h => absurd h (by decide), ?_⟩)
            try rw [← hops]
            refine wpT_step (by rw [hops, List.getElem?_toArray]; rfl) (by first | rfl | (rw [hops]; rfl)) ?_
            intro K hK
            go_wp2_with fail
            try (with_reducible refine ⟨fun h => absurd h (by decide), ?_⟩)
            try rw [← hops]
            refine wpT_step (by rw [hops, List.getElem?_toArray]; rfl) (by first | rfl | (rw [hops]; rfl)) ?_
            intro K hK
            go_wp2_with fail
            try (with_reducible refine ⟨fun h => absurd h (by decide), ?_⟩)
            try rw [← hops]
            refine wpT_step (by rw [hops, List.getElem?_toArray]; rfl) (by first | rfl | (rw [hops]; rfl)) ?_
            intro K hK
            go_wp2_with fail
            try (with_reducible refine ⟨fun h => absurd h (by decide), ?_⟩)
            try rw [← hops]
            refine wpT_step (by rw [hops, List.getElem?_toArray]; rfl) (by first | rfl | (rw [hops]; rfl)) ?_
            intro K hK
            go_wp2_with fail
            try (with_reducible refine ⟨fun h => absurd h (by decide), ?_⟩)
            try rw [← hops]
            rw [wpT_nil]
            clear hops ops
            go_wp2_with fail
        case' neg =>
          have hne : ¬ (h1a.toNat : Int) = (h2a.toNat : Int) := fun h => hh (UInt64.toNat_inj.1 (by omega))
          have hne' : ¬ h1a.toNat = h2a.toNat := fun h => hh (UInt64.toNat_inj.1 h)
          have hne2 : ((h1a.toNat : Int) == (h2a.toNat : Int)) = false := by simpa using hne
          have hab : (a == b) = false := by
            rw [beq_eq_false_iff_ne]
            exact fun h => hh (HSAME.out h)
          have HAB2 := hid hab
          clear hab hh
          refine wp_region_T (fun v => ((v.cell? ⟨g, 0, none⟩ = some (uv h1a) ∧ v.cell? ⟨g, 1, none⟩ = some (.int .u64 0)) ∧ v.cell? ⟨g', 0, none⟩ = some (uv h2a) ∧ v.cell? ⟨g', 1, none⟩ = some (.int .u64 0)) ∧ Ext w13 v) 6 [(0, true), (1, true), (2, true), (3, true), (4, true), (5, false), (6, false), (7, false), (8, false), (9, false), (10, false)] (by kernel_rfl) (by kernel_rfl) (by intro c a d v w h; cases d <;> exact h) ?_
          intro ops hops
          have hxd := (((Ext.refl w13).alloc (.cells #[uv x1, .slice x2 x3 x4, uv x5] 49)).alloc (.cells #[uv y1, .slice y2 y3 y4, uv y5] 49)).drew
          have HR := And.intro (HCE.out _ hxd) hxd
          iterate 5
            refine wpT_take (v := ?_) (by rw [hops, List.getElem?_toArray]; rfl) (by first | rfl | (rw [hops]; rfl)) ?_ HR ?_
            rotate_left
            · intro v h; go_simp; with_reducible rfl
            simp only [Act.put, List.getElem_toArray, List.getElem_cons_zero, List.getElem_cons_succ, List.setIfInBounds_toArray, List.set_cons_zero, List.set_cons_succ]
          have hxr := HR.2
          clear HR hxd
          refine wpT_step (by rw [hops, List.getElem?_toArray]; rfl) (by first | rfl | (rw [hops]; rfl)) ?_
          intro K hK
          go_wp2_with fail
          refine (Same01_any _ _ a b _ (HAA.out.ext (HX13.out.trans hxr)) (HBB.out.ext (HX13.out.trans hxr)) (by have := H20.out; omega) (by have := H20.out; have := HLN.out; omega)).mono ?_
          rintro e w14 ⟨rfl, hx14⟩
          have hxx := hxr.trans hx14
          have HX14 := hid (HX13.out.trans hxx)
          rw [HAB2.out]
          refine hK _ _ ⟨fun _ => And.intro (HCE.out _ hxx) hxx, ?_⟩
          clear hK K
          clear hx14 hxr hxx HSAME HCL HCE
          refine wpT_step (by rw [hops, List.getElem?_toArray]; rfl) (by first | rfl | (rw [hops]; rfl)) ?_
          intro K hK
          go_wp2_with fail
          try (with_reducible refine ⟨fun h => absurd h (by decide), ?_⟩)
          try rw [← hops]
          refine wpT_step (by rw [hops, List.getElem?_toArray]; rfl) (by first | rfl | (rw [hops]; rfl)) ?_
          intro K hK
          go_wp2_with fail
          try (with_reducible refine ⟨fun h => absurd h (by decide), ?_⟩)
          try rw [← hops]
          refine wpT_none (by rw [hops, List.getElem?_toArray]; rfl) (by first | rfl | (rw [hops]; rfl)) ⟨fun h => absurd h (by decide), ?_⟩
          simp only [Act.put, List.getElem_toArray, List.getElem_cons_zero, List.getElem_cons_succ, List.setIfInBounds_toArray, List.set_cons_zero, List.set_cons_succ]
          refine wpT_none (by rw [hops, List.getElem?_toArray]; rfl) (by first | rfl | (rw [hops]; rfl)) ⟨fun h => absurd h (by decide), ?_⟩
          simp only [Act.put, List.getElem_toArray, List.getElem_cons_zero, List.getElem_cons_succ, List.setIfInBounds_toArray, List.set_cons_zero, List.set_cons_succ]
          refine wpT_step (by rw [hops, List.getElem?_toArray]; rfl) (by first | rfl | (rw [hops]; rfl)) ?_
          intro K hK
          go_wp2_with fail
          try (with_reducible refine ⟨fun h => absurd h (by decide), ?_⟩)
          try rw [← hops]
          rw [wpT_nil]
          clear hops ops
          go_wp2_with fail
        all_goals
          refine (Ideal_any key _).mono ?_
          rintro e w15 ⟨b1, F1, rfl, hat15, hx15, hF15⟩
          have HAT15 := hid hat15
          have HX15 := hid (HX14.out.trans hx15)
          have HF15 : Hid (∀ k, F1 k → w.heap.size ≤ k) := hid fun k hk => Nat.le_trans HX14.out.size (hF15 k hk)
          clear hat15 hx15 hF15
          go_wp2_with fail
          refine (Ideal_any key _).mono ?_
          rintro e w16 ⟨b2, F2, rfl, hat16, hx16, hF16⟩
          have HTW16 : Hid (Two w w16 b1 b2 (Orc.fresh true key) (Orc.fresh true key) F1 F2) := hid ⟨HAT15.out.ext hx16, hat16, fun k h1 h2 => by have := HAT15.out.foot_lt k h1; have := hF16 k h2; omega, fun k hk => by
            rcases hk with hk | hk
            · exact HF15.out k hk
            · exact Nat.le_trans HX15.out.size (hF16 k hk), HX15.out.trans hx16⟩
          have HID := hid (ideal13 HCA.out HCB.out HLN.out (by have := H20.out; omega))
          clear hat16 hx16 hF16
          go_wp2_with fail
          refine (tNew_any 1 _).mono ?_
          rintro e w17 ⟨rfl, hx17⟩
          have HTW17 := hid (HTW16.out.ext hx17)
          have HSE := hid (Seal_ideal_w (key := key) (nonce := 0) HTW17.out.o rfl (HAA.out.ext HTW17.out.ex) (fun k hk hn hf => by have := HAA.out.rdc.lt hk (by intro h; exact hn (by simpa using h)); have := HTW17.out.new k (.inl hf); omega) (by have := H20.out; omega) (by have := H20.out; simp only [Orc.fresh]; omega))
          clear hx17
          go_wp2_with fail
          refine HSE.out.mono ?_
          rintro e w18 ⟨v18, F18, rfl, ho18, ht18, -⟩
          obtain ⟨hi1, hi2, hi3⟩ := HID.out
          have HI1 := hid hi1
          have HI2 := hid hi2
          have HI3 := hid hi3
          clear hi1 hi2 hi3 HID
          generalize (Orc.fresh true key).sealI key 0 a = s1 at *
          obtain ⟨s2, hs2⟩ : ∃ s2, s2 = (Orc.fresh true key).sealI key 0 b := ⟨_, rfl⟩
          have HI2 := hid (hs2 ▸ HI2.out)
          have HI3 := hid (hs2 ▸ HI3.out)
          have HS2 := hid hs2
          clear hs2
          obtain ⟨v18a, v18c, rfl, -⟩ := ownsRow_rd ho18
          have HTW18 := hid (HTW17.out.left ht18)
          have HAB := hid (tAbsorb_any (st := 1) (cnt := 0) (tag := 1) ht18.at' (OwnU.rdu ho18).weak (by rw [HI1.out.len]; have := H20.out; omega) (by have := HI1.out.qs; omega) (by have := HI1.out.draws; omega))
          clear ho18 ht18 HSE
          go_wp2_with fail
          refine HAB.out.mono ?_
          rintro e w19 ⟨rfl, F19, ht19⟩
          have HTW19 := hid (HTW18.out.left ht19)
          have hi3 := HI3.out
          generalize s1.2.hash 18 (1 :: 1 :: s1.1) = h3 at *
          clear ht19 HAB
          go_wp2_with fail
          refine (tNew_any 1 _).mono ?_
          rintro e w20 ⟨rfl, hx20⟩
          have HTW20 := hid (HTW19.out.ext hx20)
          have HSE := hid (Seal_ideal_w (key := key) (nonce := 0) HTW20.out.q rfl (HBB.out.ext HTW20.out.ex) (fun k hk hn hf => by have := HBB.out.rdc.lt hk (by intro h; exact hn (by simpa using h)); have := HTW20.out.new k (.inr hf); omega) (by have := H20.out; have := HLN.out; omega) (by have := H20.out; have := HLN.out; simp only [Orc.fresh]; omega))
          clear hx20
          go_wp2_with fail
          refine HSE.out.mono ?_
          rintro e w21 ⟨v21, F21, rfl, ho21, ht21, -⟩
          rw [← HS2.out] at ho21 ht21
          obtain ⟨v21a, v21c, rfl, -⟩ := ownsRow_rd ho21
          have HTW21 := hid (HTW20.out.right ht21)
          have HAB := hid (tAbsorb_any (st := 1) (cnt := 0) (tag := 1) ht21.at' (OwnU.rdu ho21).weak (by rw [HI2.out.len]; have := H20.out; have := HLN.out; omega) (by have := HI2.out.qs; omega) (by have := HI2.out.draws; omega))
          clear ho21 ht21 HSE
          go_wp2_with fail
          refine HAB.out.mono ?_
          rintro e w22 ⟨rfl, F22, ht22⟩
          have HTW22 := hid (HTW21.out.right ht22)
          rw [← hi3]
          clear ht22 HAB
          go_wp2_with fail
          go_ret
          exact ⟨rfl, HTW22.out.ex⟩
end Go.Proofs.Ytdpgfjnpcjpdpaa
