/- Texts of this claim, joined: L49d, L49e. -/
import Derived.Test.YtcikjcjfcanloaaGreatJa22
set_option linter.unusedSimpArgs false
namespace Go.Proofs.YtcikjcjfcanloaaGreat
open Go.RowKit
attribute [local irreducible] perm fAdd fMul fPow fSub fNeg fRed hashU drawOf nextState cipSeal
set_option maxRecDepth 100000 in
set_option maxHeartbeats 3200000 in
theorem rAddress_any (seed : UInt64) (n : Nat) (hn : n < 4) (w : World) : Calls Tryz.prog 54 #[uv seed, .int .i64 (n : Int)] w fun e w' => e = .returned (.tuple #[.agg #[.int .i64 (n : Int), uv (kOwner (kSpend seed) n), uv (pPublic (kView seed n)).a, uv (pPublic (kView seed n)).b], .int .i64 0]) ∧ Ext w w' := by
  have HN := hid (rNumber_any (n : Int))
  rw [isNumK_lt hn] at HN
  have HSP := hid (rkSpend_any seed)
  have HOW := hid (rkOwner_any (kSpend seed) (n : Int))
  have HV := hid (rkView_any seed (n : Int))
  have HP := hid (rPublic_any (kView seed (n : Int)))
  generalize kOwner (kSpend seed) (n : Int) = own at *
  generalize pPublic (kView seed (n : Int)) = p at *
  generalize kView seed (n : Int) = view at *
  generalize kSpend seed = ks at *
  obtain ⟨pa, pb⟩ := p
  change Hid (∀ w : World, Calls Tryz.prog 96 #[uv view] w fun e' w' => e' = .returned (.agg #[uv pa, uv pb]) ∧ Ext w w') at HP
  obtain ⟨N, hN⟩ : ∃ N, N = w.heap.size := ⟨_, rfl⟩
  obtain ⟨w0, hw0⟩ : ∃ w0, w0 = w.alloc (.cells #[.int .i64 0, .int .u64 0, .int .u64 0, .int .u64 0] 96) := ⟨_, rfl⟩
  have hx0 : Ext w w0 := by rw [hw0]; exact (Ext.refl w).alloc _
  have hb0 : w0.heap[N]? = some (.cells #[.int .i64 0, .int .u64 0, .int .u64 0, .int .u64 0] 96 (0, 0)) := by rw [hw0, hN]; exact heap_new _ _
  have HB := hid hb0
  have HX0 := hid hx0
  have HNN : Hid (w.heap.size ≤ N) := hid (by omega)
  have HW := hid hw0
  clear hw0 hx0 hb0
  go_enter Tryz.func54, Tryz.ntmps54
  go_upto_region 1 with fail
  rw [← HW.out, ← hN]
  clear hN HW
  go_wp2_with fail
  refine (HN.out _).mono ?_
  rintro e w1 ⟨rfl, hx⟩
  have X1 := hid hx
  clear hx HN
  go_wp2_with fail
  refine (HSP.out _).mono ?_
  rintro e w2 ⟨rfl, hx⟩
  have X2 := hid (X1.out.trans hx)
  clear hx HSP
  go_wp2_with fail
  refine (HOW.out _).mono ?_
  rintro e w3 ⟨rfl, hx⟩
  have X3 := hid (X2.out.trans hx)
  clear hx HOW
  go_wp2_with fail
  refine (HV.out _).mono ?_
  rintro e w4 ⟨rfl, hx⟩
  have X4 := hid (X3.out.trans hx)
  clear hx HV
  go_wp2_with fail
  refine (HP.out _).mono ?_
  rintro e w5 ⟨rfl, hx⟩
  have X5 := hid (X4.out.trans hx)
  have hb5 := X5.out.heap_some HB.out
  obtain ⟨c0, c1, c2, c3⟩ := four_cells hb5
  have fz := frozen_of hb5
  obtain ⟨hb6, hk6⟩ := four_setN (d0 := .int .i64 (n : Int)) (d1 := uv own) (d2 := uv pa) (d3 := uv pb) hb5
  have hx6 := (HX0.out.trans X5.out).kp hk6 (fun j e => by have := HNN.out; omega)
  have H6 := hid (And.intro hb6 hx6)
  clear hx HP hb5 hb6 hk6 hx6
  go_wp2_with fail
  obtain ⟨h1, h2⟩ := H6.out
  obtain ⟨r0, r1, r2, r3⟩ := four_cells h1
  generalize (((w5.setCell ⟨N, 0, none⟩ (.int .i64 (n : Int))).setCell ⟨N, 1, none⟩ (uv own)).setCell ⟨N, 2, none⟩ (uv pa)).setCell ⟨N, 3, none⟩ (uv pb) = W at *
  exact bodyPost_ret (v := .tuple #[.agg #[.int .i64 (n : Int), uv own, uv pa, uv pb], .int .i64 0]) (by simp [results, Tryz.results54, go_sem, r0, r1, r2, r3]) rfl ⟨rfl, h2⟩
set_option maxRecDepth 100000 in
set_option maxHeartbeats 25600000 in
theorem rOutput_any (num : Int) (owner qa qb n0 n1 n2 n3 ex : UInt64) (w : World) :
    Calls Tryz.prog 55 #[.agg #[.int .i64 num, uv owner, uv qa, uv qb], .agg #[uv n0, uv n1, uv n2, uv n3], uv ex] w fun e w' => ∃ cv, e = .returned (.agg #[uv (hashU 2 [n0, n1, n2, n3]), uv (pPublic ex).a, uv (pPublic ex).b, cv]) ∧ NewU w (if cipE (envKey (pShared ⟨qa, qb⟩ ex) (pPublic ex)) 0 [n0, n3] then cipSeal (envKey (pShared ⟨qa, qb⟩ ex) (pPublic ex)) 0 [n0, n3] else []) (.returned cv) w' := by
  have HCM := hid (rCommit4_any n0 n1 n2 n3)
  have HPU := hid (rPublic_any ex)
  have HSH := hid (rShared_any ⟨qa, qb⟩ ex)
  have HKE := hid (rKeyE_any (pShared ⟨qa, qb⟩ ex) (pPublic ex))
  generalize hashU 2 [n0, n1, n2, n3] = cm at *
  generalize pShared ⟨qa, qb⟩ ex = sh at *
  obtain ⟨p, hp⟩ : ∃ p, p = pPublic ex := ⟨_, rfl⟩
  rw [← hp] at HPU HKE ⊢
  clear hp
  generalize envKey sh p = key at *
  have HSL : Hid (∀ u g T, u.heap[g]? = some (.cells #[uv n0, uv n3] T (0, 0)) → Calls Tryz.prog 98 #[uv key, uv 0, .slice (some ⟨g, 0, none⟩) 2 2] u (NewU u (if cipE key 0 [n0, n3] then cipSeal key 0 [n0, n3] else []))) := hid fun u g T hg => by
    refine rSealC_any key 0 _ [n0, n3] u ?_ (by simp)
    refine RdC.weak ⟨_, 2, rfl, Nat.le_refl _, by unfold maxLen; omega, (fun h => by cases h), fun ad ha => ?_⟩
    obtain rfl := Option.some.inj ha
    refine ⟨rfl, fun j x hx => ?_⟩
    rw [cell_of hg]
    simpa [us] using hx
  generalize (if cipE key 0 [n0, n3] then cipSeal key 0 [n0, n3] else []) = R at *
  obtain ⟨pa, pb⟩ := p
  obtain ⟨sa, sb⟩ := sh
  change Hid (∀ w : World, Calls Tryz.prog 96 #[uv ex] w fun e' w' => e' = .returned (.agg #[uv pa, uv pb]) ∧ Ext w w') at HPU
  change Hid (∀ w : World, Calls Tryz.prog 100 #[.agg #[uv qa, uv qb], uv ex] w fun e' w' => e' = .returned (.agg #[uv sa, uv sb]) ∧ Ext w w') at HSH
  change Hid (∀ w : World, Calls Tryz.prog 99 #[.agg #[uv sa, uv sb], .agg #[uv pa, uv pb]] w fun e w' => e = .returned (uv key) ∧ Ext w w') at HKE
  simp only
  obtain ⟨N, hN⟩ : ∃ N, N = w.heap.size := ⟨_, rfl⟩
  obtain ⟨w0, hw0⟩ : ∃ w0, w0 = ((w.alloc (.cells #[.int .i64 num, uv owner, uv qa, uv qb] 96)).alloc (.cells #[uv n0, uv n1, uv n2, uv n3] 37)).alloc (.cells #[.int .u64 0, .int .u64 0, .int .u64 0, .slice none 0 0] 103) := ⟨_, rfl⟩
  have hx0 : Ext w w0 := by rw [hw0]; exact (((Ext.refl w).alloc _).alloc _).alloc _
  have hb0 : w0.heap[N]? = some (.cells #[.int .i64 num, uv owner, uv qa, uv qb] 96 (0, 0)) := by rw [hw0, hN]; exact heap_alloc_some (heap_alloc_some (heap_new _ _))
  have hb1 : w0.heap[N + 1]? = some (.cells #[uv n0, uv n1, uv n2, uv n3] 37 (0, 0)) := by
    rw [hw0, hN]
    refine heap_alloc_some ?_
    have := heap_new (w.alloc (.cells #[.int .i64 num, uv owner, uv qa, uv qb] 96)) (.cells #[uv n0, uv n1, uv n2, uv n3] 37)
    simpa using this
  have hb2 : w0.heap[N + 2]? = some (.cells #[.int .u64 0, .int .u64 0, .int .u64 0, .slice none 0 0] 103 (0, 0)) := by
    rw [hw0, hN]
    have := heap_new ((w.alloc (.cells #[.int .i64 num, uv owner, uv qa, uv qb] 96)).alloc (.cells #[uv n0, uv n1, uv n2, uv n3] 37)) (.cells #[.int .u64 0, .int .u64 0, .int .u64 0, .slice none 0 0] 103)
    simpa using this
  have HB := hid (And.intro hb0 (And.intro hb1 hb2))
  have HX0 := hid hx0
  have HNN : Hid (w.heap.size ≤ N) := hid (by omega)
  have HW := hid hw0
  clear hw0 hx0 hb0 hb1 hb2
  go_enter Tryz.func55, Tryz.ntmps55
  go_upto_region 1 with fail
  rw [← HW.out, ← hN]
  clear hN HW
  go_wp2_with fail
  refine (HPU.out _).mono ?_
  rintro e w1 ⟨rfl, hx⟩
  have X1 := hid hx
  clear hx HPU
  obtain ⟨PB, hPB⟩ : ∃ PB, PB = w1.heap.size := ⟨_, rfl⟩
  obtain ⟨w2, hw2⟩ : ∃ w2, w2 = w1.alloc (.cells #[uv pa, uv pb] 94) := ⟨_, rfl⟩
  have hx2 : Ext w1 w2 := by rw [hw2]; exact (Ext.refl w1).alloc _
  have hpb : w2.heap[PB]? = some (.cells #[uv pa, uv pb] 94 (0, 0)) := by rw [hw2, hPB]; exact heap_new _ _
  have HW2 := hid hw2
  have X2 := hid (X1.out.trans hx2)
  have HPB := hid hpb
  clear hw2 hx2 hpb
  go_upto_region 2 with fail
  rw [← HW2.out, ← hPB]
  clear hPB HW2
  obtain ⟨w3, hw3⟩ : ∃ w3, w3 = w2 := ⟨_, rfl⟩
  rw [← hw3] at X2 HPB ⊢
  clear hw3
  have HSV : Hid (∀ u, Ext w3 u → ((u.cell? ⟨N, 2, none⟩ = some (uv qa) ∧ u.cell? ⟨N, 3, none⟩ = some (uv qb)) ∧ (u.cell? ⟨N + 1, 0, none⟩ = some (uv n0) ∧ u.cell? ⟨N + 1, 1, none⟩ = some (uv n1) ∧ u.cell? ⟨N + 1, 2, none⟩ = some (uv n2) ∧ u.cell? ⟨N + 1, 3, none⟩ = some (uv n3)) ∧ u.cell? ⟨PB, 0, none⟩ = some (uv pa) ∧ u.cell? ⟨PB, 1, none⟩ = some (uv pb)) ∧ Ext w3 u) := hid fun u k => ⟨⟨⟨cell_of ((X2.out.trans k).heap_some HB.out.1) 2, cell_of ((X2.out.trans k).heap_some HB.out.1) 3⟩, four_cells ((X2.out.trans k).heap_some HB.out.2.1), cell_of (k.heap_some HPB.out) 0, cell_of (k.heap_some HPB.out) 1⟩, k⟩
  refine wp_region_N (fun u => ((u.cell? ⟨N, 2, none⟩ = some (uv qa) ∧ u.cell? ⟨N, 3, none⟩ = some (uv qb)) ∧ (u.cell? ⟨N + 1, 0, none⟩ = some (uv n0) ∧ u.cell? ⟨N + 1, 1, none⟩ = some (uv n1) ∧ u.cell? ⟨N + 1, 2, none⟩ = some (uv n2) ∧ u.cell? ⟨N + 1, 3, none⟩ = some (uv n3)) ∧ u.cell? ⟨PB, 0, none⟩ = some (uv pa) ∧ u.cell? ⟨PB, 1, none⟩ = some (uv pb)) ∧ Ext w3 u) 16 17 (by kernel_rfl) (by kernel_rfl) ?_
  intro ops hops
  have HS0 := HSV.out _ (Ext.refl w3).drew
  refine N_take (i := 0) (v := ?_) (by rw [hops, List.getElem?_toArray]; rfl) (by rw [hops]; kernel_rfl) (by intro c a d v w h; cases d <;> exact h) (by first | rfl | (rw [hops]; rfl)) ?_ HS0 ?_
  rotate_left
  · intro v h; go_simp; with_reducible rfl
  simp only [Act.put, List.getElem_toArray, List.getElem_cons_zero, List.getElem_cons_succ, List.setIfInBounds_toArray, List.set_cons_zero, List.set_cons_succ]
  refine N_take (i := 2) (v := ?_) (by rw [hops, List.getElem?_toArray]; rfl) (by rw [hops]; kernel_rfl) (by intro c a d v w h; cases d <;> exact h) (by first | rfl | (rw [hops]; rfl)) ?_ HS0 ?_
  rotate_left
  · intro v h; go_simp; with_reducible rfl
  simp only [Act.put, List.getElem_toArray, List.getElem_cons_zero, List.getElem_cons_succ, List.setIfInBounds_toArray, List.set_cons_zero, List.set_cons_succ]
  refine N_take (i := 3) (v := ?_) (by rw [hops, List.getElem?_toArray]; rfl) (by rw [hops]; kernel_rfl) (by intro c a d v w h; cases d <;> exact h) (by first | rfl | (rw [hops]; rfl)) ?_ HS0 ?_
  rotate_left
  · intro v h; go_simp; with_reducible rfl
  simp only [Act.put, List.getElem_toArray, List.getElem_cons_zero, List.getElem_cons_succ, List.setIfInBounds_toArray, List.set_cons_zero, List.set_cons_succ]
  refine N_take (i := 4) (v := ?_) (by rw [hops, List.getElem?_toArray]; rfl) (by rw [hops]; kernel_rfl) (by intro c a d v w h; cases d <;> exact h) (by first | rfl | (rw [hops]; rfl)) ?_ HS0 ?_
  rotate_left
  · intro v h; go_simp; with_reducible rfl
  simp only [Act.put, List.getElem_toArray, List.getElem_cons_zero, List.getElem_cons_succ, List.setIfInBounds_toArray, List.set_cons_zero, List.set_cons_succ]
  refine N_take (i := 5) (v := ?_) (by rw [hops, List.getElem?_toArray]; rfl) (by rw [hops]; kernel_rfl) (by intro c a d v w h; cases d <;> exact h) (by first | rfl | (rw [hops]; rfl)) ?_ HS0 ?_
  rotate_left
  · intro v h; go_simp; with_reducible rfl
  simp only [Act.put, List.getElem_toArray, List.getElem_cons_zero, List.getElem_cons_succ, List.setIfInBounds_toArray, List.set_cons_zero, List.set_cons_succ]
  refine N_take (i := 7) (v := ?_) (by rw [hops, List.getElem?_toArray]; rfl) (by rw [hops]; kernel_rfl) (by intro c a d v w h; cases d <;> exact h) (by first | rfl | (rw [hops]; rfl)) ?_ HS0 ?_
  rotate_left
  · intro v h; go_simp; with_reducible rfl
  simp only [Act.put, List.getElem_toArray, List.getElem_cons_zero, List.getElem_cons_succ, List.setIfInBounds_toArray, List.set_cons_zero, List.set_cons_succ]
  refine N_take (i := 9) (v := ?_) (by rw [hops, List.getElem?_toArray]; rfl) (by rw [hops]; kernel_rfl) (by intro c a d v w h; cases d <;> exact h) (by first | rfl | (rw [hops]; rfl)) ?_ HS0 ?_
  rotate_left
  · intro v h; go_simp; with_reducible rfl
  simp only [Act.put, List.getElem_toArray, List.getElem_cons_zero, List.getElem_cons_succ, List.setIfInBounds_toArray, List.set_cons_zero, List.set_cons_succ]
  refine N_take (i := 10) (v := ?_) (by rw [hops, List.getElem?_toArray]; rfl) (by rw [hops]; kernel_rfl) (by intro c a d v w h; cases d <;> exact h) (by first | rfl | (rw [hops]; rfl)) ?_ HS0 ?_
  rotate_left
  · intro v h; go_simp; with_reducible rfl
  simp only [Act.put, List.getElem_toArray, List.getElem_cons_zero, List.getElem_cons_succ, List.setIfInBounds_toArray, List.set_cons_zero, List.set_cons_succ]
  refine N_take (i := 11) (v := ?_) (by rw [hops, List.getElem?_toArray]; rfl) (by rw [hops]; kernel_rfl) (by intro c a d v w h; cases d <;> exact h) (by first | rfl | (rw [hops]; rfl)) ?_ HS0 ?_
  rotate_left
  · intro v h; go_simp; with_reducible rfl
  simp only [Act.put, List.getElem_toArray, List.getElem_cons_zero, List.getElem_cons_succ, List.setIfInBounds_toArray, List.set_cons_zero, List.set_cons_succ]
  refine N_take (i := 12) (v := ?_) (by rw [hops, List.getElem?_toArray]; rfl) (by rw [hops]; kernel_rfl) (by intro c a d v w h; cases d <;> exact h) (by first | rfl | (rw [hops]; rfl)) ?_ HS0 ?_
  rotate_left
  · intro v h; go_simp; with_reducible rfl
  simp only [Act.put, List.getElem_toArray, List.getElem_cons_zero, List.getElem_cons_succ, List.setIfInBounds_toArray, List.set_cons_zero, List.set_cons_succ]
  refine N_two (i := 1) (k := 13) (by rw [hops]; rfl) (by rw [hops, List.getElem?_toArray]; rfl) (by rw [hops]; kernel_rfl) (by first | rfl | (rw [hops]; rfl)) (by first | rfl | (rw [hops]; rfl)) ?_ ?_
  · intro K hK
    go_wp2_with fail
    refine (HCM.out _).mono ?_
    rintro e v1 ⟨rfl, hx⟩
    have HS1 := HSV.out v1 (HS0.2.trans hx)
    clear hx HS0
    refine hK _ _ ⟨fun _ => HS1, ?_⟩
    clear hK K
    refine N_two (i := 6) (k := 13) (by rw [hops]; rfl) (by rw [hops, List.getElem?_toArray]; rfl) (by rw [hops]; kernel_rfl) (by first | rfl | (rw [hops]; rfl)) (by first | rfl | (rw [hops]; rfl)) ?_ ?_
    · intro K hK
      go_wp2_with fail
      refine (HSH.out _).mono ?_
      rintro e v2 ⟨rfl, hx⟩
      have HS2 := HSV.out v2 (HS1.2.trans hx)
      clear hx HS1
      refine hK _ _ ⟨fun _ => HS2, ?_⟩
      clear hK K
      refine N_two (i := 8) (k := 13) (by rw [hops]; rfl) (by rw [hops, List.getElem?_toArray]; rfl) (by rw [hops]; kernel_rfl) (by first | rfl | (rw [hops]; rfl)) (by first | rfl | (rw [hops]; rfl)) ?_ ?_
      · intro K hK
        go_wp2_with fail
        refine (HKE.out _).mono ?_
        rintro e v3 ⟨rfl, hx⟩
        have HS3 := HSV.out v3 (HS2.2.trans hx)
        clear hx HS2
        refine hK _ _ ⟨fun _ => HS3, ?_⟩
        clear hK K
        refine N_one (i := 13) (by rw [hops, List.getElem?_toArray]; rfl) (by rw [hops]; kernel_rfl) (by first | rfl | (rw [hops]; rfl)) ?_
        intro K hK
        go_wp2_with fail
        have hbb4 := heap_new v3 (.cells #[uv n0, uv n3] 22)
        have HS4 := HSV.out _ (HS3.2.alloc (.cells #[uv n0, uv n3] 22))
        clear HS3
        refine ⟨fun _ => HS4, ?_⟩
        try rw [← hops]
        refine N_one (i := 14) (by rw [hops, List.getElem?_toArray]; rfl) (by rw [hops]; kernel_rfl) (by first | rfl | (rw [hops]; rfl)) ?_
        intro K hK
        go_wp2_with fail
        refine (HSL.out _ _ _ hbb4).mono ?_
        rintro e v5 ⟨cv, hcv, ho, hx, hnw⟩
        obtain rfl := hcv
        obtain ⟨ca, cc, rfl, -⟩ := ownsRow_rd ho
        have HS5 := HSV.out v5 (HS4.2.trans hx)
        have hxf : Ext w0 v5 := X2.out.trans HS5.2
        have hszf : w.heap.size ≤ _ := (HX0.out.trans (X2.out.trans HS4.2)).size
        refine hK _ _ ⟨fun _ => HS5, ?_⟩
        clear hK K
        refine N_take (i := 15) (v := ?_) (by rw [hops, List.getElem?_toArray]; rfl) (by rw [hops]; kernel_rfl) (by intro c a d v w h; cases d <;> exact h) (by first | rfl | (rw [hops]; rfl)) ?_ HS5 ?_
        rotate_left
        · intro v h; go_simp; with_reducible rfl
        simp only [Act.put, List.getElem_toArray, List.getElem_cons_zero, List.getElem_cons_succ, List.setIfInBounds_toArray, List.set_cons_zero, List.set_cons_succ]
        have hbz := hxf.heap_some HB.out.2.2
        obtain ⟨z0, z1, z2, z3⟩ := four_cells hbz
        have zf := frozen_of hbz
        obtain ⟨h1, h2⟩ := four_setN (d0 := uv cm) (d1 := uv pa) (d2 := uv pb) (d3 := .slice ca R.length cc) hbz
        have hz := hxf.size
        have hN2 := heap_lt HB.out.2.2
        have HF := hid (And.intro h1 (And.intro ((HX0.out.trans hxf).kp h2 (fun j e => by have := HNN.out; omega)) (show OwnU ((((v5.setCell ⟨N + 2, 0, none⟩ (uv cm)).setCell ⟨N + 2, 1, none⟩ (uv pa)).setCell ⟨N + 2, 2, none⟩ (uv pb)).setCell ⟨N + 2, 3, none⟩ (.slice ca R.length cc)) (.slice ca R.length cc) R from ownsRow_kp ho h2 (fun b hb e => by
          have h3 := hnw b hb
          have h4 := (X2.out.trans HS4.2).size
          omega))))
        have HNW : Hid (∀ k, blk (.slice ca R.length cc) = some k → w.heap.size ≤ k) := hid fun k hk => Nat.le_trans hszf (hnw k hk)
        clear h1 h2 hbz hz hN2 ho hx hnw hxf HS5 HS4 hszf hbb4
        refine N_one (i := 16) (by rw [hops, List.getElem?_toArray]; rfl) (by rw [hops]; kernel_rfl) (by first | rfl | (rw [hops]; rfl)) ?_
        intro K hK
        go_wp2_with fail
        refine ⟨fun h => absurd h (by decide), ?_⟩
        try rw [← hops]
        refine N_done (by rw [hops]; kernel_rfl) ?_
        clear hops ops
        go_wp2_with fail
        obtain ⟨h1, h2, h3⟩ := HF.out
        obtain ⟨r0, r1, r2, r3⟩ := four_cells h1
        generalize (((v5.setCell ⟨N + 2, 0, none⟩ (uv cm)).setCell ⟨N + 2, 1, none⟩ (uv pa)).setCell ⟨N + 2, 2, none⟩ (uv pb)).setCell ⟨N + 2, 3, none⟩ (.slice ca R.length cc) = W at *
        exact bodyPost_ret (v := .agg #[uv cm, uv pa, uv pb, .slice ca R.length cc]) (by simp [results, Tryz.results55, go_sem, r0, r1, r2, r3]) rfl ⟨_, rfl, _, rfl, h3, h2, HNW.out⟩
      · intro K hK
        go_wp2_with fail
        have hbb6 := heap_new v2 (.cells #[uv n0, uv n3] 22)
        have HS6 := HSV.out _ (HS2.2.alloc (.cells #[uv n0, uv n3] 22))
        clear HS2
        refine ⟨fun _ => HS6, ?_⟩
        try rw [← hops]
        refine N_one (i := 8) (by rw [hops, List.getElem?_toArray]; rfl) (by rw [hops]; kernel_rfl) (by first | rfl | (rw [hops]; rfl)) ?_
        intro K hK
        go_wp2_with fail
        refine (HKE.out _).mono ?_
        rintro e v7 ⟨rfl, hx⟩
        have HS7 := HSV.out v7 (HS6.2.trans hx)
        have hbb7 := hx.heap_some hbb6
        clear hx HS6
        refine hK _ _ ⟨fun _ => HS7, ?_⟩
        clear hK K
        refine N_one (i := 14) (by rw [hops, List.getElem?_toArray]; rfl) (by rw [hops]; kernel_rfl) (by first | rfl | (rw [hops]; rfl)) ?_
        intro K hK
        go_wp2_with fail
        refine (HSL.out _ _ _ hbb7).mono ?_
        rintro e v8 ⟨cv, hcv, ho, hx, hnw⟩
        obtain rfl := hcv
        obtain ⟨ca, cc, rfl, -⟩ := ownsRow_rd ho
        have HS8 := HSV.out v8 (HS7.2.trans hx)
        have hxf : Ext w0 v8 := X2.out.trans HS8.2
        have hszf : w.heap.size ≤ _ := (HX0.out.trans (X2.out.trans HS7.2)).size
        refine hK _ _ ⟨fun _ => HS8, ?_⟩
        clear hK K
        refine N_take (i := 15) (v := ?_) (by rw [hops, List.getElem?_toArray]; rfl) (by rw [hops]; kernel_rfl) (by intro c a d v w h; cases d <;> exact h) (by first | rfl | (rw [hops]; rfl)) ?_ HS8 ?_
        rotate_left
        · intro v h; go_simp; with_reducible rfl
        simp only [Act.put, List.getElem_toArray, List.getElem_cons_zero, List.getElem_cons_succ, List.setIfInBounds_toArray, List.set_cons_zero, List.set_cons_succ]
        have hbz := hxf.heap_some HB.out.2.2
        obtain ⟨z0, z1, z2, z3⟩ := four_cells hbz
        have zf := frozen_of hbz
        obtain ⟨h1, h2⟩ := four_setN (d0 := uv cm) (d1 := uv pa) (d2 := uv pb) (d3 := .slice ca R.length cc) hbz
        have hz := hxf.size
        have hN2 := heap_lt HB.out.2.2
        have HF := hid (And.intro h1 (And.intro ((HX0.out.trans hxf).kp h2 (fun j e => by have := HNN.out; omega)) (show OwnU ((((v8.setCell ⟨N + 2, 0, none⟩ (uv cm)).setCell ⟨N + 2, 1, none⟩ (uv pa)).setCell ⟨N + 2, 2, none⟩ (uv pb)).setCell ⟨N + 2, 3, none⟩ (.slice ca R.length cc)) (.slice ca R.length cc) R from ownsRow_kp ho h2 (fun b hb e => by
          have h3 := hnw b hb
          have h4 := (X2.out.trans HS7.2).size
          omega))))
        have HNW : Hid (∀ k, blk (.slice ca R.length cc) = some k → w.heap.size ≤ k) := hid fun k hk => Nat.le_trans hszf (hnw k hk)
        clear h1 h2 hbz hz hN2 ho hx hnw hxf HS8 HS7 hszf hbb7
        refine N_one (i := 16) (by rw [hops, List.getElem?_toArray]; rfl) (by rw [hops]; kernel_rfl) (by first | rfl | (rw [hops]; rfl)) ?_
        intro K hK
        go_wp2_with fail
        refine ⟨fun h => absurd h (by decide), ?_⟩
        try rw [← hops]
        refine N_done (by rw [hops]; kernel_rfl) ?_
        clear hops ops
        go_wp2_with fail
        obtain ⟨h1, h2, h3⟩ := HF.out
        obtain ⟨r0, r1, r2, r3⟩ := four_cells h1
        generalize (((v8.setCell ⟨N + 2, 0, none⟩ (uv cm)).setCell ⟨N + 2, 1, none⟩ (uv pa)).setCell ⟨N + 2, 2, none⟩ (uv pb)).setCell ⟨N + 2, 3, none⟩ (.slice ca R.length cc) = W at *
        exact bodyPost_ret (v := .agg #[uv cm, uv pa, uv pb, .slice ca R.length cc]) (by simp [results, Tryz.results55, go_sem, r0, r1, r2, r3]) rfl ⟨_, rfl, _, rfl, h3, h2, HNW.out⟩
    · intro K hK
      go_wp2_with fail
      have hbb9 := heap_new v1 (.cells #[uv n0, uv n3] 22)
      have HS9 := HSV.out _ (HS1.2.alloc (.cells #[uv n0, uv n3] 22))
      clear HS1
      refine ⟨fun _ => HS9, ?_⟩
      try rw [← hops]
      refine N_one (i := 6) (by rw [hops, List.getElem?_toArray]; rfl) (by rw [hops]; kernel_rfl) (by first | rfl | (rw [hops]; rfl)) ?_
      intro K hK
      go_wp2_with fail
      refine (HSH.out _).mono ?_
      rintro e v10 ⟨rfl, hx⟩
      have HS10 := HSV.out v10 (HS9.2.trans hx)
      have hbb10 := hx.heap_some hbb9
      clear hx HS9
      refine hK _ _ ⟨fun _ => HS10, ?_⟩
      clear hK K
      refine N_one (i := 8) (by rw [hops, List.getElem?_toArray]; rfl) (by rw [hops]; kernel_rfl) (by first | rfl | (rw [hops]; rfl)) ?_
      intro K hK
      go_wp2_with fail
      refine (HKE.out _).mono ?_
      rintro e v11 ⟨rfl, hx⟩
      have HS11 := HSV.out v11 (HS10.2.trans hx)
      have hbb11 := hx.heap_some hbb10
      clear hx HS10
      refine hK _ _ ⟨fun _ => HS11, ?_⟩
      clear hK K
      refine N_one (i := 14) (by rw [hops, List.getElem?_toArray]; rfl) (by rw [hops]; kernel_rfl) (by first | rfl | (rw [hops]; rfl)) ?_
      intro K hK
      go_wp2_with fail
      refine (HSL.out _ _ _ hbb11).mono ?_
      rintro e v12 ⟨cv, hcv, ho, hx, hnw⟩
      obtain rfl := hcv
      obtain ⟨ca, cc, rfl, -⟩ := ownsRow_rd ho
      have HS12 := HSV.out v12 (HS11.2.trans hx)
      have hxf : Ext w0 v12 := X2.out.trans HS12.2
      have hszf : w.heap.size ≤ _ := (HX0.out.trans (X2.out.trans HS11.2)).size
      refine hK _ _ ⟨fun _ => HS12, ?_⟩
      clear hK K
      refine N_take (i := 15) (v := ?_) (by rw [hops, List.getElem?_toArray]; rfl) (by rw [hops]; kernel_rfl) (by intro c a d v w h; cases d <;> exact h) (by first | rfl | (rw [hops]; rfl)) ?_ HS12 ?_
      rotate_left
      · intro v h; go_simp; with_reducible rfl
      simp only [Act.put, List.getElem_toArray, List.getElem_cons_zero, List.getElem_cons_succ, List.setIfInBounds_toArray, List.set_cons_zero, List.set_cons_succ]
      have hbz := hxf.heap_some HB.out.2.2
      obtain ⟨z0, z1, z2, z3⟩ := four_cells hbz
      have zf := frozen_of hbz
      obtain ⟨h1, h2⟩ := four_setN (d0 := uv cm) (d1 := uv pa) (d2 := uv pb) (d3 := .slice ca R.length cc) hbz
      have hz := hxf.size
      have hN2 := heap_lt HB.out.2.2
      have HF := hid (And.intro h1 (And.intro ((HX0.out.trans hxf).kp h2 (fun j e => by have := HNN.out; omega)) (show OwnU ((((v12.setCell ⟨N + 2, 0, none⟩ (uv cm)).setCell ⟨N + 2, 1, none⟩ (uv pa)).setCell ⟨N + 2, 2, none⟩ (uv pb)).setCell ⟨N + 2, 3, none⟩ (.slice ca R.length cc)) (.slice ca R.length cc) R from ownsRow_kp ho h2 (fun b hb e => by
        have h3 := hnw b hb
        have h4 := (X2.out.trans HS11.2).size
        omega))))
      have HNW : Hid (∀ k, blk (.slice ca R.length cc) = some k → w.heap.size ≤ k) := hid fun k hk => Nat.le_trans hszf (hnw k hk)
      clear h1 h2 hbz hz hN2 ho hx hnw hxf HS12 HS11 hszf hbb11
      refine N_one (i := 16) (by rw [hops, List.getElem?_toArray]; rfl) (by rw [hops]; kernel_rfl) (by first | rfl | (rw [hops]; rfl)) ?_
      intro K hK
      go_wp2_with fail
      refine ⟨fun h => absurd h (by decide), ?_⟩
      try rw [← hops]
      refine N_done (by rw [hops]; kernel_rfl) ?_
      clear hops ops
      go_wp2_with fail
      obtain ⟨h1, h2, h3⟩ := HF.out
      obtain ⟨r0, r1, r2, r3⟩ := four_cells h1
      generalize (((v12.setCell ⟨N + 2, 0, none⟩ (uv cm)).setCell ⟨N + 2, 1, none⟩ (uv pa)).setCell ⟨N + 2, 2, none⟩ (uv pb)).setCell ⟨N + 2, 3, none⟩ (.slice ca R.length cc) = W at *
      exact bodyPost_ret (v := .agg #[uv cm, uv pa, uv pb, .slice ca R.length cc]) (by simp [results, Tryz.results55, go_sem, r0, r1, r2, r3]) rfl ⟨_, rfl, _, rfl, h3, h2, HNW.out⟩
  · intro K hK
    go_wp2_with fail
    have hbb13 := heap_new w3.drew (.cells #[uv n0, uv n3] 22)
    have HS13 := HSV.out _ (HS0.2.alloc (.cells #[uv n0, uv n3] 22))
    clear HS0
    refine ⟨fun _ => HS13, ?_⟩
    try rw [← hops]
    refine N_one (i := 1) (by rw [hops, List.getElem?_toArray]; rfl) (by rw [hops]; kernel_rfl) (by first | rfl | (rw [hops]; rfl)) ?_
    intro K hK
    go_wp2_with fail
    refine (HCM.out _).mono ?_
    rintro e v14 ⟨rfl, hx⟩
    have HS14 := HSV.out v14 (HS13.2.trans hx)
    have hbb14 := hx.heap_some hbb13
    clear hx HS13
    refine hK _ _ ⟨fun _ => HS14, ?_⟩
    clear hK K
    refine N_one (i := 6) (by rw [hops, List.getElem?_toArray]; rfl) (by rw [hops]; kernel_rfl) (by first | rfl | (rw [hops]; rfl)) ?_
    intro K hK
    go_wp2_with fail
    refine (HSH.out _).mono ?_
    rintro e v15 ⟨rfl, hx⟩
    have HS15 := HSV.out v15 (HS14.2.trans hx)
    have hbb15 := hx.heap_some hbb14
    clear hx HS14
    refine hK _ _ ⟨fun _ => HS15, ?_⟩
    clear hK K
    refine N_one (i := 8) (by rw [hops, List.getElem?_toArray]; rfl) (by rw [hops]; kernel_rfl) (by first | rfl | (rw [hops]; rfl)) ?_
    intro K hK
    go_wp2_with fail
    refine (HKE.out _).mono ?_
    rintro e v16 ⟨rfl, hx⟩
    have HS16 := HSV.out v16 (HS15.2.trans hx)
    have hbb16 := hx.heap_some hbb15
    clear hx HS15
    refine hK _ _ ⟨fun _ => HS16, ?_⟩
    clear hK K
    refine N_one (i := 14) (by rw [hops, List.getElem?_toArray]; rfl) (by rw [hops]; kernel_rfl) (by first | rfl | (rw [hops]; rfl)) ?_
    intro K hK
    go_wp2_with fail
    refine (HSL.out _ _ _ hbb16).mono ?_
    rintro e v17 ⟨cv, hcv, ho, hx, hnw⟩
    obtain rfl := hcv
    obtain ⟨ca, cc, rfl, -⟩ := ownsRow_rd ho
    have HS17 := HSV.out v17 (HS16.2.trans hx)
    have hxf : Ext w0 v17 := X2.out.trans HS17.2
    have hszf : w.heap.size ≤ _ := (HX0.out.trans (X2.out.trans HS16.2)).size
    refine hK _ _ ⟨fun _ => HS17, ?_⟩
    clear hK K
    refine N_take (i := 15) (v := ?_) (by rw [hops, List.getElem?_toArray]; rfl) (by rw [hops]; kernel_rfl) (by intro c a d v w h; cases d <;> exact h) (by first | rfl | (rw [hops]; rfl)) ?_ HS17 ?_
    rotate_left
    · intro v h; go_simp; with_reducible rfl
    simp only [Act.put, List.getElem_toArray, List.getElem_cons_zero, List.getElem_cons_succ, List.setIfInBounds_toArray, List.set_cons_zero, List.set_cons_succ]
    have hbz := hxf.heap_some HB.out.2.2
    obtain ⟨z0, z1, z2, z3⟩ := four_cells hbz
    have zf := frozen_of hbz
    obtain ⟨h1, h2⟩ := four_setN (d0 := uv cm) (d1 := uv pa) (d2 := uv pb) (d3 := .slice ca R.length cc) hbz
    have hz := hxf.size
    have hN2 := heap_lt HB.out.2.2
    have HF := hid (And.intro h1 (And.intro ((HX0.out.trans hxf).kp h2 (fun j e => by have := HNN.out; omega)) (show OwnU ((((v17.setCell ⟨N + 2, 0, none⟩ (uv cm)).setCell ⟨N + 2, 1, none⟩ (uv pa)).setCell ⟨N + 2, 2, none⟩ (uv pb)).setCell ⟨N + 2, 3, none⟩ (.slice ca R.length cc)) (.slice ca R.length cc) R from ownsRow_kp ho h2 (fun b hb e => by
      have h3 := hnw b hb
      have h4 := (X2.out.trans HS16.2).size
      omega))))
    have HNW : Hid (∀ k, blk (.slice ca R.length cc) = some k → w.heap.size ≤ k) := hid fun k hk => Nat.le_trans hszf (hnw k hk)
    clear h1 h2 hbz hz hN2 ho hx hnw hxf HS17 HS16 hszf hbb16
    refine N_one (i := 16) (by rw [hops, List.getElem?_toArray]; rfl) (by rw [hops]; kernel_rfl) (by first | rfl | (rw [hops]; rfl)) ?_
    intro K hK
    go_wp2_with fail
    refine ⟨fun h => absurd h (by decide), ?_⟩
    try rw [← hops]
    refine N_done (by rw [hops]; kernel_rfl) ?_
    clear hops ops
    go_wp2_with fail
    obtain ⟨h1, h2, h3⟩ := HF.out
    obtain ⟨r0, r1, r2, r3⟩ := four_cells h1
    generalize (((v17.setCell ⟨N + 2, 0, none⟩ (uv cm)).setCell ⟨N + 2, 1, none⟩ (uv pa)).setCell ⟨N + 2, 2, none⟩ (uv pb)).setCell ⟨N + 2, 3, none⟩ (.slice ca R.length cc) = W at *
    exact bodyPost_ret (v := .agg #[uv cm, uv pa, uv pb, .slice ca R.length cc]) (by simp [results, Tryz.results55, go_sem, r0, r1, r2, r3]) rfl ⟨_, rfl, _, rfl, h3, h2, HNW.out⟩
end Go.Proofs.YtcikjcjfcanloaaGreat
namespace Go.Proofs.YtcikjcjfcanloaaGreat
open Go.RowKit
attribute [local irreducible] perm fAdd fMul fPow fSub fNeg fRed hashU drawOf nextState cipSeal
theorem wBalance_any {w : World} {W d : Nat} {seed : UInt64} {l : List BlkT} {G : Nat → Prop} (h : WalAt w W d seed l G) (hok : okAll d l) :
    Calls Tryz.prog 57 #[.pointer (some ⟨W, 0, none⟩)] w fun e w' => e = .returned (uv (balW (stW seed l).notes)) ∧ Ext w w' := by
  have hd := depth_le h
  obtain ⟨r, ps, ob, LB, nv, pv, FO, FT, h1, h2, rfl⟩ := h
  have hL := fitsAll_stW ((okAll_fits (seed := seed)).2 hok)
  have hp := pow12 hd
  have hn := (stW_ok seed l).n
  simp only at hn
  exact walBalance_any h1 (by omega)
theorem wHeight_any {w : World} {W d : Nat} {seed : UInt64} {l : List BlkT} {G : Nat → Prop} (h : WalAt w W d seed l G) :
    Calls Tryz.prog 29 #[.pointer (some ⟨W, 0, none⟩)] w fun e w' => e = .returned (.int .i64 (l.length : Int)) ∧ Ext w w' := by
  obtain ⟨r, ps, ob, LB, nv, pv, FO, FT, h1, h2, rfl⟩ := h
  have hpl : ps.length = l.length := by rw [← psW_length seed l, ← h2, List.length_map]
  have := walHeight_any h1
  rwa [hpl] at this
theorem wNotes_any {w : World} {W d : Nat} {seed : UInt64} {l : List BlkT} {G : Nat → Prop} (h : WalAt w W d seed l G) (hok : okAll d l) :
    Calls Tryz.prog 23 #[.pointer (some ⟨W, 0, none⟩)] w fun e w' => ∃ u, e = .returned u ∧ OwnN w' u (stW seed l).notes ∧ Ext w w' ∧ ∀ k, blk u = some k → w.heap.size ≤ k := by
  have hd := depth_le h
  obtain ⟨r, ps, ob, LB, nv, pv, FO, FT, h1, h2, rfl⟩ := h
  have hL := fitsAll_stW ((okAll_fits (seed := seed)).2 hok)
  have hp := pow12 hd
  have hn := (stW_ok seed l).n
  simp only at hn
  exact walNotes_any h1 (by omega)
theorem wEncode_any {w : World} {W d : Nat} {seed : UInt64} {l : List BlkT} {G : Nat → Prop} (h : WalAt w W d seed l G) (hok : okAll d l) :
    Calls Tryz.prog 39 #[.pointer (some ⟨W, 0, none⟩)] w (NewB w (walB l.length (stW seed l).leaves (stW seed l).notes)) := by
  have hd := depth_le h
  obtain ⟨r, ps, ob, LB, nv, pv, FO, FT, h1, h2, rfl⟩ := h
  have hpl : ps.length = l.length := by rw [← psW_length seed l, ← h2, List.length_map]
  have hL := fitsAll_stW ((okAll_fits (seed := seed)).2 hok)
  have hp := pow12 hd
  have hn := (stW_ok seed l).n
  simp only at hn
  have := walEncode_any h1 (by omega) (by omega)
  rwa [hpl] at this
theorem x_red7 : fRed 7 = 7 := by decide +kernel
theorem x_chk1 : checkW 3 [] xB1 = 0 := by
  unfold checkW fitsW
  rw [if_pos (by decide), if_pos (by show (decide (txV xT1 = 0) && true) = true; rw [x_ok1]; rfl), if_neg (by decide)]
theorem x_chk2 : checkW 3 [xB1] xB2 = 0 := by
  unfold checkW fitsW
  rw [if_pos (by decide), if_pos (by show (decide (txV xT2 = 0) && true) = true; rw [x_ok2]; rfl), if_neg (by decide)]
theorem x_all1 : okAll 3 [xB1] := okAll_snoc (okAll_nil 3) x_chk1
theorem x_all2 : okAll 3 [xB1, xB2] := okAll_snoc (l := [xB1]) x_all1 x_chk2
theorem x_bal1 : balW (stW 7 [xB1]).notes = 5 := by rw [x_st1]; rfl
theorem x_bal2 : balW (stW 7 [xB1, xB2]).notes = 0 := by rw [x_st2]; rfl
theorem x_out : hashU 2 [5, xOw, xRho, 8] = xC := x_com
theorem x_seal : (if cipE (envKey (pShared ⟨xA.a, xA.b⟩ 11) (pPublic 11)) 0 [5, 8] then cipSeal (envKey (pShared ⟨xA.a, xA.b⟩ 11) (pPublic 11)) 0 [5, 8] else []) = xCi := by
  rw [x_pub, show (⟨xA.a, xA.b⟩ : E2) = xA from rfl, x_sh, x_key, if_pos (by decide +kernel)]
  exact x_ci
theorem one_note {w : World} {v : Value} {x : OwT} (h : OwnN w v [x]) : ∃ g c, v = .slice (some ⟨g, 0, none⟩) 1 c ∧ ∀ j u, (owCells x)[j]? = some u → w.cell? ⟨g, j, none⟩ = some u := by
  obtain ⟨a, c, rfl, -⟩ := ownsRow_rd h
  obtain ⟨g, rfl⟩ := own_shape h (by simp)
  refine ⟨g, c, rfl, fun j u hu => ?_⟩
  have := h.cells (g := g) rfl j u (by simpa using hu)
  simpa [Addr.add_lit] using this
theorem x_ts0 : TSm xT0 := ⟨by decide, by decide, (fun o h => by cases h), by decide⟩
theorem x_ts1 : TSm xT1 := ⟨by decide, by decide, (fun o h => by obtain rfl := List.mem_singleton.1 h; decide), by decide⟩
theorem x_ts2 : TSm xT2 := ⟨by decide, by decide, (fun o h => by cases h), by decide⟩
theorem x_rd0 (u : World) : RdT u xT0 (.slice none 0 0) (.slice none 0 0) (.slice none 0 0) := ⟨(RdC.nil u).weak, ⟨[], rfl, (RdC.nil u).weak, fun x h => by cases h⟩, (RdC.nil u).weak⟩
theorem x_rd1 {u : World} {G : Nat → Prop} {g OS cc : Nat} {ca : Option Addr} {T T' : TypeId} (h1 : u.heap[g]? = some (.cells #[.int .u64 0, .slice none 0 0, .slice (some ⟨OS, 0, none⟩) 1 1, .int .u64 5, .int .u64 0, .int .u64 0, .int .u64 3, .int .u64 0, .int .i64 9, .slice none 0 0] T (0, 0))) (h2 : u.heap[OS]? = some (.cells #[uv xC, uv xP.a, uv xP.b, .slice ca 3 cc] T' (0, 0)))
    (h3 : RdU' u (.slice ca 3 cc) xCi) (ng : ¬ G g) (no : ¬ G OS) (nc : ∀ k, blk (.slice ca 3 cc) = some k → ¬ G k) : RdTs (hole G u) (.slice (some ⟨g, 0, none⟩) 1 1) xB1.txs := by
  refine ⟨[(xT1, .slice none 0 0, .slice (some ⟨OS, 0, none⟩) 1 1, .slice none 0 0)], rfl, rows_block (w := hole G u) (by rw [hole_block ng]; exact h1), fun x hx => ?_⟩
  obtain rfl := List.mem_singleton.1 hx
  refine ⟨(RdC.nil _).weak, ⟨[(xO, .slice ca 3 cc)], rfl, rows_block (w := hole G u) (by rw [hole_block no]; exact h2), fun y hy => ?_⟩, (RdC.nil _).weak⟩
  obtain rfl := List.mem_singleton.1 hy
  exact RdC'.hole h3 nc
theorem x_rd2 {u : World} {G : Nat → Prop} {g MS : Nat} {T T' : TypeId} (h1 : u.heap[g]? = some (.cells #[.int .u64 0, .slice (some ⟨MS, 0, none⟩) 1 1, .slice none 0 0, .int .u64 0, .int .u64 0, .int .u64 0, .int .u64 0, .int .u64 0, .int .i64 9, .slice none 0 0] T (0, 0))) (h2 : u.heap[MS]? = some (.cells #[uv xMk] T' (0, 0))) (ng : ¬ G g) (no : ¬ G MS) : RdTs (hole G u) (.slice (some ⟨g, 0, none⟩) 1 1) xB2.txs := by
  refine ⟨[(xT2, .slice (some ⟨MS, 0, none⟩) 1 1, .slice none 0 0, .slice none 0 0)], rfl, rows_block (w := hole G u) (by rw [hole_block ng]; exact h1), fun x hx => ?_⟩
  obtain rfl := List.mem_singleton.1 hx
  exact ⟨rows_block (w := hole G u) (by rw [hole_block no]; exact h2), ⟨[], rfl, (RdC.nil _).weak, fun x h => by cases h⟩, (RdC.nil _).weak⟩
set_option maxRecDepth 100000 in
set_option maxHeartbeats 25600000 in
theorem awake49_any (w : World) : Calls Tryz.prog 18 #[] w fun e w' => e = .returned (.bool true) ∧ Ext w w' := by
  have HRL : Hid (∀ u, Calls Tryz.prog 41 #[.int .i64 3] u fun e w' => e = .returned (rlVal (rl49 3)) ∧ Ext u w') := hid (rules49_any 3)
  have HNW : Hid (∀ u ob FO, OrcAt u ob realM FO → Calls Tryz.prog 27 #[.pointer (some ⟨ob, 0, none⟩), rlVal (rl49 3), .int .u64 7] u fun e w' => ∃ W G, e = .returned (.tuple #[.pointer (some ⟨W, 0, none⟩), .int .i64 0]) ∧ Ext u w' ∧ WalAt w' W 3 7 [] G ∧ ∀ i, G i → u.heap.size ≤ i) := hid fun u ob FO ho => by
    have := walNew_any ho (rl49 3) 3 rfl (by omega) (by omega) (by show (2 : Int) ≠ 3; omega) 7 (txRules49_any 3 (by omega) (by omega))
    rw [x_red7] at this
    exact this
  have HAD : Hid (∀ u, Calls Tryz.prog 54 #[.int .u64 7, .int .i64 2] u fun e w' => e = .returned (.tuple #[.agg #[.int .i64 2, uv xOw, uv xA.a, uv xA.b], .int .i64 0]) ∧ Ext u w') := hid fun u => by
    have := rAddress_any 7 2 (by omega) u
    rw [show kView 7 ((2 : Nat) : Int) = xV2 from x_v2, x_adr, x_sp, show kOwner xSp ((2 : Nat) : Int) = xOw from x_ow] at this
    exact this
  have RHO : Hid (∀ u, Calls Tryz.prog 56 #[.agg #[.int .u64 0, .slice none 0 0, .slice none 0 0, .int .u64 5, .int .u64 0, .int .u64 0, .int .u64 3, .int .u64 0, .int .i64 9, .slice none 0 0], .int .i64 0] u fun e w' => e = .returned (uv xRho) ∧ Ext u w') := hid fun u => by
    have := rRho_any xT0 (.slice none 0 0) (.slice none 0 0) (.slice none 0 0) 0 u (x_rd0 u) x_ts0 (by omega)
    rw [x_rho0] at this
    exact this
  have OUT : Hid (∀ u, Calls Tryz.prog 55 #[.agg #[.int .i64 2, uv xOw, uv xA.a, uv xA.b], .agg #[.int .u64 5, uv xOw, uv xRho, .int .u64 8], .int .u64 11] u fun e w' => ∃ cv, e = .returned (.agg #[uv xC, uv xP.a, uv xP.b, cv]) ∧ NewU u xCi (.returned cv) w') := hid fun u => by
    have := rOutput_any 2 xOw xA.a xA.b 5 xOw xRho 8 11 u
    rw [x_out, x_seal, x_pub] at this
    exact this
  go_enter Tryz.func18, Tryz.ntmps18
  go_wp2_with fail
  refine (Real_any w).mono ?_
  rintro e w1 ⟨ob, FO, rfl, ho, hx, -⟩
  have HO := hid ho
  have X1 := hid hx
  clear ho hx
  go_wp2_with fail
  refine (HRL.out _).mono ?_
  rintro e w2 ⟨rfl, hx⟩
  have HO2 := hid (HO.out.ext hx)
  have X2 := hid (X1.out.trans hx)
  clear hx HRL HO
  go_wp2_with fail
  refine (HNW.out _ _ _ HO2.out).mono ?_
  rintro e w3 ⟨W, G, rfl, hx, hw, hg⟩
  have X3 := hid (X2.out.trans hx)
  have HWA := hid (And.intro hw (fun i hi => Nat.le_trans X2.out.size (hg i hi)))
  clear hw hg hx HNW HO2
  go_wp2_with fail
  refine (HAD.out _).mono ?_
  rintro e w4 ⟨rfl, hx⟩
  have X4 := hid hx
  clear hx HAD
  obtain ⟨AB, hAB⟩ : ∃ AB, AB = w4.heap.size := ⟨_, rfl⟩
  obtain ⟨w5, hw5⟩ : ∃ w5, w5 = (w4.alloc (.cells #[.int .i64 2, uv xOw, uv xA.a, uv xA.b] 96)).alloc (.cells #[.int .u64 0, .slice none 0 0, .slice none 0 0, .int .u64 5, .int .u64 0, .int .u64 0, .int .u64 3, .int .u64 0, .int .i64 9, .slice none 0 0] 101) := ⟨_, rfl⟩
  have hx5 : Ext w4 w5 := by rw [hw5]; exact ((Ext.refl w4).alloc _).alloc _
  have hab : w5.heap[AB]? = some (.cells #[.int .i64 2, uv xOw, uv xA.a, uv xA.b] 96 (0, 0)) := by rw [hw5, hAB]; exact heap_alloc_some (heap_new _ _)
  have htb : w5.heap[AB + 1]? = some (.cells #[.int .u64 0, .slice none 0 0, .slice none 0 0, .int .u64 5, .int .u64 0, .int .u64 0, .int .u64 3, .int .u64 0, .int .i64 9, .slice none 0 0] 101 (0, 0)) := by
    rw [hw5, hAB]
    have := heap_new (w4.alloc (.cells #[.int .i64 2, uv xOw, uv xA.a, uv xA.b] 96)) (.cells #[.int .u64 0, .slice none 0 0, .slice none 0 0, .int .u64 5, .int .u64 0, .int .u64 0, .int .u64 3, .int .u64 0, .int .i64 9, .slice none 0 0] 101)
    simpa using this
  have HW5 := hid hw5
  have X5 := hid (X4.out.trans hx5)
  have HAB := hid (And.intro hab htb)
  have X45 := hid hx5
  have HABs : Hid (w4.heap.size ≤ AB) := hid (by omega)
  have HGA : Hid (∀ i, G i → i < AB) := hid fun i hi => by have := HWA.out.1.lt i hi; have := X4.out.size; omega
  clear hw5 hx5 hab htb
  go_upto_region 6 with fail
  rw [← HW5.out, ← hAB]
  clear hAB HW5
  have HC6 : Hid (∀ u, Ext w5 u → ((u.cell? ⟨AB, 0, none⟩ = some (.int .i64 2) ∧ u.cell? ⟨AB, 1, none⟩ = some (uv xOw) ∧ u.cell? ⟨AB, 2, none⟩ = some (uv xA.a) ∧ u.cell? ⟨AB, 3, none⟩ = some (uv xA.b)) ∧ (u.cell? ⟨AB + 1, 0, none⟩ = some (.int .u64 0) ∧ u.cell? ⟨AB + 1, 1, none⟩ = some (.slice none 0 0) ∧ u.cell? ⟨AB + 1, 2, none⟩ = some (.slice none 0 0) ∧ u.cell? ⟨AB + 1, 3, none⟩ = some (.int .u64 5) ∧ u.cell? ⟨AB + 1, 4, none⟩ = some (.int .u64 0) ∧ u.cell? ⟨AB + 1, 5, none⟩ = some (.int .u64 0) ∧ u.cell? ⟨AB + 1, 6, none⟩ = some (.int .u64 3) ∧ u.cell? ⟨AB + 1, 7, none⟩ = some (.int .u64 0) ∧ u.cell? ⟨AB + 1, 8, none⟩ = some (.int .i64 9) ∧ u.cell? ⟨AB + 1, 9, none⟩ = some (.slice none 0 0))) ∧ Ext w5 u) := hid fun u k => ⟨⟨four_cells (k.heap_some HAB.out.1), ten_cells (k.heap_some HAB.out.2)⟩, k⟩
  refine wp_region_T (fun u => ((u.cell? ⟨AB, 0, none⟩ = some (.int .i64 2) ∧ u.cell? ⟨AB, 1, none⟩ = some (uv xOw) ∧ u.cell? ⟨AB, 2, none⟩ = some (uv xA.a) ∧ u.cell? ⟨AB, 3, none⟩ = some (uv xA.b)) ∧ (u.cell? ⟨AB + 1, 0, none⟩ = some (.int .u64 0) ∧ u.cell? ⟨AB + 1, 1, none⟩ = some (.slice none 0 0) ∧ u.cell? ⟨AB + 1, 2, none⟩ = some (.slice none 0 0) ∧ u.cell? ⟨AB + 1, 3, none⟩ = some (.int .u64 5) ∧ u.cell? ⟨AB + 1, 4, none⟩ = some (.int .u64 0) ∧ u.cell? ⟨AB + 1, 5, none⟩ = some (.int .u64 0) ∧ u.cell? ⟨AB + 1, 6, none⟩ = some (.int .u64 3) ∧ u.cell? ⟨AB + 1, 7, none⟩ = some (.int .u64 0) ∧ u.cell? ⟨AB + 1, 8, none⟩ = some (.int .i64 9) ∧ u.cell? ⟨AB + 1, 9, none⟩ = some (.slice none 0 0))) ∧ Ext w5 u) 6 [(0, true), (1, true), (2, true), (3, true), (4, false), (5, true), (6, false), (7, false), (8, false), (9, false)] (by kernel_rfl) (by kernel_rfl) (by intro c a d v w h; cases d <;> exact h) ?_
  intro ops hops
  have HSS := HC6.out _ (Ext.refl w5).drew
  iterate 4
    refine wpT_take (v := ?_) (by rw [hops, List.getElem?_toArray]; rfl) (by first | rfl | (rw [hops]; rfl)) ?_ HSS ?_
    rotate_left
    · intro v h; go_simp; with_reducible rfl
    simp only [Act.put, List.getElem_toArray, List.getElem_cons_zero, List.getElem_cons_succ, List.setIfInBounds_toArray, List.set_cons_zero, List.set_cons_succ]
  refine wpT_step (by rw [hops, List.getElem?_toArray]; rfl) (by first | rfl | (rw [hops]; rfl)) ?_
  intro K hK
  go_wp2_with fail
  refine (RHO.out _).mono ?_
  rintro e w6 ⟨rfl, hx⟩
  have HS6 := HC6.out w6 (HSS.2.trans hx)
  clear hx HSS RHO
  refine hK _ _ ⟨fun _ => HS6, ?_⟩
  clear hK K
  iterate 1
    refine wpT_take (v := ?_) (by rw [hops, List.getElem?_toArray]; rfl) (by first | rfl | (rw [hops]; rfl)) ?_ HS6 ?_
    rotate_left
    · intro v h; go_simp; with_reducible rfl
    simp only [Act.put, List.getElem_toArray, List.getElem_cons_zero, List.getElem_cons_succ, List.setIfInBounds_toArray, List.set_cons_zero, List.set_cons_succ]
  refine wpT_step (by rw [hops, List.getElem?_toArray]; rfl) (by first | rfl | (rw [hops]; rfl)) ?_
  intro K hK
  go_wp2_with fail
  refine (OUT.out _).mono ?_
  rintro e w7 ⟨cv, rfl, cv', hcv, ho, hx, hnw⟩
  injection hcv with hcv
  subst hcv
  obtain ⟨ca, cc, rfl, -⟩ := ownsRow_rd ho
  have X7 := hid (HS6.2.trans hx)
  have CO := hid ho
  have HNW7 : Hid (∀ k, blk (.slice ca xCi.length cc) = some k → AB + 1 < k) := hid fun k hk => by
    have h1 := hnw k hk
    have h2 := HS6.2.size
    have h3 := heap_lt HAB.out.2
    omega
  clear hx ho hnw HS6 OUT
  refine hK _ _ ⟨fun h => absurd h (by decide), ?_⟩
  clear hK K
  obtain ⟨OS, hOS⟩ : ∃ OS, OS = w7.heap.size := ⟨_, rfl⟩
  have hob := heap_new w7 (.cells #[uv xC, uv xP.a, uv xP.b, .slice ca xCi.length cc] 103)
  have hx8 := (Ext.refl w7).alloc (.cells #[uv xC, uv xP.a, uv xP.b, .slice ca xCi.length cc] 103)
  have htb := (X7.out.trans hx8).heap_some HAB.out.2
  obtain ⟨t0, t1, t2, t3, t4, t5, t6, t7, t8, t9⟩ := ten_cells htb
  have fz := frozen_of htb
  refine wpT_step (by rw [hops, List.getElem?_toArray]; rfl) (by first | rfl | (rw [hops]; rfl)) ?_
  intro K hK
  go_wp2_with fail
  try (with_reducible refine ⟨fun h => absurd h (by decide), ?_⟩)
  try rw [← hops]
  refine wpT_step (by rw [hops, List.getElem?_toArray]; rfl) (by first | rfl | (rw [hops]; rfl)) ?_
  intro K hK
  go_wp2_with fail
  try (with_reducible refine ⟨fun h => absurd h (by decide), ?_⟩)
  try rw [← hops]
  refine wpT_step (by rw [hops, List.getElem?_toArray]; rfl) (by first | rfl | (rw [hops]; rfl)) ?_
  intro K hK
  go_wp2_with fail
  try (with_reducible refine ⟨fun h => absurd h (by decide), ?_⟩)
  try rw [wpT_nil]
  try clear hops ops
  rw [← hOS] at hob ⊢
  have hk8 : Kp (fun j => j = AB + 1) (w7.alloc (.cells #[uv xC, uv xP.a, uv xP.b, .slice ca xCi.length cc] 103)) ((w7.alloc (.cells #[uv xC, uv xP.a, uv xP.b, .slice ca xCi.length cc] 103)).setCell ⟨AB + 1, 2, none⟩ (.slice (some ⟨OS, 0, none⟩) 1 1)) := (Kp.refl (fun j => j = AB + 1) _).setCell (p := ⟨AB + 1, 2, none⟩) (.inl rfl) _
  have ht8 := heap_setCell_same htb 2 (.slice (some ⟨OS, 0, none⟩) 1 1)
  have hsz7 := X7.out.size
  have hab5 := heap_lt HAB.out.2
  have ho8 := hk8.heap_some (by omega) hob
  have hc8 := ownsRow_kp (ownsRow_ext CO.out hx8) hk8 (fun b hb e => by
    have h1 := ownsRow_lt CO.out hb
    have h2 := HNW7.out b hb
    omega)
  generalize (w7.alloc (.cells #[uv xC, uv xP.a, uv xP.b, .slice ca xCi.length cc] 103)).setCell ⟨AB + 1, 2, none⟩ (.slice (some ⟨OS, 0, none⟩) 1 1) = w8 at *
  have hx48 : Ext w4 w8 := ((X45.out.trans X7.out).trans hx8).kp hk8 (fun j e => by have := HABs.out; omega)
  have X8 := hid (X3.out.trans (X4.out.trans hx48))
  have W8 := hid ((HWA.out.1.ext X4.out).ext hx48)
  have T8 : Hid (w8.heap[AB + 1]? = some (.cells #[.int .u64 0, .slice none 0 0, .slice (some ⟨OS, 0, none⟩) 1 1, .int .u64 5, .int .u64 0, .int .u64 0, .int .u64 3, .int .u64 0, .int .i64 9, .slice none 0 0] 101 (0, 0))) := hid ht8
  have O8 := hid ho8
  have C8 : Hid (RdU' w8 (.slice ca 3 cc) xCi) := hid (ownsRow_rd hc8).weak
  have HNC : Hid (∀ k, blk (.slice ca 3 cc) = some k → ¬ G k) := hid fun k hk hg => by
    have h1 := HNW7.out k hk
    have h2 := HGA.out k hg
    omega
  have HGO : Hid (¬ G OS ∧ OS < w8.heap.size) := hid ⟨fun hg => by have h2 := HGA.out OS hg; omega, heap_lt ho8⟩
  clear hk8 ht8 ho8 hc8 hob hx8 htb hOS hsz7 hab5 t0 t1 t2 t3 t4 t5 t6 t7 t8 t9 fz CO HNW7 hx48
  have APP : Hid (Calls Tryz.prog 42 #[.pointer (some ⟨W, 0, none⟩), .agg #[.int .u64 0, .int .i64 1, .int .u64 0, .int .u64 0, .int .u64 0, .slice (some ⟨w8.heap.size, 0, none⟩) 1 1]] (w8.alloc (.cells #[.int .u64 0, .slice none 0 0, .slice (some ⟨OS, 0, none⟩) 1 1, .int .u64 5, .int .u64 0, .int .u64 0, .int .u64 3, .int .u64 0, .int .i64 9, .slice none 0 0] 101)) fun e w' => e = .returned (.int .i64 0) ∧ WalTo (w8.alloc (.cells #[.int .u64 0, .slice none 0 0, .slice (some ⟨OS, 0, none⟩) 1 1, .int .u64 5, .int .u64 0, .int .u64 0, .int .u64 3, .int .u64 0, .int .i64 9, .slice none 0 0] 101)) W 3 7 [xB1] G w') := hid (by
    have hx := (Ext.refl w8).alloc (.cells #[.int .u64 0, .slice none 0 0, .slice (some ⟨OS, 0, none⟩) 1 1, .int .u64 5, .int .u64 0, .int .u64 0, .int .u64 3, .int .u64 0, .int .i64 9, .slice none 0 0] 101)
    have := wApply_sub (W8.out.ext hx) (by decide) (okAll_nil 3) (wB := hole G _) (fun u k => hole_sub k) xB1 (.slice (some ⟨w8.heap.size, 0, none⟩) 1 1) (x_rd1 (heap_new w8 _) (hx.heap_some O8.out) (C8.out.ext hx) (fun hg => by have := W8.out.lt _ hg; omega) HGO.out.1 HNC.out) (by decide) (fun t ht => by obtain rfl := List.mem_singleton.1 ht; exact x_ts1)
    rw [x_chk1, if_pos rfl] at this
    exact this)
  obtain ⟨t0, t1, t2, t3, t4, t5, t6, t7, t8, t9⟩ := ten_cells T8.out
  go_wp2_with fail
  refine (APP.out).mono ?_
  rintro e w9 ⟨rfl, G9, hw9, hk9, hg9⟩
  have W9 := hid hw9
  have X9 := hid ((X8.out.alloc (.cells #[.int .u64 0, .slice none 0 0, .slice (some ⟨OS, 0, none⟩) 1 1, .int .u64 5, .int .u64 0, .int .u64 0, .int .u64 3, .int .u64 0, .int .i64 9, .slice none 0 0] 101)).kp hk9 HWA.out.2)
  have HG9N : Hid (∀ i, G9 i → w.heap.size ≤ i) := hid fun i hi => by
    rcases hg9 i hi with e | e
    · exact HWA.out.2 i e
    · have h1 := X8.out.size
      have h2 := ((Ext.refl w8).alloc (.cells #[.int .u64 0, .slice none 0 0, .slice (some ⟨OS, 0, none⟩) 1 1, .int .u64 5, .int .u64 0, .int .u64 0, .int .u64 3, .int .u64 0, .int .i64 9, .slice none 0 0] 101)).size
      omega
  clear hw9 hk9 hg9 APP t0 t1 t2 t3 t4 t5 t6 t7 t8 t9
  have BL1 : Hid (∀ u, Ext w9 u → Calls Tryz.prog 57 #[.pointer (some ⟨W, 0, none⟩)] u fun e w' => e = .returned (.int .u64 5) ∧ Ext u w') := hid fun u k => by
    have := wBalance_any (W9.out.ext k) x_all1
    rw [x_bal1] at this
    exact this
  have NT1 : Hid (∀ u, Ext w9 u → Calls Tryz.prog 23 #[.pointer (some ⟨W, 0, none⟩)] u fun e w' => ∃ v, e = .returned v ∧ OwnN w' v [⟨xN, 2, 0, 1, 0⟩] ∧ Ext u w' ∧ ∀ k, blk v = some k → u.heap.size ≤ k) := hid fun u k => by
    have := wNotes_any (W9.out.ext k) x_all1
    rw [x_st1] at this
    exact this
  go_wp2_with fail
  refine (BL1.out _ (Ext.refl w9)).mono ?_
  rintro e y1 ⟨rfl, hx⟩
  have Y1 := hid hx
  clear hx BL1
  go_wp2_with fail
  refine (NT1.out _ Y1.out).mono ?_
  rintro e y2 ⟨v2, rfl, hn, hx, -⟩
  obtain ⟨g2, c2, rfl, hcl⟩ := one_note hn
  have Y2 := hid (Y1.out.trans hx)
  clear hx hn hcl
  go_wp2_with fail
  refine (NT1.out _ Y2.out).mono ?_
  rintro e y3 ⟨v3, rfl, hn, hx, -⟩
  obtain ⟨g3, c3, rfl, hcl⟩ := one_note hn
  have Y3 := hid (Y2.out.trans hx)
  have f4 : y3.cell? ⟨g3, 4, none⟩ = some (.int .i64 2) := hcl 4 _ rfl
  clear hx hn hcl
  go_wp2_with fail
  have SPE : Hid (∀ u, Calls Tryz.prog 21 #[.int .u64 7] u fun e w' => e = .returned (uv xSp) ∧ Ext u w') := hid fun u => by
    have := rkSpend_any 7 u
    rw [x_sp] at this
    exact this
  have MRK : Hid (∀ u, Calls Tryz.prog 58 #[uv xSp, uv xRho] u fun e w' => e = .returned (uv xMk) ∧ Ext u w') := hid fun u => by
    have := rMark_any xSp xRho u
    rw [x_mk] at this
    exact this
  refine (SPE.out _).mono ?_
  rintro e y4 ⟨rfl, hx⟩
  have Y4 := hid (Y3.out.trans hx)
  clear hx SPE f4
  go_wp2_with fail
  refine (NT1.out _ Y4.out).mono ?_
  rintro e y5 ⟨v5, rfl, hn, hx, -⟩
  obtain ⟨g5, c5, rfl, hcl⟩ := one_note hn
  have Y5 := hid (Y4.out.trans hx)
  have f2 : y5.cell? ⟨g5, 2, none⟩ = some (uv xRho) := hcl 2 _ rfl
  clear hx hn hcl
  go_wp2_with fail
  refine (MRK.out _).mono ?_
  rintro e y6 ⟨rfl, hx⟩
  have Y6 := hid (Y5.out.trans hx)
  clear hx MRK f2 NT1
  obtain ⟨MS, hMS⟩ : ∃ MS, MS = y6.heap.size := ⟨_, rfl⟩
  have hmb := heap_new y6 (.cells #[uv xMk] 22)
  have hxm := (Ext.refl y6).alloc (.cells #[uv xMk] 22)
  rw [← hMS] at hmb
  have hG9 := W9.out.lt
  have hy6 := Y6.out.size
  have APP : Hid (Calls Tryz.prog 42 #[.pointer (some ⟨W, 0, none⟩), .agg #[.int .u64 0, .int .i64 2, .int .u64 0, .int .u64 0, .int .u64 0, .slice (some ⟨y6.heap.size + 1, 0, none⟩) 1 1]] ((y6.alloc (.cells #[uv xMk] 22)).alloc (.cells #[.int .u64 0, .slice (some ⟨MS, 0, none⟩) 1 1, .slice none 0 0, .int .u64 0, .int .u64 0, .int .u64 0, .int .u64 0, .int .u64 0, .int .i64 9, .slice none 0 0] 101)) fun e w' => e = .returned (.int .i64 0) ∧ WalTo ((y6.alloc (.cells #[uv xMk] 22)).alloc (.cells #[.int .u64 0, .slice (some ⟨MS, 0, none⟩) 1 1, .slice none 0 0, .int .u64 0, .int .u64 0, .int .u64 0, .int .u64 0, .int .u64 0, .int .i64 9, .slice none 0 0] 101)) W 3 7 [xB1, xB2] G9 w') := hid (by
    have hx := (Ext.refl (y6.alloc (.cells #[uv xMk] 22))).alloc (.cells #[.int .u64 0, .slice (some ⟨MS, 0, none⟩) 1 1, .slice none 0 0, .int .u64 0, .int .u64 0, .int .u64 0, .int .u64 0, .int .u64 0, .int .i64 9, .slice none 0 0] 101)
    have := wApply_sub (W9.out.ext (Y6.out.trans (hxm.trans hx))) (by decide) x_all1 (wB := hole G9 _) (fun u k => hole_sub k) xB2 (.slice (some ⟨(y6.alloc (.cells #[uv xMk] 22)).heap.size, 0, none⟩) 1 1) (x_rd2 (heap_new _ _) (hx.heap_some hmb) (fun hg => by have := hG9 _ hg; have := hxm.size; omega) (fun hg => by have := hG9 _ hg; omega)) (by decide) (fun t ht => by obtain rfl := List.mem_singleton.1 ht; exact x_ts2)
    rw [x_chk2, if_pos rfl] at this
    rw [show (y6.alloc (.cells #[uv xMk] 22)).heap.size = y6.heap.size + 1 from World.size_alloc _ _] at this
    exact this)
  subst hMS
  clear hG9 hy6
  go_wp2_with fail
  refine (APP.out).mono ?_
  rintro e z1 ⟨rfl, G2, hw, hk, -⟩
  have W2 := hid hw
  have X10 : Hid (Ext w z1) := hid (((X9.out.trans (Y6.out.trans hxm)).alloc _).kp hk (fun i hi => HG9N.out i hi))
  clear hw hk APP hmb hxm
  have BL2 : Hid (∀ u, Ext z1 u → Calls Tryz.prog 57 #[.pointer (some ⟨W, 0, none⟩)] u fun e w' => e = .returned (.int .u64 0) ∧ Ext u w') := hid fun u k => by
    have := wBalance_any (W2.out.ext k) x_all2
    rw [x_bal2] at this
    exact this
  have NT2 : Hid (∀ u, Ext z1 u → Calls Tryz.prog 23 #[.pointer (some ⟨W, 0, none⟩)] u fun e w' => ∃ v, e = .returned v ∧ OwnN w' v [⟨xN, 2, 0, 1, 2⟩] ∧ Ext u w' ∧ ∀ k, blk v = some k → u.heap.size ≤ k) := hid fun u k => by
    have := wNotes_any (W2.out.ext k) x_all2
    rw [x_st2] at this
    exact this
  have HGT : Hid (∀ u, Ext z1 u → Calls Tryz.prog 29 #[.pointer (some ⟨W, 0, none⟩)] u fun e w' => e = .returned (.int .i64 2) ∧ Ext u w') := hid fun u k => wHeight_any (W2.out.ext k)
  go_wp2_with fail
  refine (BL2.out _ (Ext.refl z1)).mono ?_
  rintro e z2 ⟨rfl, hx⟩
  have Z2 := hid hx
  clear hx BL2
  go_wp2_with fail
  refine (NT2.out _ Z2.out).mono ?_
  rintro e z3 ⟨v7, rfl, hn, hx, -⟩
  obtain ⟨g7, c7, rfl, hcl⟩ := one_note hn
  have Z3 := hid (Z2.out.trans hx)
  clear hx hn hcl
  go_wp2_with fail
  refine (NT2.out _ Z3.out).mono ?_
  rintro e z4 ⟨v8, rfl, hn, hx, -⟩
  obtain ⟨g8, c8, rfl, hcl⟩ := one_note hn
  have Z4 := hid (Z3.out.trans hx)
  have f7 : z4.cell? ⟨g8, 7, none⟩ = some (.int .i64 2) := hcl 7 _ rfl
  clear hx hn hcl
  go_wp2_with fail
  refine (HGT.out _ Z4.out).mono ?_
  rintro e z5 ⟨rfl, hx⟩
  have Z5 := hid (Z4.out.trans hx)
  clear hx HGT f7
  go_wp2_with fail
  go_ret
  exact ⟨rfl, X10.out.trans Z5.out⟩
end Go.Proofs.YtcikjcjfcanloaaGreat
