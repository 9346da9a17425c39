/- The law TopIdentifies: the walk. (Written by wip/tools/gen_topi.py.) -/
import Derived.Test.YtkdnnekdldomeaaBlkC
set_option linter.unusedSimpArgs false
namespace Go.Proofs.Ytkdnnekdldomeaa
open Go.RowKit
attribute [local irreducible] perm fAdd fMul fPow fSub fNeg fRed hashU
set_option maxRecDepth 100000 in
set_option maxHeartbeats 6400000 in
theorem topI_any (HW : ∀ w, Calls Try.prog 5 #[] w fun e w' => e = .returned (.bool true) ∧ Ext w w') (a b : BlkT) (av bv : Value) (w : World) (ha : RdTs w av a.txs) (hb : RdTs w bv b.txs) :
    Calls Try.prog 3 #[blkVal a av, blkVal b bv] w fun e w' => e = .returned (.bool true) ∧ Ext w w' := by
  obtain ⟨sa, sc, rfl, -⟩ := ha.shape
  obtain ⟨ta, tc, rfl, -⟩ := hb.shape
  have SA : Hid (∀ v, Ext w v → Calls Try.prog 6 #[blkVal a (.slice sa a.txs.length sc)] v fun e w' => e = .returned (.bool (smBlk a)) ∧ Ext v w') := hid fun v k => smBlk_any a _ v (ha.ext k)
  have SB : Hid (∀ v, Ext w v → Calls Try.prog 6 #[blkVal b (.slice ta b.txs.length tc)] v fun e w' => e = .returned (.bool (smBlk b)) ∧ Ext v w') := hid fun v k => smBlk_any b _ v (hb.ext k)
  have MA : Hid (smBlk a = true → BSm a) := hid fun h => (smBlk_sm h).1
  have MB : Hid (smBlk b = true → BSm b) := hid fun h => (smBlk_sm h).1
  generalize smBlk a = s1 at *
  generalize smBlk b = s2 at *
  have HA := hid ha
  have HB := hid hb
  obtain ⟨N, hN⟩ : ∃ N, N = w.heap.size := ⟨_, rfl⟩
  obtain ⟨w0, hw0⟩ : ∃ w0, w0 = (w.alloc (.cells #[uv a.parent, .int .i64 a.height, uv a.miner, uv a.work, uv a.nonce, .slice sa a.txs.length sc] 25)).alloc (.cells #[uv b.parent, .int .i64 b.height, uv b.miner, uv b.work, uv b.nonce, .slice ta b.txs.length tc] 25) := ⟨_, rfl⟩
  have hx0 : Ext w w0 := by rw [hw0]; exact ((Ext.refl w).alloc _).alloc _
  have hb0 : w0.heap[N]? = some (.cells #[uv a.parent, .int .i64 a.height, uv a.miner, uv a.work, uv a.nonce, .slice sa a.txs.length sc] 25 (0, 0)) := by rw [hw0, hN]; exact heap_alloc_some (heap_new _ _)
  have hb1 : w0.heap[N + 1]? = some (.cells #[uv b.parent, .int .i64 b.height, uv b.miner, uv b.work, uv b.nonce, .slice ta b.txs.length tc] 25 (0, 0)) := by
    rw [hw0, hN]
    have := heap_new (w.alloc (.cells #[uv a.parent, .int .i64 a.height, uv a.miner, uv a.work, uv a.nonce, .slice sa a.txs.length sc] 25)) (.cells #[uv b.parent, .int .i64 b.height, uv b.miner, uv b.work, uv b.nonce, .slice ta b.txs.length tc] 25)
    simpa using this
  have HB0 := hid hb0
  have HB1 := hid hb1
  have HWW := hid hw0
  have HX0 := hid hx0
  clear hw0 hx0 hb0 hb1 ha hb
  go_enter Try.func3, Try.ntmps3
  go_upto_region 1 with fail
  rw [← HWW.out, ← hN]
  clear hN
  go_wp2_with fail
  refine (HW _).mono ?_
  rintro e w1 ⟨rfl, h1⟩
  have E1 := hid h1
  have H1 := hid (HX0.out.trans h1)
  clear h1
  obtain ⟨c0, c1, c2, c3, c4, c5⟩ := six_cellsB (E1.out.heap_some HB0.out)
  obtain ⟨d0, d1, d2, d3, d4, d5⟩ := six_cellsB (E1.out.heap_some HB1.out)
  go_wp2_with fail
  refine (SA.out _ H1.out).mono ?_
  rintro e w2 ⟨rfl, h2⟩
  have E2 := hid (E1.out.trans h2)
  have H2 := hid (H1.out.trans h2)
  clear h2
  clear c0 c1 c2 c3 c4 c5 d0 d1 d2 d3 d4 d5
  cases s1 with
  | false =>
    go_wp2_with fail
    refine (HW _).mono ?_
    rintro e wz ⟨rfl, hz⟩
    have HZ := hid (H2.out.trans hz)
    clear hz
    go_wp2_with fail
    go_ret
    exact ⟨rfl, HZ.out⟩

  | true =>
  have MA' := hid (MA.out rfl)
  have VA : Hid (∀ v, Ext w v → Calls Try.prog 7 #[blkVal a (.slice sa a.txs.length sc)] v fun e w' => e = .returned (.int .i64 (blkV a)) ∧ Ext v w') := hid fun v k => rBlkValid_any a _ v (HA.out.ext k) MA'.out
  obtain ⟨c0, c1, c2, c3, c4, c5⟩ := six_cellsB (E2.out.heap_some HB0.out)
  obtain ⟨d0, d1, d2, d3, d4, d5⟩ := six_cellsB (E2.out.heap_some HB1.out)
  go_wp2_with fail
  refine (SB.out _ H2.out).mono ?_
  rintro e w3 ⟨rfl, h3⟩
  have E3 := hid (E2.out.trans h3)
  have H3 := hid (H2.out.trans h3)
  clear h3
  clear c0 c1 c2 c3 c4 c5 d0 d1 d2 d3 d4 d5
  cases s2 with
  | false =>
    go_wp2_with fail
    refine (HW _).mono ?_
    rintro e wz ⟨rfl, hz⟩
    have HZ := hid (H3.out.trans hz)
    clear hz
    go_wp2_with fail
    go_ret
    exact ⟨rfl, HZ.out⟩

  | true =>
  have MB' := hid (MB.out rfl)
  have VB : Hid (∀ v, Ext w v → Calls Try.prog 7 #[blkVal b (.slice ta b.txs.length tc)] v fun e w' => e = .returned (.int .i64 (blkV b)) ∧ Ext v w') := hid fun v k => rBlkValid_any b _ v (HB.out.ext k) MB'.out
  have LAW : Hid (blkV a = 0 → blkV b = 0 → blkId a = blkId b → sameBlk a b = true ∨ clashB 15 (named a) (named b) = true ∨ (a.txs.length = b.txs.length ∧ ∃ (i : Nat) (x y : TxT), a.txs[i]? = some x ∧ b.txs[i]? = some y ∧ txId x = txId y ∧ clashB 14 (txB x) (txB y) = true)) := hid fun h1 h2 h3 => ident_law h1 h2 h3
  have SAME : Hid (∀ v, Ext w v → Calls Try.prog 9 #[blkVal a (.slice sa a.txs.length sc), blkVal b (.slice ta b.txs.length tc)] v fun e w' => e = .returned (.bool (sameBlk a b)) ∧ Ext v w') := hid fun v k => sameBlk_any a b _ _ v (HA.out.ext k) (HB.out.ext k) MA'.out MB'.out
  have IDA : Hid (∀ v, Ext w v → Calls Try.prog 8 #[blkVal a (.slice sa a.txs.length sc)] v fun e w' => e = .returned (uv (blkId a)) ∧ Ext v w') := hid fun v k => blkID_any a _ v (HA.out.ext k) MA'.out
  have IDB : Hid (∀ v, Ext w v → Calls Try.prog 8 #[blkVal b (.slice ta b.txs.length tc)] v fun e w' => e = .returned (uv (blkId b)) ∧ Ext v w') := hid fun v k => blkID_any b _ v (HB.out.ext k) MB'.out
  have SID : Hid (blkV a = 0 → blkV b = 0 → sameBlk a b = true → blkId a = blkId b) := hid fun h1 h2 h3 => same_ids h1 h2 h3
  generalize blkV a = va at *
  generalize blkV b = vb at *
  generalize blkId a = ia at *
  generalize blkId b = ib at *
  generalize hsm : sameBlk a b = sm at *
  clear hsm
  obtain ⟨c0, c1, c2, c3, c4, c5⟩ := six_cellsB (E3.out.heap_some HB0.out)
  obtain ⟨d0, d1, d2, d3, d4, d5⟩ := six_cellsB (E3.out.heap_some HB1.out)
  go_wp2_with fail
  refine (VA.out _ H3.out).mono ?_
  rintro e w4 ⟨rfl, h4⟩
  have E4 := hid (E3.out.trans h4)
  have H4 := hid (H3.out.trans h4)
  clear h4
  clear c0 c1 c2 c3 c4 c5 d0 d1 d2 d3 d4 d5
  by_cases hva : va = 0
  case neg =>
    have hva' : decide (va = 0) = false := decide_eq_false hva
    go_wp2_with fail
    refine (HW _).mono ?_
    rintro e wz ⟨rfl, hz⟩
    have HZ := hid (H4.out.trans hz)
    clear hz
    go_wp2_with fail
    go_ret
    exact ⟨rfl, HZ.out⟩

  subst hva
  obtain ⟨c0, c1, c2, c3, c4, c5⟩ := six_cellsB (E4.out.heap_some HB0.out)
  obtain ⟨d0, d1, d2, d3, d4, d5⟩ := six_cellsB (E4.out.heap_some HB1.out)
  go_wp2_with fail
  refine (VB.out _ H4.out).mono ?_
  rintro e w5 ⟨rfl, h5⟩
  have E5 := hid (E4.out.trans h5)
  have H5 := hid (H4.out.trans h5)
  clear h5
  clear c0 c1 c2 c3 c4 c5 d0 d1 d2 d3 d4 d5
  by_cases hvb : vb = 0
  case neg =>
    have hvb' : decide (vb = 0) = false := decide_eq_false hvb
    go_wp2_with fail
    refine (HW _).mono ?_
    rintro e wz ⟨rfl, hz⟩
    have HZ := hid (H5.out.trans hz)
    clear hz
    go_wp2_with fail
    go_ret
    exact ⟨rfl, HZ.out⟩

  subst hvb
  have HC : Hid (∀ v, Ext w5 v → v.cell? ⟨N, 0, none⟩ = some (uv a.parent) ∧ v.cell? ⟨N, 1, none⟩ = some (.int .i64 a.height) ∧ v.cell? ⟨N, 2, none⟩ = some (uv a.miner) ∧ v.cell? ⟨N, 3, none⟩ = some (uv a.work) ∧ v.cell? ⟨N, 4, none⟩ = some (uv a.nonce) ∧ v.cell? ⟨N, 5, none⟩ = some (.slice sa a.txs.length sc) ∧ v.cell? ⟨N + 1, 0, none⟩ = some (uv b.parent) ∧ v.cell? ⟨N + 1, 1, none⟩ = some (.int .i64 b.height) ∧ v.cell? ⟨N + 1, 2, none⟩ = some (uv b.miner) ∧ v.cell? ⟨N + 1, 3, none⟩ = some (uv b.work) ∧ v.cell? ⟨N + 1, 4, none⟩ = some (uv b.nonce) ∧ v.cell? ⟨N + 1, 5, none⟩ = some (.slice ta b.txs.length tc)) := hid fun v k => by
    obtain ⟨c0, c1, c2, c3, c4, c5⟩ := six_cellsB ((E5.out.trans k).heap_some HB0.out)
    obtain ⟨d0, d1, d2, d3, d4, d5⟩ := six_cellsB ((E5.out.trans k).heap_some HB1.out)
    exact ⟨c0, c1, c2, c3, c4, c5, d0, d1, d2, d3, d4, d5⟩
  have NA : Hid (∀ v, Ext w v → Calls Try.prog 11 #[blkVal a (.slice sa a.txs.length sc)] v (NewB v (named a))) := hid fun v k => rNamed_any a _ v (HA.out.ext k) MA'.out
  have NB : Hid (∀ v, Ext w v → Calls Try.prog 11 #[blkVal b (.slice ta b.txs.length tc)] v (NewB v (named b))) := hid fun v k => rNamed_any b _ v (HB.out.ext k) MB'.out
  have CLA : Hid (∀ v x y, OwnB v x (named a) → OwnB v y (named b) → Calls Try.prog 10 #[.int .u64 15, x, y] v fun e w' => e = .returned (.bool (clashB 15 (named a) (named b))) ∧ Ext v w') := hid fun v x y h1 h2 => clash_any 15 x y _ _ v h1 h2
    (by unfold named; rw [List.length_append, hdrB_length, idsB_len]; have := MA'.out.n; omega) (by unfold named; rw [List.length_append, hdrB_length, idsB_len]; have := MB'.out.n; omega)
  unfold NewB at NA NB
  generalize hcl : clashB 15 (named a) (named b) = cl at *
  clear hcl
  generalize named a = na at *
  generalize named b = nb at *
  go_wp2_with fail
  refine wp_region_T (fun v => (v.cell? ⟨N, 0, none⟩ = some (uv a.parent) ∧ v.cell? ⟨N, 1, none⟩ = some (.int .i64 a.height) ∧ v.cell? ⟨N, 2, none⟩ = some (uv a.miner) ∧ v.cell? ⟨N, 3, none⟩ = some (uv a.work) ∧ v.cell? ⟨N, 4, none⟩ = some (uv a.nonce) ∧ v.cell? ⟨N, 5, none⟩ = some (.slice sa a.txs.length sc) ∧ v.cell? ⟨N + 1, 0, none⟩ = some (uv b.parent) ∧ v.cell? ⟨N + 1, 1, none⟩ = some (.int .i64 b.height) ∧ v.cell? ⟨N + 1, 2, none⟩ = some (uv b.miner) ∧ v.cell? ⟨N + 1, 3, none⟩ = some (uv b.work) ∧ v.cell? ⟨N + 1, 4, none⟩ = some (uv b.nonce) ∧ v.cell? ⟨N + 1, 5, none⟩ = some (.slice ta b.txs.length tc)) ∧ Ext w5 v) 3 [(0, true), (2, true), (1, false), (3, false), (4, false)] (by kernel_rfl) (by kernel_rfl) (by intro c a d v w h; cases d <;> exact h) ?_
  intro ops hops
  have HSS := keep0 HC.out
  iterate 2
    refine wpT_take (v := ?_) (by rw [hops, List.getElem?_toArray]; rfl) (by first | rfl | (rw [hops]; rfl)) ?_ HSS ?_
    rotate_left
    · intro v h; go_simp; with_reducible rfl
    simp only [Act.put, List.getElem_toArray, List.getElem_cons_zero, List.getElem_cons_succ, List.setIfInBounds_toArray, List.set_cons_zero, List.set_cons_succ]
  refine wpT_step (by rw [hops, List.getElem?_toArray]; rfl) (by first | rfl | (rw [hops]; rfl)) ?_
  intro K hK
  go_wp2_with fail
  refine (IDA.out _ (H5.out.trans HSS.2)).mono ?_
  rintro e w6 ⟨rfl, h6⟩
  have HSS1 := keepE HC.out HSS h6
  clear h6 HSS
  refine hK _ _ ⟨fun _ => HSS1, ?_⟩
  clear hK K
  refine wpT_step (by rw [hops, List.getElem?_toArray]; rfl) (by first | rfl | (rw [hops]; rfl)) ?_
  intro K hK
  go_wp2_with fail
  refine (IDB.out _ (H5.out.trans HSS1.2)).mono ?_
  rintro e w7 ⟨rfl, h7⟩
  have E7 := hid (HSS1.2.trans h7)
  have H7 := hid (H5.out.trans E7.out)
  clear h7 HSS1
  refine hK _ _ ⟨fun h => absurd h (by decide), ?_⟩
  clear hK K
  refine wpT_step (by rw [hops, List.getElem?_toArray]; rfl) (by first | rfl | (rw [hops]; rfl)) ?_
  intro K hK
  go_wp2_with fail
  try (with_reducible refine ⟨fun h => absurd h (by decide), ?_⟩)
  try rw [wpT_nil]
  try clear hops ops
  obtain ⟨c0, c1, c2, c3, c4, c5, d0, d1, d2, d3, d4, d5⟩ := HC.out _ E7.out
  by_cases heq : ia = ib
  case neg =>
    have hne1 : (ia.toNat == ib.toNat) = false := by rw [beq_eq_false_iff_ne]; exact fun h => heq (UInt64.toNat_inj.1 h)
    have hne2 : ((ia.toNat : Int) == (ib.toNat : Int)) = false := by rw [beq_eq_false_iff_ne]; exact fun h => heq (UInt64.toNat_inj.1 (by omega))
    have hne3 : ¬ ia.toNat = ib.toNat := fun h => heq (UInt64.toNat_inj.1 h)
    have hsf : sm = false := by
      cases sm with
      | false => rfl
      | true => exact absurd (SID.out (by trivial) (by trivial) (by trivial)) heq
    subst hsf
    go_wp2_with fail
    refine (SAME.out _ H7.out).mono ?_
    rintro e w8 ⟨rfl, h8⟩
    have H8 := hid (H7.out.trans h8)
    clear h8
    go_wp2_with fail
    go_ret
    exact ⟨rfl, H8.out⟩
  subst heq
  clear c0 c1 c2 c3 c4 c5 d0 d1 d2 d3 d4 d5
  have HC7 : Hid (∀ v, Ext w7 v → (v.cell? ⟨N, 0, none⟩ = some (uv a.parent) ∧ v.cell? ⟨N, 1, none⟩ = some (.int .i64 a.height) ∧ v.cell? ⟨N, 2, none⟩ = some (uv a.miner) ∧ v.cell? ⟨N, 3, none⟩ = some (uv a.work) ∧ v.cell? ⟨N, 4, none⟩ = some (uv a.nonce) ∧ v.cell? ⟨N, 5, none⟩ = some (.slice sa a.txs.length sc) ∧ v.cell? ⟨N + 1, 0, none⟩ = some (uv b.parent) ∧ v.cell? ⟨N + 1, 1, none⟩ = some (.int .i64 b.height) ∧ v.cell? ⟨N + 1, 2, none⟩ = some (uv b.miner) ∧ v.cell? ⟨N + 1, 3, none⟩ = some (uv b.work) ∧ v.cell? ⟨N + 1, 4, none⟩ = some (uv b.nonce) ∧ v.cell? ⟨N + 1, 5, none⟩ = some (.slice ta b.txs.length tc))) := hid fun v k => HC.out v (E7.out.trans k)
  cases sm with
  | true =>
    go_wp2_with fail
    refine wp_region_T (fun v => (v.cell? ⟨N, 0, none⟩ = some (uv a.parent) ∧ v.cell? ⟨N, 1, none⟩ = some (.int .i64 a.height) ∧ v.cell? ⟨N, 2, none⟩ = some (uv a.miner) ∧ v.cell? ⟨N, 3, none⟩ = some (uv a.work) ∧ v.cell? ⟨N, 4, none⟩ = some (uv a.nonce) ∧ v.cell? ⟨N, 5, none⟩ = some (.slice sa a.txs.length sc) ∧ v.cell? ⟨N + 1, 0, none⟩ = some (uv b.parent) ∧ v.cell? ⟨N + 1, 1, none⟩ = some (.int .i64 b.height) ∧ v.cell? ⟨N + 1, 2, none⟩ = some (uv b.miner) ∧ v.cell? ⟨N + 1, 3, none⟩ = some (uv b.work) ∧ v.cell? ⟨N + 1, 4, none⟩ = some (uv b.nonce) ∧ v.cell? ⟨N + 1, 5, none⟩ = some (.slice ta b.txs.length tc)) ∧ Ext w7 v) 7 [(0, true), (1, true), (2, false), (3, true), (4, true), (6, true), (5, false), (7, false), (8, false), (9, false)] (by kernel_rfl) (by kernel_rfl) (by intro c a d v w h; cases d <;> exact h) ?_
    intro ops hops
    have HSS := keep0 HC7.out
    iterate 2
      refine wpT_take (v := ?_) (by rw [hops, List.getElem?_toArray]; rfl) (by first | rfl | (rw [hops]; rfl)) ?_ HSS ?_
      rotate_left
      · intro v h; go_simp; with_reducible rfl
      simp only [Act.put, List.getElem_toArray, List.getElem_cons_zero, List.getElem_cons_succ, List.setIfInBounds_toArray, List.set_cons_zero, List.set_cons_succ]
    refine wpT_step (by rw [hops, List.getElem?_toArray]; rfl) (by first | rfl | (rw [hops]; rfl)) ?_
    intro K hK
    go_wp2_with fail
    refine (SAME.out _ (H7.out.trans HSS.2)).mono ?_
    rintro e w8 ⟨rfl, h8⟩
    have HSS1 := keepE HC7.out HSS h8
    have H8 := hid (H7.out.trans HSS1.2)
    clear h8 HSS
    refine hK _ _ ⟨fun _ => HSS1, ?_⟩
    clear hK K
    iterate 3
      first
        | (refine wpT_take (v := ?_) (by rw [hops, List.getElem?_toArray]; rfl) (by first | rfl | (rw [hops]; rfl)) ?_ HSS1 ?_
           rotate_left
           · intro v h; go_simp; with_reducible rfl
           simp only [Act.put, List.getElem_toArray, List.getElem_cons_zero, List.getElem_cons_succ, List.setIfInBounds_toArray, List.set_cons_zero, List.set_cons_succ])
        | (refine wpT_pass (by rw [hops, List.getElem?_toArray]; rfl) (by first | rfl | (rw [hops]; rfl)) HSS1 ?_
           simp only [Act.put, List.getElem_toArray, List.getElem_cons_zero, List.getElem_cons_succ, List.setIfInBounds_toArray, List.set_cons_zero, List.set_cons_succ])
    refine wpT_none (by rw [hops, List.getElem?_toArray]; rfl) (by first | rfl | (rw [hops]; rfl)) ⟨fun _ => HSS1, ?_⟩
    simp only [Act.put, List.getElem_toArray, List.getElem_cons_zero, List.getElem_cons_succ, List.setIfInBounds_toArray, List.set_cons_zero, List.set_cons_succ]
    clear HSS1
    refine wpT_none (by rw [hops, List.getElem?_toArray]; rfl) (by first | rfl | (rw [hops]; rfl)) ⟨fun h => absurd h (by decide), ?_⟩
    simp only [Act.put, List.getElem_toArray, List.getElem_cons_zero, List.getElem_cons_succ, List.setIfInBounds_toArray, List.set_cons_zero, List.set_cons_succ]
    refine wpT_none (by rw [hops, List.getElem?_toArray]; rfl) (by first | rfl | (rw [hops]; rfl)) ⟨fun h => absurd h (by decide), ?_⟩
    simp only [Act.put, List.getElem_toArray, List.getElem_cons_zero, List.getElem_cons_succ, List.setIfInBounds_toArray, List.set_cons_zero, List.set_cons_succ]
    refine wpT_step (by rw [hops, List.getElem?_toArray]; rfl) (by first | rfl | (rw [hops]; rfl)) ?_
    intro K hK
    go_wp2_with fail
    try (with_reducible refine ⟨fun h => absurd h (by decide), ?_⟩)
    try rw [wpT_nil]
    try clear hops ops
    go_wp2_with fail
    go_ret
    exact ⟨rfl, H8.out⟩
  | false =>
  have LAW2 : Hid (cl = true ∨ (a.txs.length = b.txs.length ∧ ∃ (i : Nat) (x y : TxT), a.txs[i]? = some x ∧ b.txs[i]? = some y ∧ txId x = txId y ∧ clashB 14 (txB x) (txB y) = true)) := hid (by
    rcases LAW.out (by trivial) (by trivial) (by trivial) with h | h
    · exact absurd h (by decide)
    · exact h)
  go_wp2_with fail
  refine wp_region_T (fun v => (v.cell? ⟨N, 0, none⟩ = some (uv a.parent) ∧ v.cell? ⟨N, 1, none⟩ = some (.int .i64 a.height) ∧ v.cell? ⟨N, 2, none⟩ = some (uv a.miner) ∧ v.cell? ⟨N, 3, none⟩ = some (uv a.work) ∧ v.cell? ⟨N, 4, none⟩ = some (uv a.nonce) ∧ v.cell? ⟨N, 5, none⟩ = some (.slice sa a.txs.length sc) ∧ v.cell? ⟨N + 1, 0, none⟩ = some (uv b.parent) ∧ v.cell? ⟨N + 1, 1, none⟩ = some (.int .i64 b.height) ∧ v.cell? ⟨N + 1, 2, none⟩ = some (uv b.miner) ∧ v.cell? ⟨N + 1, 3, none⟩ = some (uv b.work) ∧ v.cell? ⟨N + 1, 4, none⟩ = some (uv b.nonce) ∧ v.cell? ⟨N + 1, 5, none⟩ = some (.slice ta b.txs.length tc)) ∧ Ext w7 v) 7 [(0, true), (1, true), (2, false), (3, true), (4, true), (6, true), (5, false), (7, false), (8, false), (9, false)] (by kernel_rfl) (by kernel_rfl) (by intro c a d v w h; cases d <;> exact h) ?_
  intro ops hops
  have HSS := keep0 HC7.out
  iterate 2
    refine wpT_take (v := ?_) (by rw [hops, List.getElem?_toArray]; rfl) (by first | rfl | (rw [hops]; rfl)) ?_ HSS ?_
    rotate_left
    · intro v h; go_simp; with_reducible rfl
    simp only [Act.put, List.getElem_toArray, List.getElem_cons_zero, List.getElem_cons_succ, List.setIfInBounds_toArray, List.set_cons_zero, List.set_cons_succ]
  refine wpT_step (by rw [hops, List.getElem?_toArray]; rfl) (by first | rfl | (rw [hops]; rfl)) ?_
  intro K hK
  go_wp2_with fail
  refine (SAME.out _ (H7.out.trans HSS.2)).mono ?_
  rintro e w8 ⟨rfl, h8⟩
  have HSS1 := keepE HC7.out HSS h8
  clear h8 HSS
  refine hK _ _ ⟨fun _ => HSS1, ?_⟩
  clear hK K
  iterate 3
    first
      | (refine wpT_take (v := ?_) (by rw [hops, List.getElem?_toArray]; rfl) (by first | rfl | (rw [hops]; rfl)) ?_ HSS1 ?_
         rotate_left
         · intro v h; go_simp; with_reducible rfl
         simp only [Act.put, List.getElem_toArray, List.getElem_cons_zero, List.getElem_cons_succ, List.setIfInBounds_toArray, List.set_cons_zero, List.set_cons_succ])
      | (refine wpT_pass (by rw [hops, List.getElem?_toArray]; rfl) (by first | rfl | (rw [hops]; rfl)) HSS1 ?_
         simp only [Act.put, List.getElem_toArray, List.getElem_cons_zero, List.getElem_cons_succ, List.setIfInBounds_toArray, List.set_cons_zero, List.set_cons_succ])
  refine wpT_step (by rw [hops, List.getElem?_toArray]; rfl) (by first | rfl | (rw [hops]; rfl)) ?_
  intro K hK
  go_wp2_with fail
  refine (NA.out _ (H7.out.trans HSS1.2)).mono ?_
  rintro e w9 ⟨v1, rfl, o1, h9, -⟩
  have HSS2 := keepE HC7.out HSS1 h9
  have O1 := hid o1
  clear h9 HSS1 o1
  refine hK _ _ ⟨fun _ => HSS2, ?_⟩
  clear hK K
  refine wpT_step (by rw [hops, List.getElem?_toArray]; rfl) (by first | rfl | (rw [hops]; rfl)) ?_
  intro K hK
  go_wp2_with fail
  refine (NB.out _ (H7.out.trans HSS2.2)).mono ?_
  rintro e x1 ⟨v2, rfl, o2, h10, -⟩
  have O1' := hid (ownsRow_ext O1.out h10)
  have O2 := hid o2
  have HE10 := hid (HSS2.2.trans h10)
  clear h10 HSS2 o2
  refine hK _ _ ⟨fun h => absurd h (by decide), ?_⟩
  clear hK K
  refine wpT_step (by rw [hops, List.getElem?_toArray]; rfl) (by first | rfl | (rw [hops]; rfl)) ?_
  intro K hK
  go_wp2_with fail
  refine (CLA.out _ _ _ O1'.out O2.out).mono ?_
  rintro e x2 ⟨rfl, h11⟩
  have E11 := hid (HE10.out.trans h11)
  have H11 := hid (H7.out.trans E11.out)
  clear h11
  refine hK _ _ ⟨fun h => absurd h (by decide), ?_⟩
  clear hK K
  refine wpT_step (by rw [hops, List.getElem?_toArray]; rfl) (by first | rfl | (rw [hops]; rfl)) ?_
  intro K hK
  go_wp2_with fail
  try (with_reducible refine ⟨fun h => absurd h (by decide), ?_⟩)
  try rw [wpT_nil]
  try clear hops ops
  obtain ⟨c0, c1, c2, c3, c4, c5, d0, d1, d2, d3, d4, d5⟩ := HC7.out _ E11.out
  cases cl with
  | true =>
    go_wp2_with fail
    go_ret
    exact ⟨rfl, H11.out⟩
  | false =>
  obtain ⟨hlen, hex⟩ : (a.txs.length = b.txs.length ∧ ∃ (i : Nat) (x y : TxT), a.txs[i]? = some x ∧ b.txs[i]? = some y ∧ txId x = txId y ∧ clashB 14 (txB x) (txB y) = true) := by
    rcases LAW2.out with h | h
    · exact absurd h (by decide)
    · exact h
  have HEX := hid hex
  have HLEN := hid hlen
  clear hex
  rw [← hlen] at d5
  clear hlen
  go_wp2_with fail
  go_loopw [58] (fun iv wr => ∃ i : Nat, i ≤ a.txs.length ∧ iv = .int .i64 i ∧ Hid (∀ (j : Nat) (u v : TxT), j < i → a.txs[j]? = some u → b.txs[j]? = some v → txId u = txId v → clashB 14 (txB u) (txB v) = false) ∧ Hid (Ext w7 wr)) (fun iv _ => a.txs.length - (intOf iv).toNat)
  case atStart => exact ⟨0, by omega, rfl, hid (fun j u v hj => absurd hj (by omega)), E11⟩
  case round =>
    clear c0 c1 c2 c3 c4 c5 d0 d1 d2 d3 d4 d5
    obtain ⟨i, hi, rfl, HI, HXR⟩ := hrel
    obtain ⟨c0, c1, c2, c3, c4, c5, d0, d1, d2, d3, d4, d5⟩ := HC7.out _ HXR.out
    by_cases hlt : i < a.txs.length
    · have hltB : decide ((i : Int) < (a.txs.length : Int)) = true := by simp; omega
      have hi0 : (0 : Int) ≤ (i : Int) := Int.natCast_nonneg _
      have hil : (i : Int) < (a.txs.length : Int) := by omega
      have hn1 : (a.txs.length : Int) ≤ 100 := by have := MA'.out.n; omega
      have hil2 : (i : Int) < (b.txs.length : Int) := by have := HLEN.out; omega
      have hn2 : (b.txs.length : Int) ≤ 100 := by have := MB'.out.n; omega
      obtain ⟨x, hxi⟩ : ∃ x, a.txs[i]? = some x := ⟨_, List.getElem?_eq_getElem hlt⟩
      obtain ⟨y, hyi⟩ : ∃ y, b.txs[i]? = some y := ⟨_, List.getElem?_eq_getElem (by have := HLEN.out; omega)⟩
      obtain ⟨q, o, ma, mc, oa, oc, pa, pc, rfl, hrx, e0, e1, e2, e3, e4, e5, e6, e7, e8, e9⟩ := (HA.out.ext (H7.out.trans HXR.out)).at hxi
      obtain ⟨q', o', na', nc, ua, uc, ra, rc, rfl, hry, f0, f1, f2, f3, f4, f5, f6, f7, f8, f9⟩ := (HB.out.ext (H7.out.trans HXR.out)).at hyi
      have HXY := hid (And.intro hxi hyi)
      have HSX := hid (MA'.out.t x (List.mem_of_getElem? hxi))
      have HSY := hid (MB'.out.t y (List.mem_of_getElem? hyi))
      have HCC : Hid (∀ v, Ext wr v → (v.cell? ⟨N, 5, none⟩ = some (.slice (some ⟨q, o, none⟩) a.txs.length sc) ∧ v.cell? ⟨N + 1, 5, none⟩ = some (.slice (some ⟨q', o', none⟩) b.txs.length tc)) ∧ (v.cell? ⟨q, o + i * 10, none⟩ = some (uv x.anchor) ∧ v.cell? ⟨q, o + i * 10 + 1, none⟩ = some (.slice ma x.marks.length mc) ∧ v.cell? ⟨q, o + i * 10 + 2, none⟩ = some (.slice oa x.outs.length oc) ∧ v.cell? ⟨q, o + i * 10 + 3, none⟩ = some (uv x.deposit) ∧ v.cell? ⟨q, o + i * 10 + 4, none⟩ = some (uv x.withdraw) ∧ v.cell? ⟨q, o + i * 10 + 5, none⟩ = some (uv x.fee) ∧ v.cell? ⟨q, o + i * 10 + 6, none⟩ = some (uv x.account) ∧ v.cell? ⟨q, o + i * 10 + 7, none⟩ = some (uv x.nonce) ∧ v.cell? ⟨q, o + i * 10 + 8, none⟩ = some (.int .i64 x.expiry) ∧ v.cell? ⟨q, o + i * 10 + 9, none⟩ = some (.slice pa x.proof.length pc)) ∧ (v.cell? ⟨q', o' + i * 10, none⟩ = some (uv y.anchor) ∧ v.cell? ⟨q', o' + i * 10 + 1, none⟩ = some (.slice na' y.marks.length nc) ∧ v.cell? ⟨q', o' + i * 10 + 2, none⟩ = some (.slice ua y.outs.length uc) ∧ v.cell? ⟨q', o' + i * 10 + 3, none⟩ = some (uv y.deposit) ∧ v.cell? ⟨q', o' + i * 10 + 4, none⟩ = some (uv y.withdraw) ∧ v.cell? ⟨q', o' + i * 10 + 5, none⟩ = some (uv y.fee) ∧ v.cell? ⟨q', o' + i * 10 + 6, none⟩ = some (uv y.account) ∧ v.cell? ⟨q', o' + i * 10 + 7, none⟩ = some (uv y.nonce) ∧ v.cell? ⟨q', o' + i * 10 + 8, none⟩ = some (.int .i64 y.expiry) ∧ v.cell? ⟨q', o' + i * 10 + 9, none⟩ = some (.slice ra y.proof.length rc))) := hid fun v k => ⟨⟨k.cell_some c5, k.cell_some d5⟩, ⟨k.cell_some e0, k.cell_some e1, k.cell_some e2, k.cell_some e3, k.cell_some e4, k.cell_some e5, k.cell_some e6, k.cell_some e7, k.cell_some e8, k.cell_some e9⟩, ⟨k.cell_some f0, k.cell_some f1, k.cell_some f2, k.cell_some f3, k.cell_some f4, k.cell_some f5, k.cell_some f6, k.cell_some f7, k.cell_some f8, k.cell_some f9⟩⟩
      have IDX := hid (fun (v : World) (k : Ext wr v) => txID_any x _ _ _ v (hrx.ext k) HSX.out.1)
      have IDY := hid (fun (v : World) (k : Ext wr v) => txID_any y _ _ _ v (hry.ext k) HSY.out.1)
      have BX := hid (fun (v : World) (k : Ext wr v) => rTxB_any x _ _ _ v (hrx.ext k) HSX.out.1)
      have BY := hid (fun (v : World) (k : Ext wr v) => rTxB_any y _ _ _ v (hry.ext k) HSY.out.1)
      unfold NewB at BX BY
      have CLT : Hid (∀ v g h, OwnB v g (txB x) → OwnB v h (txB y) → Calls Try.prog 10 #[.int .u64 14, g, h] v fun e w' => e = .returned (.bool (clashB 14 (txB x) (txB y))) ∧ Ext v w') := hid fun v g h h1 h2 => clash_any 14 g h _ _ v h1 h2 (by have := txB_le HSX.out.1; omega) (by have := txB_le HSY.out.1; omega)
      have HNX : Hid (txId x = txId y → clashB 14 (txB x) (txB y) = false → ∀ (j : Nat) (u v : TxT), j < i + 1 → a.txs[j]? = some u → b.txs[j]? = some v → txId u = txId v → clashB 14 (txB u) (txB v) = false) := hid fun _ hc j u v hj hu hv he => by
        by_cases hji : j = i
        · subst hji
          rw [HXY.out.1] at hu
          rw [HXY.out.2] at hv
          injection hu with hu
          injection hv with hv
          rw [← hu, ← hv]; exact hc
        · exact HI.out j u v (by omega) hu hv he
      have HNY : Hid (¬ txId x = txId y → ∀ (j : Nat) (u v : TxT), j < i + 1 → a.txs[j]? = some u → b.txs[j]? = some v → txId u = txId v → clashB 14 (txB u) (txB v) = false) := hid fun hne j u v hj hu hv he => by
        by_cases hji : j = i
        · subst hji
          rw [HXY.out.1] at hu
          rw [HXY.out.2] at hv
          injection hu with hu
          injection hv with hv
          rw [← hu, ← hv] at he; exact absurd he hne
        · exact HI.out j u v (by omega) hu hv he
      generalize hcb : clashB 14 (txB x) (txB y) = cb at *
      generalize txId x = ix at *
      generalize txId y = iy at *
      generalize txB x = bx at *
      generalize txB y = bY at *
      clear hcb hxi hyi hrx hry e0 e1 e2 e3 e4 e5 e6 e7 e8 e9 f0 f1 f2 f3 f4 f5 f6 f7 f8 f9
      go_wp2_with fail
      clear c0 c1 c2 c3 c4 c5 d0 d1 d2 d3 d4 d5
      refine wp_region_T (fun v => ((v.cell? ⟨N, 5, none⟩ = some (.slice (some ⟨q, o, none⟩) a.txs.length sc) ∧ v.cell? ⟨N + 1, 5, none⟩ = some (.slice (some ⟨q', o', none⟩) b.txs.length tc)) ∧ (v.cell? ⟨q, o + i * 10, none⟩ = some (uv x.anchor) ∧ v.cell? ⟨q, o + i * 10 + 1, none⟩ = some (.slice ma x.marks.length mc) ∧ v.cell? ⟨q, o + i * 10 + 2, none⟩ = some (.slice oa x.outs.length oc) ∧ v.cell? ⟨q, o + i * 10 + 3, none⟩ = some (uv x.deposit) ∧ v.cell? ⟨q, o + i * 10 + 4, none⟩ = some (uv x.withdraw) ∧ v.cell? ⟨q, o + i * 10 + 5, none⟩ = some (uv x.fee) ∧ v.cell? ⟨q, o + i * 10 + 6, none⟩ = some (uv x.account) ∧ v.cell? ⟨q, o + i * 10 + 7, none⟩ = some (uv x.nonce) ∧ v.cell? ⟨q, o + i * 10 + 8, none⟩ = some (.int .i64 x.expiry) ∧ v.cell? ⟨q, o + i * 10 + 9, none⟩ = some (.slice pa x.proof.length pc)) ∧ (v.cell? ⟨q', o' + i * 10, none⟩ = some (uv y.anchor) ∧ v.cell? ⟨q', o' + i * 10 + 1, none⟩ = some (.slice na' y.marks.length nc) ∧ v.cell? ⟨q', o' + i * 10 + 2, none⟩ = some (.slice ua y.outs.length uc) ∧ v.cell? ⟨q', o' + i * 10 + 3, none⟩ = some (uv y.deposit) ∧ v.cell? ⟨q', o' + i * 10 + 4, none⟩ = some (uv y.withdraw) ∧ v.cell? ⟨q', o' + i * 10 + 5, none⟩ = some (uv y.fee) ∧ v.cell? ⟨q', o' + i * 10 + 6, none⟩ = some (uv y.account) ∧ v.cell? ⟨q', o' + i * 10 + 7, none⟩ = some (uv y.nonce) ∧ v.cell? ⟨q', o' + i * 10 + 8, none⟩ = some (.int .i64 y.expiry) ∧ v.cell? ⟨q', o' + i * 10 + 9, none⟩ = some (.slice ra y.proof.length rc))) ∧ Ext wr v) 25 [(0, true), (1, true), (2, true), (3, true), (4, true), (6, true), (7, true), (8, true), (9, true), (10, true), (5, false), (11, false), (12, true), (13, true), (14, true), (15, true), (16, true), (17, true), (18, true), (20, true), (21, true), (22, true), (23, true), (24, true), (19, false), (25, false), (26, false), (27, false)] (by kernel_rfl) (by kernel_rfl) (by intro c a d v w h; cases d <;> exact h) ?_
      intro ops hops
      have HSS := keep0 HCC.out
      iterate 10
        refine wpT_take (v := ?_) (by rw [hops, List.getElem?_toArray]; rfl) (by first | rfl | (rw [hops]; rfl)) ?_ HSS ?_
        rotate_left
        · intro v h; go_simp; with_reducible rfl
        simp only [Act.put, List.getElem_toArray, List.getElem_cons_zero, List.getElem_cons_succ, List.setIfInBounds_toArray, List.set_cons_zero, List.set_cons_succ]
      refine wpT_step (by rw [hops, List.getElem?_toArray]; rfl) (by first | rfl | (rw [hops]; rfl)) ?_
      intro K hK
      go_wp2_with fail
      refine (IDX.out _ HSS.2).mono ?_
      rintro e x1 ⟨rfl, g1⟩
      have HS1 := keepE HCC.out HSS g1
      clear g1 HSS
      refine hK _ _ ⟨fun _ => HS1, ?_⟩
      clear hK K
      refine wpT_step (by rw [hops, List.getElem?_toArray]; rfl) (by first | rfl | (rw [hops]; rfl)) ?_
      intro K hK
      go_wp2_with fail
      refine (IDY.out _ HS1.2).mono ?_
      rintro e x2 ⟨rfl, g2⟩
      have HS2 := keepE HCC.out HS1 g2
      clear g2 HS1
      refine hK _ _ ⟨fun _ => HS2, ?_⟩
      clear hK K
      by_cases hxy : ix = iy
      · subst hxy
        iterate 12
          first
            | (refine wpT_take (v := ?_) (by rw [hops, List.getElem?_toArray]; rfl) (by first | rfl | (rw [hops]; rfl)) ?_ HS2 ?_
               rotate_left
               · intro v h; go_simp; with_reducible rfl
               simp only [Act.put, List.getElem_toArray, List.getElem_cons_zero, List.getElem_cons_succ, List.setIfInBounds_toArray, List.set_cons_zero, List.set_cons_succ])
            | (refine wpT_pass (by rw [hops, List.getElem?_toArray]; rfl) (by first | rfl | (rw [hops]; rfl)) HS2 ?_
               simp only [Act.put, List.getElem_toArray, List.getElem_cons_zero, List.getElem_cons_succ, List.setIfInBounds_toArray, List.set_cons_zero, List.set_cons_succ])
        refine wpT_step (by rw [hops, List.getElem?_toArray]; rfl) (by first | rfl | (rw [hops]; rfl)) ?_
        intro K hK
        go_wp2_with fail
        refine (BX.out _ HS2.2).mono ?_
        rintro e x3 ⟨v1, rfl, o1, g3, -⟩
        have HS3 := keepE HCC.out HS2 g3
        have O1 := hid o1
        clear g3 HS2 o1
        refine hK _ _ ⟨fun _ => HS3, ?_⟩
        clear hK K
        refine wpT_step (by rw [hops, List.getElem?_toArray]; rfl) (by first | rfl | (rw [hops]; rfl)) ?_
        intro K hK
        go_wp2_with fail
        refine (BY.out _ HS3.2).mono ?_
        rintro e x4 ⟨v2, rfl, o2, g4, -⟩
        have O1' := hid (ownsRow_ext O1.out g4)
        have O2 := hid o2
        have HE4 := hid (HS3.2.trans g4)
        clear g4 HS3 o2
        refine hK _ _ ⟨fun h => absurd h (by decide), ?_⟩
        clear hK K
        refine wpT_step (by rw [hops, List.getElem?_toArray]; rfl) (by first | rfl | (rw [hops]; rfl)) ?_
        intro K hK
        go_wp2_with fail
        refine (CLT.out _ _ _ O1'.out O2.out).mono ?_
        rintro e x5 ⟨rfl, g5⟩
        have HX5 := hid (HXR.out.trans (HE4.out.trans g5))
        clear g5
        refine hK _ _ ⟨fun h => absurd h (by decide), ?_⟩
        clear hK K
        refine wpT_step (by rw [hops, List.getElem?_toArray]; rfl) (by first | rfl | (rw [hops]; rfl)) ?_
        intro K hK
        go_wp2_with fail
        try (with_reducible refine ⟨fun h => absurd h (by decide), ?_⟩)
        try rw [wpT_nil]
        try clear hops ops
        cases cb with
        | true =>
          go_wp2_with fail
          go_ret
          exact ⟨rfl, H7.out.trans HX5.out⟩
        | false =>
          have HN := hid (HNX.out (by trivial) (by trivial))
          go_wp2_with fail
          go_roundw
          case rel => exact ⟨i + 1, by omega, by go_num, HN, HX5⟩
          case measure => simp [intOf]; omega
      · have hne2 : ((ix.toNat : Int) == (iy.toNat : Int)) = false := by rw [beq_eq_false_iff_ne]; exact fun h => hxy (UInt64.toNat_inj.1 (by omega))
        have hne3 : ¬ ix.toNat = iy.toNat := fun h => hxy (UInt64.toNat_inj.1 h)
        iterate 12
          first
            | (refine wpT_take (v := ?_) (by rw [hops, List.getElem?_toArray]; rfl) (by first | rfl | (rw [hops]; rfl)) ?_ HS2 ?_
               rotate_left
               · intro v h; go_simp; with_reducible rfl
               simp only [Act.put, List.getElem_toArray, List.getElem_cons_zero, List.getElem_cons_succ, List.setIfInBounds_toArray, List.set_cons_zero, List.set_cons_succ])
            | (refine wpT_pass (by rw [hops, List.getElem?_toArray]; rfl) (by first | rfl | (rw [hops]; rfl)) HS2 ?_
               simp only [Act.put, List.getElem_toArray, List.getElem_cons_zero, List.getElem_cons_succ, List.setIfInBounds_toArray, List.set_cons_zero, List.set_cons_succ])
        refine wpT_none (by rw [hops, List.getElem?_toArray]; rfl) (by first | rfl | (rw [hops]; rfl)) ⟨fun _ => HS2, ?_⟩
        simp only [Act.put, List.getElem_toArray, List.getElem_cons_zero, List.getElem_cons_succ, List.setIfInBounds_toArray, List.set_cons_zero, List.set_cons_succ]
        have HX5 := hid (HXR.out.trans HS2.2)
        clear HS2
        refine wpT_none (by rw [hops, List.getElem?_toArray]; rfl) (by first | rfl | (rw [hops]; rfl)) ⟨fun h => absurd h (by decide), ?_⟩
        simp only [Act.put, List.getElem_toArray, List.getElem_cons_zero, List.getElem_cons_succ, List.setIfInBounds_toArray, List.set_cons_zero, List.set_cons_succ]
        refine wpT_none (by rw [hops, List.getElem?_toArray]; rfl) (by first | rfl | (rw [hops]; rfl)) ⟨fun h => absurd h (by decide), ?_⟩
        simp only [Act.put, List.getElem_toArray, List.getElem_cons_zero, List.getElem_cons_succ, List.setIfInBounds_toArray, List.set_cons_zero, List.set_cons_succ]
        refine wpT_step (by rw [hops, List.getElem?_toArray]; rfl) (by first | rfl | (rw [hops]; rfl)) ?_
        intro K hK
        go_wp2_with fail
        try (with_reducible refine ⟨fun h => absurd h (by decide), ?_⟩)
        try rw [wpT_nil]
        try clear hops ops
        have HN := hid (HNY.out hxy)
        go_wp2_with fail
        go_roundw
        case rel => exact ⟨i + 1, by omega, by go_num, HN, HX5⟩
        case measure => simp [intOf]; omega
    · exfalso
      obtain ⟨j, x, y, g1, g2, g3, g4⟩ := HEX.out
      have := HI.out j x y (by have := (List.getElem?_eq_some_iff.1 g1).1; omega) g1 g2 g3
      rw [this] at g4
      exact absurd g4 (by decide)
end Go.Proofs.Ytkdnnekdldomeaa
