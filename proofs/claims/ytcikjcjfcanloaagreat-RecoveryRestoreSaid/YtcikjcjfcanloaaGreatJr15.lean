/- Texts of this claim, joined: Wal10, Wal13, RW3, Blks. -/
import Derived.Test.YtcikjcjfcanloaaGreatJr8
import Derived.Test.YtcikjcjfcanloaaGreatJr13
import Derived.Test.YtcikjcjfcanloaaGreatJr14
set_option linter.unusedSimpArgs false
namespace Go.Proofs.YtcikjcjfcanloaaGreat
open Go.RowKit
attribute [local irreducible] perm fAdd fMul fPow fSub fNeg fRed hashU drawOf nextState
set_option maxRecDepth 100000 in
set_option maxHeartbeats 25600000 in
theorem walApply_sub {w : World} {W d : Nat} {r : Rl} {seed : UInt64} {L : List UInt64} {ns : List OwT} {ps : List (ScT × Value)} {ob LB : Nat} {nv pv : Value} {FO FT : Nat → Prop} (h : WalIn w W d r seed L ns ps ob LB nv pv FO FT (WF W FT nv pv))
    (hok : StOk ⟨L, ns, []⟩ 0) (hL : L.length ≤ 4096) (hp : ps.length ≤ 1000) {wB : World} (hB : ∀ u, Kp (WF W FT nv pv) w u → Sub wB u) (b : BlkT) (tv : Value) (hb : RdTs wB tv b.txs) (hn : b.txs.length ≤ 100) (hs : ∀ t ∈ b.txs, TSm t) :
    Calls Tryz.prog 42 #[.pointer (some ⟨W, 0, none⟩), blkVal b tv] w fun e w' => e = .returned (.int .i64 (fitsW d ps.length L.length b)) ∧ (fitsW d ps.length L.length b ≠ 0 → Ext w w') ∧ (fitsW d ps.length L.length b = 0 → AppTo w W d r seed L ns ps ob LB nv pv FO FT b w') := by
  obtain ⟨ta, tc, rfl, -⟩ := hb.shape
  have HB := hid hb
  have HS := hid hs
  have HH := hid h
  have HOK := hid hok
  have HEX : Hid (∀ u, Kp (WF W FT nv pv) w u → Sub wB u) := hid hB
  have hnI : (b.txs.length : Int) ≤ 100 := by omega
  have HPN := hid hp
  have FIT : Hid (∀ v, Ext w v → Calls Tryz.prog 87 #[.pointer (some ⟨W, 0, none⟩), blkVal b (.slice ta b.txs.length tc)] v fun e w' => e = .returned (.int .i64 (fitsW d ps.length L.length b)) ∧ Ext v w') := hid fun v k => walFits_any (h.ext k) (by omega) hp b _ (hb.sub (hB v (.of_ext k))) hn hs
  have HFO := hid (fun h : fitsW d ps.length L.length b = 0 => fits_ok h)
  obtain ⟨R, hR⟩ : ∃ R, R = fitsW d ps.length L.length b := ⟨_, rfl⟩
  rw [← hR] at FIT HFO ⊢
  obtain ⟨N, hN⟩ : ∃ N, N = w.heap.size := ⟨_, rfl⟩
  obtain ⟨w0, hw0⟩ : ∃ w0, w0 = w.alloc (.cells #[uv b.parent, .int .i64 b.height, uv b.miner, uv b.work, uv b.nonce, .slice ta b.txs.length tc] 75) := ⟨_, rfl⟩
  have hx0 : Ext w w0 := by rw [hw0]; exact (Ext.refl w).alloc _
  have hb0 : w0.heap[N]? = some (.cells #[uv b.parent, .int .i64 b.height, uv b.miner, uv b.work, uv b.nonce, .slice ta b.txs.length tc] 75 (0, 0)) := by rw [hw0, hN]; exact heap_new _ _
  have HX0 := hid hx0
  have HB0 := hid hb0
  have HW := hid hw0
  have HNw := hid hN
  have HLN := hid hL
  clear hR hb hs h hok hB hp hn hL hx0 hb0 hw0
  go_enter Tryz.func42, Tryz.ntmps42
  go_upto_region 1 with fail
  rw [← HW.out, ← hN]
  clear hN HW
  obtain ⟨c0, c1, c2, c3, c4, c5⟩ := six_cellsB HB0.out
  go_wp2_with fail
  refine (FIT.out _ HX0.out).mono ?_
  rintro e w1 ⟨rfl, hx⟩
  have X1 := hid (HX0.out.trans hx)
  have HB1 := hid (hx.heap_some HB0.out)
  clear hx FIT c0 c1 c2 c3 c4 c5
  by_cases hR0 : R = 0
  case neg =>
    have hRB : decide (R = 0) = false := decide_eq_false hR0
    go_wp2_with fail
    go_ret
    exact ⟨rfl, fun _ => X1.out, fun e => absurd e hR0⟩
  subst hR0
  obtain ⟨hhe, hva, hfull⟩ := HFO.out (by trivial)
  have HHE := hid hhe
  have HVA := hid hva
  have HFU := hid hfull
  clear HFO hva hfull hhe
  obtain ⟨na, nc, rfl, -⟩ := ownsRow_rd HH.out.notes
  have H1 := hid (HH.out.ext X1.out)
  have CNT : Hid (∀ v, Ext w1 v → Calls Tryz.prog 88 #[.pointer (some ⟨LB, 0, none⟩)] v fun e w' => e = .returned (.int .i64 (L.length : Int)) ∧ Ext v w') := hid fun v k => treeCount_any (H1.out.tree.ext k) H1.out.dep.2.1
  have HSV : Hid (∀ v, Ext w1 v → (v.cell? ⟨W, 12, none⟩ = some (.pointer (some ⟨LB, 0, none⟩)) ∧ v.cell? ⟨W, 13, none⟩ = some (.slice na ns.length nc)) ∧ Ext w1 v) := hid fun v k => by
    obtain ⟨-, -, -, -, q1, q2, -⟩ := (H1.out.ext k).cells
    exact ⟨⟨q1, q2⟩, k⟩
  go_wp2_with fail
  refine wp_region_N (fun v => (v.cell? ⟨W, 12, none⟩ = some (.pointer (some ⟨LB, 0, none⟩)) ∧ v.cell? ⟨W, 13, none⟩ = some (.slice na ns.length nc)) ∧ Ext w1 v) 12 13 (by kernel_rfl) (by kernel_rfl) ?_
  intro ops hops
  have HR := HSV.out _ (Ext.refl w1).drew
  refine N_take (i := 0) (v := ?_) (by rw [hops, List.getElem?_toArray]; rfl) (by rw [hops]; kernel_rfl) (by intro c a d v w h; cases d <;> exact h) (by first | rfl | (rw [hops]; rfl)) ?_ HR ?_
  rotate_left
  · intro v h; go_simp; with_reducible rfl
  simp only [Act.put, List.getElem_toArray, List.getElem_cons_zero, List.getElem_cons_succ, List.setIfInBounds_toArray, List.set_cons_zero, List.set_cons_succ]
  refine N_take (i := 1) (v := ?_) (by rw [hops, List.getElem?_toArray]; rfl) (by rw [hops]; kernel_rfl) (by intro c a d v w h; cases d <;> exact h) (by first | rfl | (rw [hops]; rfl)) ?_ HR ?_
  rotate_left
  · intro v h; go_simp; with_reducible rfl
  simp only [Act.put, List.getElem_toArray, List.getElem_cons_zero, List.getElem_cons_succ, List.setIfInBounds_toArray, List.set_cons_zero, List.set_cons_succ]
  refine N_take (i := 2) (v := ?_) (by rw [hops, List.getElem?_toArray]; rfl) (by rw [hops]; kernel_rfl) (by intro c a d v w h; cases d <;> exact h) (by first | rfl | (rw [hops]; rfl)) ?_ HR ?_
  rotate_left
  · intro v h; go_simp; with_reducible rfl
  simp only [Act.put, List.getElem_toArray, List.getElem_cons_zero, List.getElem_cons_succ, List.setIfInBounds_toArray, List.set_cons_zero, List.set_cons_succ]
  refine N_take (i := 3) (v := ?_) (by rw [hops, List.getElem?_toArray]; rfl) (by rw [hops]; kernel_rfl) (by intro c a d v w h; cases d <;> exact h) (by first | rfl | (rw [hops]; rfl)) ?_ HR ?_
  rotate_left
  · intro v h; go_simp; with_reducible rfl
  simp only [Act.put, List.getElem_toArray, List.getElem_cons_zero, List.getElem_cons_succ, List.setIfInBounds_toArray, List.set_cons_zero, List.set_cons_succ]
  refine N_take (i := 5) (v := ?_) (by rw [hops, List.getElem?_toArray]; rfl) (by rw [hops]; kernel_rfl) (by intro c a d v w h; cases d <;> exact h) (by first | rfl | (rw [hops]; rfl)) ?_ HR ?_
  rotate_left
  · intro v h; go_simp; with_reducible rfl
  simp only [Act.put, List.getElem_toArray, List.getElem_cons_zero, List.getElem_cons_succ, List.setIfInBounds_toArray, List.set_cons_zero, List.set_cons_succ]
  refine N_take (i := 6) (v := ?_) (by rw [hops, List.getElem?_toArray]; rfl) (by rw [hops]; kernel_rfl) (by intro c a d v w h; cases d <;> exact h) (by first | rfl | (rw [hops]; rfl)) ?_ HR ?_
  rotate_left
  · intro v h; go_simp; with_reducible rfl
  simp only [Act.put, List.getElem_toArray, List.getElem_cons_zero, List.getElem_cons_succ, List.setIfInBounds_toArray, List.set_cons_zero, List.set_cons_succ]
  refine N_take (i := 7) (v := ?_) (by rw [hops, List.getElem?_toArray]; rfl) (by rw [hops]; kernel_rfl) (by intro c a d v w h; cases d <;> exact h) (by first | rfl | (rw [hops]; rfl)) ?_ HR ?_
  rotate_left
  · intro v h; go_simp; with_reducible rfl
  simp only [Act.put, List.getElem_toArray, List.getElem_cons_zero, List.getElem_cons_succ, List.setIfInBounds_toArray, List.set_cons_zero, List.set_cons_succ]
  refine N_take (i := 8) (v := ?_) (by rw [hops, List.getElem?_toArray]; rfl) (by rw [hops]; kernel_rfl) (by intro c a d v w h; cases d <;> exact h) (by first | rfl | (rw [hops]; rfl)) ?_ HR ?_
  rotate_left
  · intro v h; go_simp; with_reducible rfl
  simp only [Act.put, List.getElem_toArray, List.getElem_cons_zero, List.getElem_cons_succ, List.setIfInBounds_toArray, List.set_cons_zero, List.set_cons_succ]
  refine N_take (i := 9) (v := ?_) (by rw [hops, List.getElem?_toArray]; rfl) (by rw [hops]; kernel_rfl) (by intro c a d v w h; cases d <;> exact h) (by first | rfl | (rw [hops]; rfl)) ?_ HR ?_
  rotate_left
  · intro v h; go_simp; with_reducible rfl
  simp only [Act.put, List.getElem_toArray, List.getElem_cons_zero, List.getElem_cons_succ, List.setIfInBounds_toArray, List.set_cons_zero, List.set_cons_succ]
  have hal : ∀ Q, Alloc1 Tryz.prog ops Q 11 6 (.cells #[.int .i64 0, .int .i64 0, .slice none 0 0] 128 (0, 0)) := fun Q => ⟨⟨_, by rw [hops, List.getElem?_toArray]; rfl, fun t => rfl, fun a w K hK => by go_wp2_with fail; exact hK⟩⟩
  have hgr := CG1.grows (Z := .cells #[.int .i64 0, .int .i64 0, .slice none 0 0] 128 (0, 0)) (w0 := w1) (F := fun _ => False) (S := fun v => (v.cell? ⟨W, 12, none⟩ = some (.pointer (some ⟨LB, 0, none⟩)) ∧ v.cell? ⟨W, 13, none⟩ = some (.slice na ns.length nc)) ∧ Ext w1 v) (fun k h => h.elim) (fun v k => HSV.out v (k.toExt fun _ h => h.elim))
  refine WB_start (i1 := 11) (d1 := 6) (f := 3) (C := CG1 w1 (fun _ => False) (.cells #[.int .i64 0, .int .i64 0, .slice none 0 0] 128 (0, 0))) undef ⟨(Ext.refl w1).drew, fun h => by cases h⟩ (by rfl) (by rfl) (by rfl) ?_
  refine WB_call (hal _) hgr (c := 4) (fun v => CLB (fun _ => v = .int .i64 (L.length : Int)) (CG1 w1 (fun _ => False) (.cells #[.int .i64 0, .int .i64 0, .slice none 0 0] 128 (0, 0)))) (by rw [hops]; kernel_rfl) (by rw [hops, List.getElem?_toArray]; rfl) rfl (fun t => rfl) (by decide) (fun v b1 x w' h => hgr.s _ _ _ h.2) ?_ ?_
  · intro b1 x1 v hC K hK
    simp only [Act.put, List.setIfInBounds_toArray, List.set_cons_zero, List.set_cons_succ]
    go_wp2_with fail
    refine (CNT.out v hC.1).mono ?_
    rintro e v' ⟨rfl, hx⟩
    exact hK _ _ ⟨rfl, hC.ext hx⟩ _ (by simp only [Act.put, List.setIfInBounds_toArray, List.set_cons_zero, List.set_cons_succ] <;> rfl)
  intro v19
  simp only [Act.put, List.setIfInBounds_toArray, List.set_cons_zero, List.set_cons_succ]
  have hgr2 := CLB.grows (p := fun _ => v19 = .int .i64 (L.length : Int)) hgr (fun _ _ h _ => h)
  refine WB_pure (φ := v19 = .int .i64 (L.length : Int)) (fun b1 x1 v h => h.1) ?_
  rintro rfl
  refine WB_take (i := 10) (v := ?_) (fun _ _ _ h => hgr.s _ _ _ h.2) (by rw [hops, List.getElem?_toArray]; rfl) rfl (fun t => rfl) (by decide) (by rw [hops]; kernel_rfl) (by intro c a d v w h; cases d <;> exact h) ?_ ?_
  rotate_left
  · intro x1 v h
    simp only [Act.put, List.setIfInBounds_toArray, List.set_cons_zero, List.set_cons_succ]
    go_simp
    with_reducible rfl
  simp only [Act.put, List.setIfInBounds_toArray, List.set_cons_zero, List.set_cons_succ]
  have hgr3 := CLB.grows (p := fun _ => True) hgr (fun _ _ _ _ => trivial)
  refine WB_last (hal _) (by first | exact hgr3 | exact hgr2) (by rw [hops]; kernel_rfl) ?_
  rintro x1 v ⟨-, hxv, hz⟩
  obtain ⟨SB, rfl, hg0, -, hgb⟩ := hz rfl
  simp only [Act.put, List.setIfInBounds_toArray, List.set_cons_zero, List.set_cons_succ]
  have k0 := cell_of hgb 0
  have k1 := cell_of hgb 1
  have k2 := cell_of hgb 2
  have kf := frozen_of hgb
  refine N_one (i := 12) (by rw [hops, List.getElem?_toArray]; rfl) (by rw [hops]; kernel_rfl) (by first | rfl | (rw [hops]; rfl)) ?_
  intro K hK
  go_wp2_with fail
  try rw [← hops]
  have hw1 := X1.out.size
  have hb6 : (((v.setCell ⟨SB, 0, none⟩ (.int .i64 (L.length : Int))).setCell ⟨SB, 1, none⟩ (.int .i64 (ns.length : Int))).setCell ⟨SB, 2, none⟩ (.slice none 0 0)).heap[SB]? = some (.cells #[.int .i64 (L.length : Int), .int .i64 (ns.length : Int), .slice none 0 0] 128 (0, 0)) := heap_setCell_same (heap_setCell_same (heap_setCell_same hgb 0 _) 1 _) 2 _
  have hk6 : Kp (fun j => j = SB) v (((v.setCell ⟨SB, 0, none⟩ (.int .i64 (L.length : Int))).setCell ⟨SB, 1, none⟩ (.int .i64 (ns.length : Int))).setCell ⟨SB, 2, none⟩ (.slice none 0 0)) := (((Kp.refl (fun j => j = SB) v).setCell (p := ⟨SB, 0, none⟩) (.inl rfl) _).setCell (p := ⟨SB, 1, none⟩) (.inl rfl) _).setCell (p := ⟨SB, 2, none⟩) (.inl rfl) _
  have hx6 : Ext w (((v.setCell ⟨SB, 0, none⟩ (.int .i64 (L.length : Int))).setCell ⟨SB, 1, none⟩ (.int .i64 (ns.length : Int))).setCell ⟨SB, 2, none⟩ (.slice none 0 0)) := (X1.out.trans hxv).kp hk6 (fun j e => by omega)
  have hN6 : (((v.setCell ⟨SB, 0, none⟩ (.int .i64 (L.length : Int))).setCell ⟨SB, 1, none⟩ (.int .i64 (ns.length : Int))).setCell ⟨SB, 2, none⟩ (.slice none 0 0)).heap[N]? = w0.heap[N]? := by
    have h1 := heap_lt HB1.out
    rw [HB0.out]
    exact hk6.heap_some (by omega) (hxv.heap_some HB1.out)
  generalize (((v.setCell ⟨SB, 0, none⟩ (.int .i64 (L.length : Int))).setCell ⟨SB, 1, none⟩ (.int .i64 (ns.length : Int))).setCell ⟨SB, 2, none⟩ (.slice none 0 0)) = v6 at *
  have A0 := hid (HH.out.begin hx6 hb6 (by omega))
  have X6 := hid hx6
  have HN6 := hid hN6
  have HSBN : Hid (N < SB) := hid (by have h1 := heap_lt HB1.out; omega)
  clear hb6 hk6 hx6 hN6 k0 k1 k2 kf hgb hal hgr hgr2 hgr3 HR hz hxv HSV CNT HB1
  refine N_done (by rw [hops]; kernel_rfl) ?_
  clear hops ops
  obtain ⟨b0, b1, b2, b3, b4, b5⟩ := six_cellsB (HN6.out.trans HB0.out)
  go_wp2_with fail
  clear b0 b1 b2 b3 b4 b5
  go_loopw [29] (fun iv wr => ∃ (i : Nat) (nv' sv' : Value) (FT' : Nat → Prop), i ≤ b.txs.length ∧ iv = .int .i64 i ∧ Hid (ApS wr W d r seed (txsTo seed (ps.length + 1) ⟨L, ns, []⟩ b.txs i) ps ob LB nv' pv FO FT' SB L.length ns.length sv' ∧ Kp (WF W FT (.slice na ns.length nc) pv) w wr ∧ (∀ j, AF W FT' nv' pv SB sv' j → (WF W FT (.slice na ns.length nc) pv j ∨ w.heap.size ≤ j) ∧ j ≠ N) ∧ wr.heap[N]? = w0.heap[N]?)) (fun iv _ => b.txs.length - (intOf iv).toNat)
  case atStart =>
    refine ⟨0, _, _, FT, by omega, rfl, hid ⟨A0.out, .of_ext X6.out, fun j hj => ?_, HN6.out⟩⟩
    have hwf : ∀ j, WF W FT (.slice na ns.length nc) pv j → j < w.heap.size := fun j hj => by
      rcases hj with e | e | e | e
      · subst e; exact heap_lt HH.out.self
      · exact HH.out.tl j e
      · exact ownsRow_lt HH.out.notes e
      · exact ownsRow_lt HH.out.past e
    have h1 := HNw.out
    have h2 := HSBN.out
    rcases hj with e | e | e
    · have := hwf j e
      exact ⟨.inl e, by omega⟩
    · exact ⟨.inr (by omega), by omega⟩
    · cases e
  case round =>
    obtain ⟨i, nv', sv', FT', hi, rfl, HI⟩ := hrel
    have hi0 : (0 : Int) ≤ (i : Int) := Int.natCast_nonneg _
    by_cases hlt : i < b.txs.length
    · have hltB : decide ((i : Int) < (b.txs.length : Int)) = true := by simp; omega
      have hil : (i : Int) < (b.txs.length : Int) := by omega
      obtain ⟨x, hxi⟩ : ∃ x, b.txs[i]? = some x := ⟨_, List.getElem?_eq_getElem hlt⟩
      have hxB := HEX.out wr HI.out.2.1
      obtain ⟨q, o, ma, mc, oa, oc, pa, pc, rfl, hrx, e0, e1, e2, e3, e4, e5, e6, e7, e8, e9⟩ := HB.out.at hxi
      replace e0 := hxB _ _ e0
      replace e1 := hxB _ _ e1
      replace e2 := hxB _ _ e2
      replace e3 := hxB _ _ e3
      replace e4 := hxB _ _ e4
      replace e5 := hxB _ _ e5
      replace e6 := hxB _ _ e6
      replace e7 := hxB _ _ e7
      replace e8 := hxB _ _ e8
      replace e9 := hxB _ _ e9
      have HXI := hid hxi
      have HRX := hid hrx
      have HSX := hid (HS.out x (List.mem_of_getElem? hxi))
      have HVX := hid (HVA.out x (List.mem_of_getElem? hxi))
      have HST := hid (txsTo_ok (seed := seed) (h := ps.length + 1) (l := b.txs) HOK.out (Nat.le_refl _) i hi)
      have HLL := hid (txsTo_leaves (seed := seed) (h := ps.length + 1) (S := ⟨L, ns, []⟩) (l := b.txs) i hi)
      have HSN := hid (outsN_snoc hxi)
      have HMO := hid (outsN_mono (l := b.txs) (i + 1))
      clear hxi hrx hxB
      go_upto_region 8 with fail
      obtain ⟨Q, hQ⟩ : ∃ Q, Q = wr.heap.size := ⟨_, rfl⟩
      obtain ⟨u1, hu1⟩ : ∃ u1, u1 = wr.alloc (.cells #[uv x.anchor, .slice ma x.marks.length mc, .slice oa x.outs.length oc, uv x.deposit, uv x.withdraw, uv x.fee, uv x.account, uv x.nonce, .int .i64 x.expiry, .slice pa x.proof.length pc] 101) := ⟨_, rfl⟩
      rw [← hu1, ← hQ]
      have G1 : Hid (Ext wr u1) := hid (by rw [hu1]; exact (Ext.refl _).alloc _)
      have QB : Hid (u1.heap[Q]? = some (.cells #[uv x.anchor, .slice ma x.marks.length mc, .slice oa x.outs.length oc, uv x.deposit, uv x.withdraw, uv x.fee, uv x.account, uv x.nonce, .int .i64 x.expiry, .slice pa x.proof.length pc] 101 (0, 0))) := hid (by rw [hu1, hQ]; exact heap_new _ _)
      have HQ : Hid (∀ j, AF W FT' nv' pv SB sv' j → j ≠ Q ∧ j ≠ N) := hid fun j hj => ⟨by have := HI.out.1.lt j hj; omega, (HI.out.2.2.1 j hj).2⟩
      clear hu1 hQ e0 e1 e2 e3 e4 e5 e6 e7 e8 e9
      have h2d : 2 ^ d ≤ 4096 := by
        have : 2 ^ d ≤ 2 ^ 12 := Nat.pow_le_pow_right (by omega) HH.out.dep.2.2
        omega
      have hnn : (txsTo seed (ps.length + 1) ⟨L, ns, []⟩ b.txs i).notes.length ≤ 10000 := by
        have h1 := HST.out.n
        have h2 := HLL.out
        have h3 := HMO.out
        have h4 := HSN.out
        have h5 := HFU.out
        try simp only at h2
        omega
      have A1 := HI.out.1.ext G1.out
      have hAw : ∀ u, Kp (AF W FT' nv' pv SB sv') u1 u → Sub wB u := fun u ku => HEX.out u (Kp.chain (HI.out.2.1.ext G1.out) (fun j hj => (HI.out.2.2.1 j hj).1) ku)
      have hsp : (txsTo seed (ps.length + 1) ⟨L, ns, []⟩ b.txs i).sp.length ≤ 10000000 := by
        have h1 := HST.out.s
        have h5 := HFU.out
        try simp only at h1
        have h6 : i * (L.length + outsN b.txs) ≤ 100 * 4096 := Nat.mul_le_mul (by omega) (by omega)
        omega
      have hhe2 : ((ps.length + 1 : Nat) : Int) = b.height := by rw [HHE.out]; push_cast; rfl
      have SPD := walSpend_any A1 hnn HST.out.r hsp x (.slice ma x.marks.length mc) (.slice oa x.outs.length oc) (.slice pa x.proof.length pc) (fun u ku => HRX.out.m.sub (hAw u ku)) ⟨oa, oc, pa, pc, rfl, rfl⟩ HSX.out.m (ps.length + 1)
      rw [hhe2] at SPD
      have HSPD := hid SPD
      have HHE2 := hid hhe2
      have HNN := hid hnn
      have H2D := hid h2d
      clear SPD hAw hsp hhe2 A1 hnn h2d
      obtain ⟨c0, c1, c2, c3, c4, c5, c6, c7, c8, c9⟩ := ten_cells QB.out
      have cN : u1.cell? ⟨N, 1, none⟩ = some (.int .i64 b.height) := cell_of (G1.out.heap_some (HI.out.2.2.2.trans HB0.out)) 1
      go_wp2_with fail
      refine (HSPD.out).mono ?_
      rintro e u2 ⟨rfl, sv2, hA2, hk2, hs2⟩
      have A2 := hid hA2
      have K2 := hid hk2
      have S2 := hid hs2
      have QB2 := hid (hk2.heap_some (fun e => (HQ.out Q e).1 rfl) QB.out)
      have N1 := G1.out.heap_some (HI.out.2.2.2.trans HB0.out)
      have N2 := hid (hk2.heap_some (fun e => (HQ.out N e).2 rfl) N1)
      have hNl := heap_lt N1
      have hQl := heap_lt QB.out
      have HS2 : Hid (∀ j, AF W FT' nv' pv SB sv2 j → (WF W FT (.slice na ns.length nc) pv j ∨ w.heap.size ≤ j) ∧ j ≠ N) := hid fun j hj => by
        rcases hs2 j hj with e | e
        · exact HI.out.2.2.1 j e
        · have h1 := HI.out.2.1.size
          have h2 := G1.out.size
          exact ⟨.inr (by omega), by omega⟩
      have KW2 := hid (Kp.chain (HI.out.2.1.ext G1.out) (fun j hj => (HI.out.2.2.1 j hj).1) hk2)
      have hAw2 : ∀ u, Kp (AF W FT' nv' pv SB sv2) u2 u → Sub wB u := fun u ku => HEX.out u (Kp.chain KW2.out (fun j hj => (HS2.out j hj).1) ku)
      have hnn2 : (spendW (kSpend seed) (ps.length + 1) x.marks (txsTo seed (ps.length + 1) ⟨L, ns, []⟩ b.txs i)).notes.length ≤ 10000 := by
        unfold spendW
        rw [spendTo_length]
        exact HNN.out
      have hLL : (spendW (kSpend seed) (ps.length + 1) x.marks (txsTo seed (ps.length + 1) ⟨L, ns, []⟩ b.txs i)).leaves.length + x.outs.length ≤ 2 ^ d := by
        have h2 := HLL.out
        have h3 := HMO.out
        have h4 := HSN.out
        have h5 := HFU.out
        try simp only at h2
        show (txsTo seed (ps.length + 1) ⟨L, ns, []⟩ b.txs i).leaves.length + x.outs.length ≤ 2 ^ d
        omega
      have RCV := walReceive_any hA2 hnn2 x (.slice ma x.marks.length mc) (.slice oa x.outs.length oc) (.slice pa x.proof.length pc) hAw2 HRX.out HSX.out HVX.out hLL (ps.length + 1)
      rw [HHE2.out, ← txsTo_succ HXI.out] at RCV
      have HRCV := hid RCV
      clear RCV hLL hnn2 hAw2 hNl hQl N1 hA2 hk2 hs2 c0 c1 c2 c3 c4 c5 c6 c7 c8 c9 cN HSPD QB
      obtain ⟨c0, c1, c2, c3, c4, c5, c6, c7, c8, c9⟩ := ten_cells QB2.out
      have cN := cell_of N2.out 1
      go_wp2_with fail
      refine (HRCV.out).mono ?_
      rintro e u3 ⟨rfl, nv3, FT3, hA3, hk3, hs3⟩
      have HN : Hid _ := hid (And.intro hA3 (And.intro (Kp.chain KW2.out (fun j hj => (HS2.out j hj).1) hk3) (And.intro (fun j (hj : AF W FT3 nv3 pv SB sv2 j) => show (WF W FT (.slice na ns.length nc) pv j ∨ w.heap.size ≤ j) ∧ j ≠ N from by
        rcases hs3 j hj with e | e
        · exact HS2.out j e
        · have h1 := KW2.out.size
          have h2 := heap_lt N2.out
          exact ⟨.inr (by omega), by omega⟩) (show u3.heap[N]? = w0.heap[N]? from by
        rw [HB0.out]
        exact hk3.heap_some (fun e => (HS2.out N e).2 rfl) N2.out))))
      clear hA3 hk3 hs3 c0 c1 c2 c3 c4 c5 c6 c7 c8 c9 cN HRCV
      go_wp2_with fail
      go_roundw
      case rel => exact ⟨i + 1, nv3, sv2, FT3, by omega, by go_num, HN⟩
      case measure => simp [intOf]; omega
    · have hltB : decide ((i : Int) < (b.txs.length : Int)) = false := by simp; omega
      obtain rfl : i = b.txs.length := by omega
      obtain ⟨qa, qc, rfl, -⟩ := ownsRow_rd HI.out.1.wal.past
      obtain ⟨sa, sc, rfl, -⟩ := ownsRow_rd HI.out.1.box.own
      obtain ⟨j0, hj, hjz0, hjz1, hjz2⟩ := info_parts Tryz.infoSc
      have HJ := hid (And.intro hj (And.intro hjz0 (And.intro hjz1 hjz2)))
      clear hj hjz0 hjz1 hjz2
      have HC11 : Hid (∀ v, Ext wr v → (v.cell? ⟨W, 14, none⟩ = some (.slice qa ps.length qc) ∧ v.cell? ⟨SB, 0, none⟩ = some (.int .i64 (L.length : Int)) ∧ v.cell? ⟨SB, 1, none⟩ = some (.int .i64 (ns.length : Int)) ∧ v.cell? ⟨SB, 2, none⟩ = some (.slice sa (txsTo seed (ps.length + 1) ⟨L, ns, []⟩ b.txs b.txs.length).sp.length sc))) := hid fun v k => by
        obtain ⟨-, -, -, -, -, -, q6⟩ := (HI.out.1.wal.ext k).cells
        have hb := k.heap_some HI.out.1.box.box
        exact ⟨q6, cell_of hb 0, cell_of hb 1, cell_of hb 2⟩
      go_wp2_with fail
      refine wp_region_T (fun v => (v.cell? ⟨W, 14, none⟩ = some (.slice qa ps.length qc) ∧ v.cell? ⟨SB, 0, none⟩ = some (.int .i64 (L.length : Int)) ∧ v.cell? ⟨SB, 1, none⟩ = some (.int .i64 (ns.length : Int)) ∧ v.cell? ⟨SB, 2, none⟩ = some (.slice sa (txsTo seed (ps.length + 1) ⟨L, ns, []⟩ b.txs b.txs.length).sp.length sc))) 8 [(0, true), (1, true), (2, true), (3, true), (4, true), (5, true), (6, false), (7, false), (8, false), (9, false), (10, false)] (by kernel_rfl) (by kernel_rfl) (by intro c a d v w h; cases d <;> exact h) ?_
      intro ops hops
      have HSS := HC11.out _ (Ext.refl wr).drew
      iterate 6
        refine wpT_take (v := ?_) (by rw [hops, List.getElem?_toArray]; rfl) (by first | rfl | (rw [hops]; rfl)) ?_ HSS ?_
        rotate_left
        · intro v h; go_simp; with_reducible rfl
        simp only [Act.put, List.getElem_toArray, List.getElem_cons_zero, List.getElem_cons_succ, List.setIfInBounds_toArray, List.set_cons_zero, List.set_cons_succ]
      clear HSS
      refine wpT_step (by rw [hops, List.getElem?_toArray]; rfl) (by first | rfl | (rw [hops]; rfl)) ?_
      intro K hK
      go_wp2_with fail
      refine ⟨by first | exact fun _ => HC11.out _ ((Ext.refl wr).alloc _).drew | exact HC11.out _ ((Ext.refl wr).alloc _).drew | exact fun _ => HC11.out _ ((Ext.refl wr).alloc _), ?_⟩
      try rw [← hops]
      refine wpT_step (by rw [hops, List.getElem?_toArray]; rfl) (by first | rfl | (rw [hops]; rfl)) ?_
      intro K hK
      have hx8 : Ext wr (wr.alloc (.cells #[.int .i64 (L.length : Int), .int .i64 (ns.length : Int), .slice sa (txsTo seed (ps.length + 1) ⟨L, ns, []⟩ b.txs b.txs.length).sp.length sc] 128)).drew := ((Ext.refl wr).alloc _).drew
      have O8 := ownsRow_ext HI.out.1.wal.past hx8
      have hrd : RdC' (wr.alloc (.cells #[.int .i64 (L.length : Int), .int .i64 (ns.length : Int), .slice sa (txsTo seed (ps.length + 1) ⟨L, ns, []⟩ b.txs b.txs.length).sp.length sc] 128)).drew (.slice (some ⟨wr.heap.size, 0, none⟩) 1 1) 1 [.int .i64 (L.length : Int), .int .i64 (ns.length : Int), .slice sa (txsTo seed (ps.length + 1) ⟨L, ns, []⟩ b.txs b.txs.length).sp.length sc] := (rows_block (heap_new wr _)).ext (Ext.refl _).drew
      have hpn := HPN.out
      refine wp_app' _ _ 113 rfl 128 j0 (.agg #[.int .i64 0, .int .i64 0, .slice none 0 0]) 3 40 (by kernel_rfl) HJ.out.1 HJ.out.2.1 HJ.out.2.2.1 HJ.out.2.2.2 rfl (by decide) (.slice qa ps.length qc) ps.length (ps.flatMap scCells) rfl O8 (.slice (some ⟨wr.heap.size, 0, none⟩) 1 1) 1 [.int .i64 (L.length : Int), .int .i64 (ns.length : Int), .slice sa (txsTo seed (ps.length + 1) ⟨L, ns, []⟩ b.txs b.txs.length).sp.length sc] rfl hrd rfl (by intro u hu; simp only [List.mem_cons, List.not_mem_nil, or_false] at hu; rcases hu with rfl | rfl | rfl <;> rfl) (by unfold maxLen; omega) (by omega) ?_
      intro v7 w7 own7 hk7 hb7
      obtain ⟨sa7, sc7, rfl, -⟩ := ownsRow_rd own7
      have k67 : Kp (fun k => blk (.slice qa ps.length qc) = some k) wr w7 := (Kp.of_ext hx8).trans (hk7.mono fun _ _ e => e.symm)
      have hnW : blk (.slice qa ps.length qc) ≠ some W := HI.out.1.wal.wp
      have hnS : blk (.slice qa ps.length qc) ≠ some SB := fun e => HI.out.1.sb (.inr (.inr (.inr e)))
      have AN := HI.out.1.finish hx8 hk7 (by first | exact hb7 | simpa using hb7) own7
      have hbW := k67.heap_some (fun e => hnW e) HI.out.1.wal.self
      obtain ⟨s0, s1, s2, s3⟩ := HC11.out wr (Ext.refl wr)
      refine hK _ _ ⟨fun _ => ⟨k67.cell_some (fun e => hnW e) s0, k67.cell_some (fun e => hnS e) s1, k67.cell_some (fun e => hnS e) s2, k67.cell_some (fun e => hnS e) s3⟩, ?_⟩
      clear hK K
      have hbk : blkW seed (ps.length + 1) L ns b = (txsTo seed (ps.length + 1) ⟨L, ns, []⟩ b.txs b.txs.length) := by unfold txsTo; rw [List.take_length]; rfl
      have HT : Hid (AppTo w W d r seed L ns ps ob LB (.slice na ns.length nc) (.slice qa ps.length qc) FO FT b (w7.setCell ⟨W, 14, none⟩ (.slice sa7 (ps.length + 1) sc7))) := hid (by
        refine ⟨nv', _, FT', _, by rw [hbk]; exact AN.1, Kp.chain HI.out.2.1 (fun j hj => (HI.out.2.2.1 j (.inl hj)).1) AN.2.1, fun j hj => ?_⟩
        rcases AN.2.2 j hj with e | e
        · exact (HI.out.2.2.1 j (.inl e)).1
        · have := HI.out.2.1.size; exact .inr (by omega))
      have fz := frozen_of hbW
      have b14 := cell_of hbW 14
      clear own7 hk7 hb7 k67 hnW hnS AN hbW s0 s1 s2 s3 hbk O8 hrd hx8
      refine wpT_step (by rw [hops, List.getElem?_toArray]; rfl) (by first | rfl | (rw [hops]; rfl)) ?_
      intro K hK
      go_wp2_with fail
      try (with_reducible refine ⟨fun h => absurd h (by decide), ?_⟩)
      try rw [← hops]
      refine wpT_step (by rw [hops, List.getElem?_toArray]; rfl) (by first | rfl | (rw [hops]; rfl)) ?_
      intro K hK
      go_wp2_with fail
      try (with_reducible refine ⟨fun h => absurd h (by decide), ?_⟩)
      try rw [← hops]
      refine wpT_step (by rw [hops, List.getElem?_toArray]; rfl) (by first | rfl | (rw [hops]; rfl)) ?_
      intro K hK
      go_wp2_with fail
      try (with_reducible refine ⟨fun h => absurd h (by decide), ?_⟩)
      try rw [wpT_nil]
      try clear hops ops
      go_wp2_with fail
      go_ret
      first | exact ⟨rfl, HT.out⟩ | exact ⟨rfl, fun e => absurd rfl e, HT.out⟩ | exact ⟨rfl, fun e => absurd rfl e, fun _ => HT.out⟩ | exact HT.out | exact ⟨rfl, (by trivial), HT.out⟩
end Go.Proofs.YtcikjcjfcanloaaGreat
namespace Go.Proofs.YtcikjcjfcanloaaGreat
open Go.RowKit
attribute [local irreducible] perm fAdd fMul fPow fSub fNeg fRed hashU
/-- A list of notes of the call's own. -/
abbrev OwnN (w : World) (v : Value) (l : List OwT) : Prop := w.ownsRow 0 39 8 v l.length (l.flatMap owCells)
theorem own_emptyN (v : World) : (v.alloc (.cells #[] 39)).ownsRow 0 39 8 (.slice (some ⟨v.heap.size, 0, none⟩) 0 0) 0 [] := ⟨rfl, .inr ⟨v.heap.size, 0, #[], rfl, Nat.zero_le _, heap_new v _, Nat.le_refl _, Nat.zero_le _, rfl, rfl⟩⟩
set_option maxRecDepth 100000 in
set_option maxHeartbeats 6400000 in
theorem walLeaves_any {w : World} {W d : Nat} {r : Rl} {seed : UInt64} {L : List UInt64} {ns : List OwT} {ps : List (ScT × Value)} {ob LB : Nat} {nv pv : Value} {FO FT A : Nat → Prop} (h : WalIn w W d r seed L ns ps ob LB nv pv FO FT A) (hL : L.length ≤ 100000) :
    Calls Tryz.prog 82 #[.pointer (some ⟨W, 0, none⟩)] w fun e w' => ∃ u, e = .returned u ∧ OwnU w' u L ∧ Ext w w' ∧ ∀ k, blk u = some k → w.heap.size ≤ k := by
  have CNT : Hid (∀ v, Ext w v → Calls Tryz.prog 88 #[.pointer (some ⟨LB, 0, none⟩)] v fun e w' => e = .returned (.int .i64 (L.length : Int)) ∧ Ext v w') := hid fun v k => treeCount_any (h.tree.ext k) h.dep.2.1
  have LF : Hid (∀ v (p : Nat) (x : UInt64), Ext w v → L[p]? = some x → Calls Tryz.prog 114 #[.pointer (some ⟨LB, 0, none⟩), .int .i64 (p : Int)] v fun e w' => e = .returned (.tuple #[uv x, .bool true]) ∧ Ext v w') := hid fun v p x k hx => treeLeaf_any (h.tree.ext k) h.dep.2.1 hx
  obtain ⟨-, -, -, -, e4, -, -⟩ := h.cells
  have H4 := hid e4
  obtain ⟨i0, hi, hz0, hz1, hz2⟩ := info_parts Tryz.infoU
  have HI0 := hid (And.intro hi (And.intro hz0 (And.intro hz1 hz2)))
  have hLI : (L.length : Int) ≤ 100000 := by omega
  clear h hi hz0 hz1 hz2
  go_enter Tryz.func82, Tryz.ntmps82
  go_wp2_with fail
  refine (CNT.out _ (Ext.refl w)).mono ?_
  rintro e w1 ⟨rfl, hx⟩
  have X1 := hid hx
  clear hx e4
  go_wp2_with (at_make; refine wpList_make_own _ rfl _ _ 57 rfl 0 22 i0 (.int .u64 0) 1 Tryz.underlying57 HI0.out.1 HI0.out.2.1 HI0.out.2.2.1 _ _ _ L.length rfl rfl rfl (by rw [HI0.out.2.2.2]; omega) (by unfold maxLen; omega) (Nat.zero_le _) ?_)
  intro w2 hown0 hg
  have hE : Ext w1 w2 := (grown_kp hg).toExt (by intro k h; cases h)
  have H1 : Hid (OwnU w2 (.slice (some ⟨w1.heap.size, 0, none⟩) 0 L.length) [] ∧ Ext w w2 ∧ ∀ k, blk (.slice (some ⟨w1.heap.size, 0, none⟩) 0 L.length) = some k → w.heap.size ≤ k) := hid ⟨hown0, X1.out.trans hE, fun k e => by
    change some w1.heap.size = some k at e
    have := Option.some.inj e
    have := X1.out.size
    omega⟩
  have e4 := H1.out.2.1.cell_some H4.out
  clear hown0 hg hE
  go_wp2_with fail
  refine (CNT.out _ H1.out.2.1).mono ?_
  rintro e w3 ⟨rfl, hx⟩
  have H3 : Hid (OwnU w3 (.slice (some ⟨w1.heap.size, 0, none⟩) 0 L.length) [] ∧ Ext w w3 ∧ ∀ k, blk (.slice (some ⟨w1.heap.size, 0, none⟩) 0 L.length) = some k → w.heap.size ≤ k) := hid ⟨ownsRow_ext H1.out.1 hx, H1.out.2.1.trans hx, H1.out.2.2⟩
  clear hx e4 CNT H1
  go_wp2_with fail
  go_loopw [3, 23] (fun bv iv wr => ∃ i : Nat, i ≤ L.length ∧ iv = .int .i64 i ∧ Hid (OwnU wr bv (L.take i) ∧ Ext w wr ∧ ∀ k, blk bv = some k → w.heap.size ≤ k)) (fun _ iv _ => L.length - (intOf iv).toNat)
  case atStart => exact ⟨0, by omega, rfl, H3⟩
  case round =>
    obtain ⟨i, hi, rfl, HI⟩ := hrel
    have hi0 : (0 : Int) ≤ (i : Int) := Int.natCast_nonneg _
    by_cases hlt : i < L.length
    · have hltB : decide ((i : Int) < (L.length : Int)) = true := by simp; omega
      have hil : (i : Int) < (L.length : Int) := by omega
      obtain ⟨y, hy⟩ : ∃ y, L[i]? = some y := ⟨_, List.getElem?_eq_getElem hlt⟩
      have CD := hid (LF.out wr i y HI.out.2.1 hy)
      have HT : Hid (L.take (i + 1) = L.take i ++ [y]) := hid (by rw [List.take_add_one, hy]; rfl)
      have e4 := HI.out.2.1.cell_some H4.out
      obtain ⟨cur, hcur⟩ : ∃ cur, cur = L.take i := ⟨_, rfl⟩
      rw [← hcur] at HI HT
      have HCL : Hid (cur.length ≤ 100000) := hid (by rw [hcur, List.length_take]; omega)
      clear hy hcur
      go_wp2_with fail
      refine (CD.out).mono ?_
      rintro e x2 ⟨rfl, hx⟩
      have HOX := hid (ownsRow_ext HI.out.1 hx)
      have HY2 := hid (HI.out.2.1.trans hx)
      obtain ⟨ba, bc, rfl, -⟩ := ownsRow_rd HI.out.1
      clear hx e4 CD
      go_wp2_with (at_builtin; refine wpList_app rfl _ _ 57 rfl 22 i0 (.int .u64 0) 1 8 Tryz.underlying57 HI0.out.1 HI0.out.2.1 HI0.out.2.2.1 HI0.out.2.2.2 rfl (by decide) _ cur.length (us cur) rfl (ownsRow_ext HOX.out ((Ext.refl _).alloc _)) _ 1 [.int .u64 y.toNat] rfl (RdC.new1 _ _ _) rfl (us_one [y]) (by have := HCL.out; unfold maxLen; omega) (by have := HCL.out; omega) ?_)
      intro v' w3 hown hk2 hb
      have G : Hid (OwnU w3 v' (cur ++ [y]) ∧ Ext w w3 ∧ ∀ k, blk v' = some k → w.heap.size ≤ k) := hid (by
        refine ⟨?_, (HY2.out.alloc _).kp hk2 (fun k e => HI.out.2.2 k e.symm), fun k e => ?_⟩
        · show w3.ownsRow 0 22 1 v' (cur ++ [y]).length (us (cur ++ [y]))
          rw [List.length_append, show us (cur ++ [y]) = us cur ++ [uv y] by simp [us]]
          exact hown
        · rcases hb with h | h
          · exact HI.out.2.2 k (by rw [← h]; exact e)
          · rw [h] at e
            have := Option.some.inj e
            have := HY2.out.size
            have := ((Ext.refl x2).alloc (.cells #[uv y] 22)).size
            omega)
      obtain ⟨va, vc, rfl, -⟩ := ownsRow_rd hown
      clear hown hk2 hb
      go_wp2_with fail
      go_roundw
      case rel => exact ⟨i + 1, by omega, by go_num, by rw [HT.out]; exact G⟩
      case measure => simp [intOf]; omega
    · have hltB : decide ((i : Int) < (L.length : Int)) = false := by simp; omega
      obtain rfl : i = L.length := by omega
      rw [List.take_length] at HI
      obtain ⟨ba, bc, rfl, -⟩ := ownsRow_rd HI.out.1
      go_wp2_with fail
      go_ret
      exact ⟨_, rfl, HI.out⟩
/-- The bytes of a note that is owned. -/
def owB (x : OwT) : List UInt8 := leB 8 x.note.value ++ leB 8 x.note.owner ++ leB 8 x.note.rho ++ leB 8 x.note.blind ++ lenB (x.number : Int) ++ lenB (x.pos : Int) ++ lenB (x.height : Int) ++ lenB (x.spent : Int)
theorem owB_length (x : OwT) : (owB x).length = 48 := by
  unfold owB
  simp only [List.length_append, leB_length, lenB_length]
def owsB (l : List OwT) : List UInt8 := l.flatMap owB
theorem owsB_length (l : List OwT) : (owsB l).length = 48 * l.length := by
  induction l with
  | nil => rfl
  | cons x r ih =>
    unfold owsB at ih ⊢
    rw [List.flatMap_cons, List.length_append, owB_length, ih, List.length_cons]
    omega
theorem owsB_snoc {l : List OwT} {i : Nat} {x : OwT} (h : l[i]? = some x) : owsB (l.take (i + 1)) = owsB (l.take i) ++ owB x := by
  rw [List.take_add_one, h]; simp [owsB]
/-- The bytes of a wallet with n blocks. -/
def walB (n : Nat) (L : List UInt64) (ns : List OwT) : List UInt8 := lenB (n : Int) ++ listB L ++ lenB (ns.length : Int) ++ owsB ns
set_option maxRecDepth 100000 in
set_option maxHeartbeats 12800000 in
theorem walEncode_any {w : World} {W d : Nat} {r : Rl} {seed : UInt64} {L : List UInt64} {ns : List OwT} {ps : List (ScT × Value)} {ob LB : Nat} {nv pv : Value} {FO FT A : Nat → Prop} (h : WalIn w W d r seed L ns ps ob LB nv pv FO FT A) (hL : L.length ≤ 10000) (hn : ns.length ≤ 10000) :
    Calls Tryz.prog 39 #[.pointer (some ⟨W, 0, none⟩)] w (NewB w (walB ps.length L ns)) := by
  obtain ⟨pa, pc, rfl, -⟩ := ownsRow_rd h.past
  obtain ⟨na, nc, rfl, -⟩ := ownsRow_rd h.notes
  have LV : Hid (∀ v, Ext w v → Calls Tryz.prog 82 #[.pointer (some ⟨W, 0, none⟩)] v fun e w' => ∃ u, e = .returned u ∧ OwnU w' u L ∧ Ext v w' ∧ ∀ k, blk u = some k → v.heap.size ≤ k) := hid fun v k => walLeaves_any (h.ext k) (by omega)
  have HO := hid h.notes
  have HC : Hid (∀ v, Ext w v → v.cell? ⟨W, 13, none⟩ = some (.slice na ns.length nc)) := hid fun v k => by
    obtain ⟨-, -, -, -, -, q, -⟩ := (h.ext k).cells
    exact q
  obtain ⟨-, -, -, -, -, -, e6⟩ := h.cells
  have hnI : (ns.length : Int) ≤ 10000 := by omega
  have HL := hid hL
  have F0 : Hid (FrB w w (.slice none 0 0) []) := hid ⟨World.ownsRow_nil _ _ _ _, Ext.refl w, fun k h => by cases h⟩
  have HNL := hid hn
  clear h hL hn
  obtain ⟨n, hpn⟩ : ∃ n, n = ps.length := ⟨_, rfl⟩
  rw [← hpn] at e6 ⊢
  clear hpn
  go_enter Tryz.func39, Tryz.ntmps39
  go_wp2_with fail
  refine (wInt_fr (n : Int) F0.out (by simp)).mono ?_
  rintro e w1 ⟨v1, rfl, hf, -⟩
  obtain ⟨sa1, sc1, rfl⟩ := hf.sl
  obtain ⟨L1, hL1⟩ : ∃ M, M = ([] ++ lenB (n : Int) : List UInt8) := ⟨_, rfl⟩
  rw [← hL1] at hf ⊢
  have F1 := hid hf
  have HL1 := hid hL1
  have B1 : Hid (L1.length ≤ 4) := hid (by rw [hL1]; simp [lenB_length])
  clear hf hL1 e6
  go_wp2_with fail
  refine (LV.out _ F1.out.2.1).mono ?_
  rintro e w2 ⟨u2, rfl, ho2, hx2, hn2⟩
  have O2 := hid ho2
  have F1b := hid (F1.out.ext hx2)
  obtain ⟨ua, uc, rfl, -⟩ := ownsRow_rd ho2
  clear ho2 hx2 hn2 LV
  go_wp2_with fail
  refine (wList_fr (xs := L) F1b.out (ownsRow_rd O2.out).weak (by have := B1.out; omega) (by have := HL.out; omega)).mono ?_
  rintro e w3 ⟨v3, rfl, hf, -⟩
  obtain ⟨sa3, sc3, rfl⟩ := hf.sl
  obtain ⟨L2, hL2⟩ : ∃ M, M = L1 ++ listB L := ⟨_, rfl⟩
  rw [← hL2] at hf ⊢
  have F2 := hid hf
  have HL2 := hid hL2
  have B2 : Hid (L2.length ≤ 100000) := hid (by rw [hL2, List.length_append, listB_length]; have := B1.out; have := HL.out; omega)
  have e5 := HC.out _ hf.2.1
  clear hf hL2
  go_wp2_with fail
  refine (wInt_fr (ns.length : Int) F2.out (by have := B2.out; omega)).mono ?_
  rintro e w4 ⟨v4, rfl, hf, -⟩
  obtain ⟨sa4, sc4, rfl⟩ := hf.sl
  obtain ⟨L3, hL3⟩ : ∃ M, M = L2 ++ lenB (ns.length : Int) := ⟨_, rfl⟩
  rw [← hL3] at hf ⊢
  have F3 := hid hf
  have HL3 := hid hL3
  have B3 : Hid (L3.length ≤ 200000) := hid (by rw [hL3, List.length_append, lenB_length]; have := B2.out; omega)
  clear e5
  have e5 := HC.out _ hf.2.1
  clear hf hL3
  go_wp2_with fail
  clear e5
  go_loopw [3, 28] (fun bv iv wr => ∃ i : Nat, i ≤ ns.length ∧ iv = .int .i64 i ∧ Hid (FrB w wr bv (L3 ++ owsB (ns.take i)))) (fun _ iv _ => ns.length - (intOf iv).toNat)
  case atStart => exact ⟨0, by omega, rfl, hid (by simpa [owsB] using F3.out)⟩
  case round =>
    obtain ⟨i, hi, rfl, HI⟩ := hrel
    have hi0 : (0 : Int) ≤ (i : Int) := Int.natCast_nonneg _
    by_cases hlt : i < ns.length
    · have hltB : decide ((i : Int) < (ns.length : Int)) = true := by simp; omega
      have hil : (i : Int) < (ns.length : Int) := by omega
      obtain ⟨x, hxi⟩ : ∃ x, ns[i]? = some x := ⟨_, List.getElem?_eq_getElem hlt⟩
      obtain ⟨g, rfl⟩ : ∃ g, na = some ⟨g, 0, none⟩ := own_shape HO.out (by omega)
      have hrow : ∀ j u, j < 8 → (owCells x)[j]? = some u → wr.cell? ⟨g, i * 8 + j, none⟩ = some u := by
        obtain ⟨b, o, e, hc⟩ := rows_at owCells_len (by omega) rfl (ownsRow_rd (ownsRow_ext HO.out HI.out.2.1)).weak hxi
        injection e with e
        injection e with e1 e2
        subst e1 e2
        intro j u hj hu
        have := hc j u hj hu
        rwa [Nat.zero_add] at this
      have f0 : wr.cell? ⟨g, i * 8, none⟩ = some (uv x.note.value) := hrow 0 _ (by omega) rfl
      have f1 : wr.cell? ⟨g, i * 8 + 1, none⟩ = some (uv x.note.owner) := hrow 1 _ (by omega) rfl
      have f2 : wr.cell? ⟨g, i * 8 + 2, none⟩ = some (uv x.note.rho) := hrow 2 _ (by omega) rfl
      have f3 : wr.cell? ⟨g, i * 8 + 3, none⟩ = some (uv x.note.blind) := hrow 3 _ (by omega) rfl
      have f4 : wr.cell? ⟨g, i * 8 + 4, none⟩ = some (.int .i64 (x.number : Int)) := hrow 4 _ (by omega) rfl
      have f5 : wr.cell? ⟨g, i * 8 + 5, none⟩ = some (.int .i64 (x.pos : Int)) := hrow 5 _ (by omega) rfl
      have f6 : wr.cell? ⟨g, i * 8 + 6, none⟩ = some (.int .i64 (x.height : Int)) := hrow 6 _ (by omega) rfl
      have f7 : wr.cell? ⟨g, i * 8 + 7, none⟩ = some (.int .i64 (x.spent : Int)) := hrow 7 _ (by omega) rfl
      have HSN : Hid (L3 ++ owsB (ns.take (i + 1)) = (L3 ++ owsB (ns.take i)) ++ owB x) := hid (by rw [owsB_snoc hxi, List.append_assoc])
      obtain ⟨C0, hC0⟩ : ∃ C, C = L3 ++ owsB (ns.take i) := ⟨_, rfl⟩
      rw [← hC0] at HI HSN
      have HN0 : Hid (C0.length ≤ 1000000) := hid (by rw [hC0, List.length_append, owsB_length, List.length_take]; have := B3.out; have := HNL.out; omega)
      obtain ⟨ba, bc, rfl⟩ := HI.out.sl
      clear hrow hxi hC0
      go_upto_region 7 with fail
      obtain ⟨P, hP⟩ : ∃ P, P = wr.heap.size := ⟨_, rfl⟩
      obtain ⟨x0, hx0⟩ : ∃ u, u = wr.alloc (.cells #[uv x.note.value, uv x.note.owner, uv x.note.rho, uv x.note.blind, .int .i64 (x.number : Int), .int .i64 (x.pos : Int), .int .i64 (x.height : Int), .int .i64 (x.spent : Int)] 39) := ⟨_, rfl⟩
      rw [← hx0, ← hP]
      have hy0 : Ext wr x0 := by rw [hx0]; exact (Ext.refl wr).alloc _
      have hbo : x0.heap[P]? = some (.cells #[uv x.note.value, uv x.note.owner, uv x.note.rho, uv x.note.blind, .int .i64 (x.number : Int), .int .i64 (x.pos : Int), .int .i64 (x.height : Int), .int .i64 (x.spent : Int)] 39 (0, 0)) := by rw [hx0, hP]; exact heap_new _ _
      have HBO := hid hbo
      have G0 := hid (HI.out.ext hy0)
      have HXX : Hid (FrB w x0 (.slice ba C0.length bc) C0 ∧ Ext x0 x0) := hid ⟨HI.out.ext hy0, Ext.refl _⟩
      clear hx0 hy0 hbo hP f0 f1 f2 f3 f4 f5 f6 f7 HI
      obtain ⟨c0, c1, c2, c3, c4, c5, c6, c7⟩ := eight_cells (HXX.out.2.heap_some HBO.out)
      go_wp2_with fail
      refine (wUint_fr x.note.value HXX.out.1 (by have := HN0.out; omega)).mono ?_
      rintro e y1 ⟨z1, rfl, hf, hx⟩
      obtain ⟨za1, zc1, rfl⟩ := hf.sl
      obtain ⟨C1, hC⟩ : ∃ C, C = C0 ++ leB 8 x.note.value := ⟨_, rfl⟩
      rw [← hC] at hf ⊢
      have G1 := hid (And.intro hf (HXX.out.2.trans hx))
      have HC1 := hid hC
      have HN1 : Hid (C1.length ≤ 1000008) := hid (by rw [hC, List.length_append, leB_length]; have := HN0.out; omega)
      clear hf hx hC c0 c1 c2 c3 c4 c5 c6 c7 HXX
      obtain ⟨c0, c1, c2, c3, c4, c5, c6, c7⟩ := eight_cells (G1.out.2.heap_some HBO.out)
      go_wp2_with fail
      refine (wUint_fr x.note.owner G1.out.1 (by have := HN1.out; omega)).mono ?_
      rintro e y2 ⟨z2, rfl, hf, hx⟩
      obtain ⟨za2, zc2, rfl⟩ := hf.sl
      obtain ⟨C2, hC⟩ : ∃ C, C = C1 ++ leB 8 x.note.owner := ⟨_, rfl⟩
      rw [← hC] at hf ⊢
      have G2 := hid (And.intro hf (G1.out.2.trans hx))
      have HC2 := hid hC
      have HN2 : Hid (C2.length ≤ 1000016) := hid (by rw [hC, List.length_append, leB_length]; have := HN1.out; omega)
      clear hf hx hC c0 c1 c2 c3 c4 c5 c6 c7 G1
      obtain ⟨c0, c1, c2, c3, c4, c5, c6, c7⟩ := eight_cells (G2.out.2.heap_some HBO.out)
      go_wp2_with fail
      refine (wUint_fr x.note.rho G2.out.1 (by have := HN2.out; omega)).mono ?_
      rintro e y3 ⟨z3, rfl, hf, hx⟩
      obtain ⟨za3, zc3, rfl⟩ := hf.sl
      obtain ⟨C3, hC⟩ : ∃ C, C = C2 ++ leB 8 x.note.rho := ⟨_, rfl⟩
      rw [← hC] at hf ⊢
      have G3 := hid (And.intro hf (G2.out.2.trans hx))
      have HC3 := hid hC
      have HN3 : Hid (C3.length ≤ 1000024) := hid (by rw [hC, List.length_append, leB_length]; have := HN2.out; omega)
      clear hf hx hC c0 c1 c2 c3 c4 c5 c6 c7 G2
      obtain ⟨c0, c1, c2, c3, c4, c5, c6, c7⟩ := eight_cells (G3.out.2.heap_some HBO.out)
      go_wp2_with fail
      refine (wUint_fr x.note.blind G3.out.1 (by have := HN3.out; omega)).mono ?_
      rintro e y4 ⟨z4, rfl, hf, hx⟩
      obtain ⟨za4, zc4, rfl⟩ := hf.sl
      obtain ⟨C4, hC⟩ : ∃ C, C = C3 ++ leB 8 x.note.blind := ⟨_, rfl⟩
      rw [← hC] at hf ⊢
      have G4 := hid (And.intro hf (G3.out.2.trans hx))
      have HC4 := hid hC
      have HN4 : Hid (C4.length ≤ 1000032) := hid (by rw [hC, List.length_append, leB_length]; have := HN3.out; omega)
      clear hf hx hC c0 c1 c2 c3 c4 c5 c6 c7 G3
      obtain ⟨c0, c1, c2, c3, c4, c5, c6, c7⟩ := eight_cells (G4.out.2.heap_some HBO.out)
      go_wp2_with fail
      refine (wInt_fr (x.number : Int) G4.out.1 (by have := HN4.out; omega)).mono ?_
      rintro e y5 ⟨z5, rfl, hf, hx⟩
      obtain ⟨za5, zc5, rfl⟩ := hf.sl
      obtain ⟨C5, hC⟩ : ∃ C, C = C4 ++ lenB (x.number : Int) := ⟨_, rfl⟩
      rw [← hC] at hf ⊢
      have G5 := hid (And.intro hf (G4.out.2.trans hx))
      have HC5 := hid hC
      have HN5 : Hid (C5.length ≤ 1000040) := hid (by rw [hC, List.length_append, lenB_length]; have := HN4.out; omega)
      clear hf hx hC c0 c1 c2 c3 c4 c5 c6 c7 G4
      obtain ⟨c0, c1, c2, c3, c4, c5, c6, c7⟩ := eight_cells (G5.out.2.heap_some HBO.out)
      go_wp2_with fail
      refine (wInt_fr (x.pos : Int) G5.out.1 (by have := HN5.out; omega)).mono ?_
      rintro e y6 ⟨z6, rfl, hf, hx⟩
      obtain ⟨za6, zc6, rfl⟩ := hf.sl
      obtain ⟨C6, hC⟩ : ∃ C, C = C5 ++ lenB (x.pos : Int) := ⟨_, rfl⟩
      rw [← hC] at hf ⊢
      have G6 := hid (And.intro hf (G5.out.2.trans hx))
      have HC6 := hid hC
      have HN6 : Hid (C6.length ≤ 1000048) := hid (by rw [hC, List.length_append, lenB_length]; have := HN5.out; omega)
      clear hf hx hC c0 c1 c2 c3 c4 c5 c6 c7 G5
      obtain ⟨c0, c1, c2, c3, c4, c5, c6, c7⟩ := eight_cells (G6.out.2.heap_some HBO.out)
      go_wp2_with fail
      refine (wInt_fr (x.height : Int) G6.out.1 (by have := HN6.out; omega)).mono ?_
      rintro e y7 ⟨z7, rfl, hf, hx⟩
      obtain ⟨za7, zc7, rfl⟩ := hf.sl
      obtain ⟨C7, hC⟩ : ∃ C, C = C6 ++ lenB (x.height : Int) := ⟨_, rfl⟩
      rw [← hC] at hf ⊢
      have G7 := hid (And.intro hf (G6.out.2.trans hx))
      have HC7 := hid hC
      have HN7 : Hid (C7.length ≤ 1000056) := hid (by rw [hC, List.length_append, lenB_length]; have := HN6.out; omega)
      clear hf hx hC c0 c1 c2 c3 c4 c5 c6 c7 G6
      obtain ⟨c0, c1, c2, c3, c4, c5, c6, c7⟩ := eight_cells (G7.out.2.heap_some HBO.out)
      go_wp2_with fail
      refine (wInt_fr (x.spent : Int) G7.out.1 (by have := HN7.out; omega)).mono ?_
      rintro e y8 ⟨z8, rfl, hf, hx⟩
      obtain ⟨za8, zc8, rfl⟩ := hf.sl
      obtain ⟨C8, hC⟩ : ∃ C, C = C7 ++ lenB (x.spent : Int) := ⟨_, rfl⟩
      rw [← hC] at hf ⊢
      have G8 := hid (And.intro hf (G7.out.2.trans hx))
      have HC8 := hid hC
      have HN8 : Hid (C8.length ≤ 1000064) := hid (by rw [hC, List.length_append, lenB_length]; have := HN7.out; omega)
      clear hf hx hC c0 c1 c2 c3 c4 c5 c6 c7 G7
      go_wp2_with fail
      go_roundw
      case rel => exact ⟨i + 1, by omega, by go_num, hid (by
        have e8 : C0 ++ owB x = C8 := by
          rw [HC8.out, HC7.out, HC6.out, HC5.out, HC4.out, HC3.out, HC2.out, HC1.out]
          unfold owB
          simp only [List.append_assoc]
        rw [HSN.out, e8]
        exact G8.out.1)⟩
      case measure => simp [intOf]; omega
    · have hltB : decide ((i : Int) < (ns.length : Int)) = false := by simp; omega
      obtain rfl : i = ns.length := by omega
      rw [List.take_length] at HI
      obtain ⟨ba, bc, hbv⟩ := HI.out.sl
      go_wp2_with fail
      go_ret
      exact ⟨_, rfl, by
        have := HI.out.1
        rw [HL3.out, HL2.out, HL1.out, List.nil_append] at this
        exact this, HI.out.2⟩
end Go.Proofs.YtcikjcjfcanloaaGreat
namespace Go.Proofs.YtcikjcjfcanloaaGreat
open Go.RowKit
attribute [local irreducible] perm fAdd fMul fPow fSub fNeg fRed hashU
set_option maxRecDepth 100000 in
set_option maxHeartbeats 3200000 in
theorem rOrigin_any (t : TxT) (mv ov pv : Value) (w : World) (h : RdT w t mv ov pv) (hs : TSm t) :
    Calls Tryz.prog 101 #[txVal t mv ov pv] w fun e w' => e = .returned (uv (originT t)) ∧ Ext w w' := by
  have VA : Hid (∀ v, Ext w v → Calls Tryz.prog 102 #[txVal t mv ov pv] v fun e w' => e = .returned (.int .i64 (txV t)) ∧ Ext v w') := hid fun v k => rTxValid_any t mv ov pv v (h.ext k) hs
  obtain ⟨ma, mc, oa, oc, pa, pc, rfl, rfl, rfl⟩ := h.shape
  obtain ⟨N, hN⟩ : ∃ N, N = w.heap.size := ⟨_, rfl⟩
  obtain ⟨w0, hw0⟩ : ∃ w0, w0 = w.alloc (.cells #[uv t.anchor, .slice ma t.marks.length mc, .slice oa t.outs.length oc, uv t.deposit, uv t.withdraw, uv t.fee, uv t.account, uv t.nonce, .int .i64 t.expiry, .slice pa t.proof.length pc] 101) := ⟨_, rfl⟩
  have hx0 : Ext w w0 := by rw [hw0]; exact (Ext.refl w).alloc _
  have hb0 : w0.heap[N]? = some (.cells #[uv t.anchor, .slice ma t.marks.length mc, .slice oa t.outs.length oc, uv t.deposit, uv t.withdraw, uv t.fee, uv t.account, uv t.nonce, .int .i64 t.expiry, .slice pa t.proof.length pc] 101 (0, 0)) := by rw [hw0, hN]; exact heap_new _ _
  have HB := hid hb0
  have HX0 := hid hx0
  have HW := hid hw0
  have HM := hid h.m
  have HH : Hid (∀ v : World, Calls Tryz.prog 64 #[.int .u64 18446744069414584321, .int .u64 5, .slice (some ⟨v.heap.size, 0, none⟩) 2 2] (v.alloc (.cells #[uv t.account, uv t.nonce] 22)) fun e w' => e = .returned (uv (hashU 5 [t.account, t.nonce])) ∧ Ext v w') := hid fun v => rhash2_any 5 t.account t.nonce v
  obtain ⟨V, hV⟩ : ∃ V, V = txV t := ⟨_, rfl⟩
  obtain ⟨R, hR⟩ : ∃ R, R = originT t := ⟨_, rfl⟩
  have HR : Hid (R = if V = 0 then (match t.marks with | m :: _ => m | [] => hashU 5 [t.account, t.nonce]) else 0) := hid (by rw [hR, hV]; rfl)
  rw [← hV] at VA
  rw [← hR]
  have hml : (t.marks.length : Int) ≤ 1000 := by have := hs.m; omega
  clear h hs hV hR hw0 hx0 hb0
  obtain ⟨c0, c1, c2, c3, c4, c5, c6, c7, c8, c9⟩ := ten_cells HB.out
  go_enter Tryz.func101, Tryz.ntmps101
  go_upto_region 1 with fail
  rw [← HW.out, ← hN]
  clear hN HW
  go_wp2_with fail
  refine (VA.out _ HX0.out).mono ?_
  rintro e w1 ⟨rfl, hx⟩
  have X1 := hid (HX0.out.trans hx)
  have HB1 := hid (hx.heap_some HB.out)
  clear hx VA c0 c1 c2 c3 c4 c5 c6 c7 c8 c9
  by_cases hv : V = 0
  case neg =>
    have hvB : decide (V = 0) = false := decide_eq_false hv
    obtain rfl : R = 0 := by rw [HR.out, if_neg hv]
    go_wp2_with fail
    go_ret
    exact ⟨rfl, X1.out⟩
  subst hv
  obtain ⟨c0, c1, c2, c3, c4, c5, c6, c7, c8, c9⟩ := ten_cells HB1.out
  by_cases hm : t.marks.length = 0
  · have hr : R = hashU 5 [t.account, t.nonce] := by rw [HR.out, if_pos rfl, List.eq_nil_of_length_eq_zero hm]
    have hmB : decide (0 < t.marks.length) = false := decide_eq_false (by omega)
    have hmB2 : decide ((0 : Int) < (t.marks.length : Int)) = false := decide_eq_false (by omega)
    rw [← hr] at HH
    clear hr
    go_wp2_with fail
    refine (HH.out _).mono ?_
    rintro e w2 ⟨rfl, hx⟩
    have X2 := hid (X1.out.trans hx)
    clear hx HH
    go_wp2_with fail
    go_ret
    exact ⟨rfl, X2.out⟩
  · obtain ⟨x, hx⟩ : ∃ x, t.marks[0]? = some x := ⟨_, List.getElem?_eq_getElem (by omega)⟩
    have hr : R = x := by
      rw [HR.out, if_pos rfl]
      cases hmm : t.marks with
      | nil => rw [hmm] at hx; cases hx
      | cons y r => rw [hmm] at hx; simpa using hx
    obtain ⟨b, o, rfl, hc⟩ := (HM.out.ext X1.out).uat hx
    have hmB : decide (0 < t.marks.length) = true := decide_eq_true (by omega)
    have hmB2 : decide ((0 : Int) < (t.marks.length : Int)) = true := decide_eq_true (by omega)
    have hmp : (0 : Int) < (t.marks.length : Int) := by omega
    have hc' : w1.cell? ⟨b, o, none⟩ = some (.int .u64 x.toNat) := by simpa using hc
    clear hx hc HR
    subst hr
    go_wp2_with fail
    go_ret
    exact ⟨rfl, X1.out⟩
set_option maxRecDepth 100000 in
set_option maxHeartbeats 3200000 in
theorem rRho_any (t : TxT) (mv ov pv : Value) (i : Nat) (w : World) (h : RdT w t mv ov pv) (hs : TSm t) (hi : i ≤ 100000) :
    Calls Tryz.prog 56 #[txVal t mv ov pv, .int .i64 (i : Int)] w fun e w' => e = .returned (uv (rhoT t i)) ∧ Ext w w' := by
  have OR : Hid (∀ v, Ext w v → Calls Tryz.prog 101 #[txVal t mv ov pv] v fun e w' => e = .returned (uv (originT t)) ∧ Ext v w') := hid fun v k => rOrigin_any t mv ov pv v (h.ext k) hs
  obtain ⟨ma, mc, oa, oc, pa, pc, rfl, rfl, rfl⟩ := h.shape
  obtain ⟨N, hN⟩ : ∃ N, N = w.heap.size := ⟨_, rfl⟩
  obtain ⟨w0, hw0⟩ : ∃ w0, w0 = w.alloc (.cells #[uv t.anchor, .slice ma t.marks.length mc, .slice oa t.outs.length oc, uv t.deposit, uv t.withdraw, uv t.fee, uv t.account, uv t.nonce, .int .i64 t.expiry, .slice pa t.proof.length pc] 101) := ⟨_, rfl⟩
  have hx0 : Ext w w0 := by rw [hw0]; exact (Ext.refl w).alloc _
  have hb0 : w0.heap[N]? = some (.cells #[uv t.anchor, .slice ma t.marks.length mc, .slice oa t.outs.length oc, uv t.deposit, uv t.withdraw, uv t.fee, uv t.account, uv t.nonce, .int .i64 t.expiry, .slice pa t.proof.length pc] 101 (0, 0)) := by rw [hw0, hN]; exact heap_new _ _
  have HX0 := hid hx0
  have HW := hid hw0
  obtain ⟨org, horg⟩ : ∃ org, org = originT t := ⟨_, rfl⟩
  obtain ⟨z, hz⟩ : ∃ z : UInt64, z = UInt64.ofNat i := ⟨_, rfl⟩
  have hzi : (i : Int) = (z.toNat : Int) := by rw [hz, toNat_ofNat_lt (by omega)]
  have HH : Hid (∀ v : World, Calls Tryz.prog 64 #[.int .u64 18446744069414584321, .int .u64 4, .slice (some ⟨v.heap.size, 0, none⟩) 2 2] (v.alloc (.cells #[uv org, uv z] 22)) fun e w' => e = .returned (uv (rhoT t i)) ∧ Ext v w') := hid fun v => by
    have := rhash2_any 4 org z v
    rw [horg, hz] at this
    rw [horg, hz]
    exact this
  rw [← horg] at OR
  generalize rhoT t i = R at *
  have hwz := wrap_uK z
  have hzl := u_lt z
  obtain ⟨c0, c1, c2, c3, c4, c5, c6, c7, c8, c9⟩ := ten_cells hb0
  rw [hzi]
  clear hw0 hx0 hb0 h hs hz hzi hi horg
  go_enter Tryz.func56, Tryz.ntmps56
  go_upto_region 1 with fail
  rw [← HW.out, ← hN]
  clear hN HW
  go_wp2_with fail
  refine (OR.out _ HX0.out).mono ?_
  rintro e w1 ⟨rfl, hx⟩
  have X1 := hid (HX0.out.trans hx)
  clear hx OR c0 c1 c2 c3 c4 c5 c6 c7 c8 c9
  go_wp2_with fail
  refine (HH.out _).mono ?_
  rintro e w2 ⟨rfl, hx⟩
  have X2 := hid (X1.out.trans hx)
  clear hx HH
  go_wp2_with fail
  go_ret
  exact ⟨rfl, X2.out⟩
end Go.Proofs.YtcikjcjfcanloaaGreat
namespace Go.Proofs.YtcikjcjfcanloaaGreat
open Go.RowKit
abbrev blkCells (x : BlkT × Value) : List Value := [uv x.1.parent, .int .i64 x.1.height, uv x.1.miner, uv x.1.work, uv x.1.nonce, x.2]
theorem blkCells_len (x : BlkT × Value) : (blkCells x).length = 6 := rfl
/-- v reads in w as the blocks l, whose transactions are read in w0. -/
def RdBs (w0 w : World) (v : Value) (l : List BlkT) : Prop := ∃ X : List (BlkT × Value), X.map (·.1) = l ∧ RdC' w v l.length (X.flatMap blkCells) ∧ ∀ x ∈ X, RdTs w0 x.2 x.1.txs
theorem RdBs.ext {w0 w w' : World} {v : Value} {l : List BlkT} (h : RdBs w0 w v l) (k : Ext w w') : RdBs w0 w' v l := by
  obtain ⟨X, h1, h2, h3⟩ := h
  exact ⟨X, h1, h2.ext k, h3⟩
theorem RdBs.old {w0 w0' w : World} {v : Value} {l : List BlkT} (h : RdBs w0 w v l) (k : Ext w0 w0') : RdBs w0' w v l := by
  obtain ⟨X, h1, h2, h3⟩ := h
  exact ⟨X, h1, h2, fun x hx => (h3 x hx).ext k⟩
theorem RdBs.kp {F : Nat → Prop} {w0 w w' : World} {v : Value} {l : List BlkT} (h : RdBs w0 w v l) (k : Kp F w w') (hF : ∀ b, blk v = some b → b < w.heap.size → ¬ F b) : RdBs w0 w' v l := by
  obtain ⟨X, h1, h2, h3⟩ := h
  exact ⟨X, h1, h2.kp k hF, h3⟩
theorem RdBs.nil (w0 w : World) : RdBs w0 w (.slice none 0 0) [] := ⟨[], rfl, (RdC.nil w).weak, fun x h => by cases h⟩
theorem RdBs.shape {w0 w : World} {v : Value} {l : List BlkT} (h : RdBs w0 w v l) : ∃ a c, v = .slice a l.length c ∧ l.length ≤ c ∧ c ≤ maxLen := by
  obtain ⟨X, h1, h2, h3⟩ := h
  exact h2.shape
theorem RdBs.at {w0 w : World} {a : Option Addr} {n c : Nat} {l : List BlkT} (h : RdBs w0 w (.slice a n c) l) {i : Nat} {x : BlkT} (hx : l[i]? = some x) :
    ∃ b q ta tc, a = some ⟨b, q, none⟩ ∧ RdTs w0 (.slice ta x.txs.length tc) x.txs ∧
      (w.cell? ⟨b, q + i * 6, none⟩ = some (uv x.parent) ∧ w.cell? ⟨b, q + i * 6 + 1, none⟩ = some (.int .i64 x.height) ∧ w.cell? ⟨b, q + i * 6 + 2, none⟩ = some (uv x.miner) ∧ w.cell? ⟨b, q + i * 6 + 3, none⟩ = some (uv x.work) ∧ w.cell? ⟨b, q + i * 6 + 4, none⟩ = some (uv x.nonce) ∧ w.cell? ⟨b, q + i * 6 + 5, none⟩ = some (.slice ta x.txs.length tc)) := by
  obtain ⟨X, h1, h2, h3⟩ := h
  have hn : n = l.length := by obtain ⟨a', c', he, -⟩ := h2; injection he
  have hXl : X.length = l.length := by rw [← h1, List.length_map]
  have hi : i < X.length := by rw [hXl]; exact (List.getElem?_eq_some_iff.1 hx).1
  have hy : X[i]? = some X[i] := List.getElem?_eq_getElem hi
  have hr := h3 _ (List.getElem_mem hi)
  obtain ⟨⟨x', tv⟩, hX⟩ : ∃ y, y = X[i] := ⟨_, rfl⟩
  rw [← hX] at hy hr
  have hxo : x' = x := by
    have : l[i]? = some x' := by rw [← h1, List.getElem?_map, hy]; rfl
    rw [hx] at this
    exact (Option.some.inj this).symm
  subst hn hxo
  obtain ⟨b, q, rfl, hc⟩ := rows_at blkCells_len (by omega) hXl.symm h2 hy
  simp only at hr
  obtain ⟨ta, tc, rfl, -⟩ := hr.shape
  exact ⟨b, q, ta, tc, rfl, hr, hc 0 _ (by omega) rfl, hc 1 _ (by omega) rfl, hc 2 _ (by omega) rfl, hc 3 _ (by omega) rfl, hc 4 _ (by omega) rfl, hc 5 _ (by omega) rfl⟩
/-- The first k blocks, with another room. -/
theorem RdBs.take {w0 w : World} {a : Option Addr} {n c : Nat} {l : List BlkT} (h : RdBs w0 w (.slice a n c) l) {k c' : Nat} (hk : k ≤ l.length) (hkc : k ≤ c') (hc : c' ≤ maxLen) (hz : a = none → c' = 0) : RdBs w0 w (.slice a k c') (l.take k) := by
  obtain ⟨X, h1, ⟨a1, c1, e, h2, h4, h5, h6⟩, h3⟩ := h
  injection e with e1 e2 e3
  subst e1
  refine ⟨X.take k, by rw [List.map_take, h1], ⟨a, c', by rw [List.length_take, Nat.min_eq_left hk], by rw [List.length_take]; omega, hc, hz, fun ad ha j u hu => ?_⟩, fun x hx => h3 x (List.mem_of_mem_take hx)⟩
  refine h6 ad ha j u ?_
  have hX : X.flatMap blkCells = (X.take k).flatMap blkCells ++ (X.drop k).flatMap blkCells := by rw [← List.flatMap_append, List.take_append_drop]
  rw [hX, List.getElem?_append_left (List.getElem?_eq_some_iff.1 hu).1]
  exact hu
/-- The blocks from k on: where their address stands. -/
theorem RdBs.drop {w0 w : World} {b q n c : Nat} {l : List BlkT} (h : RdBs w0 w (.slice (some ⟨b, q, none⟩) n c) l) {k c' : Nat} (hk : k ≤ l.length) (hc0 : l.length - k ≤ c') (hc : c' ≤ maxLen) : RdBs w0 w (.slice (some ⟨b, q + k * 6, none⟩) (l.length - k) c') (l.drop k) := by
  obtain ⟨X, h1, ⟨a1, c1, e, h2, h4, h5, h6⟩, h3⟩ := h
  injection e with e1 e2 e3
  subst e1
  have hXl : X.length = l.length := by rw [← h1, List.length_map]
  refine ⟨X.drop k, by rw [List.map_drop, h1], ⟨_, c', by rw [List.length_drop], by rw [List.length_drop]; exact hc0, hc, (fun e => by cases e), fun ad ha j u hu => ?_⟩, fun x hx => h3 x (List.mem_of_mem_drop hx)⟩
  obtain rfl := Option.some.inj ha
  have hX : X.flatMap blkCells = (X.take k).flatMap blkCells ++ (X.drop k).flatMap blkCells := by rw [← List.flatMap_append, List.take_append_drop]
  have hl : ((X.take k).flatMap blkCells).length = k * 6 := by rw [flat_len blkCells_len, List.length_take, Nat.min_eq_left (by omega)]
  have := h6 _ rfl (k * 6 + j) u (by rw [hX, List.getElem?_append_right (by omega), hl, Nat.add_sub_cancel_left]; exact hu)
  rw [Addr.add_lit] at this ⊢
  rw [Nat.add_assoc]
  exact this
/-- An own row of blocks. -/
theorem RdBs.own {w0 w : World} {v : Value} {X : List (BlkT × Value)} (h : w.ownsRow 0 75 6 v X.length (X.flatMap blkCells)) (hx : ∀ x ∈ X, RdTs w0 x.2 x.1.txs) : RdBs w0 w v (X.map (·.1)) :=
  ⟨X, rfl, by rw [List.length_map]; exact (ownsRow_rd h).weak, hx⟩
/-- One block in a block of the heap of its own. -/
theorem RdBs.one {w0 w : World} {g : Nat} {b : BlkT} {tv : Value} {T : TypeId} (h : w.heap[g]? = some (.cells #[uv b.parent, .int .i64 b.height, uv b.miner, uv b.work, uv b.nonce, tv] T (0, 0))) (ht : RdTs w0 tv b.txs) : RdBs w0 w (.slice (some ⟨g, 0, none⟩) 1 1) [b] := by
  refine ⟨[(b, tv)], rfl, RdC.weak ⟨_, 1, rfl, Nat.le_refl _, by unfold maxLen; omega, (fun h => by cases h), fun ad ha => ?_⟩, fun x hx => by obtain rfl := List.mem_singleton.1 hx; exact ht⟩
  obtain rfl := Option.some.inj ha
  refine ⟨rfl, fun j u hu => ?_⟩
  rw [cell_of h]
  simpa using hu
end Go.Proofs.YtcikjcjfcanloaaGreat
