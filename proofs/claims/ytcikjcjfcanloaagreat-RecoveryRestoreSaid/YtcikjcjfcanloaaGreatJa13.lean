/- Texts of this claim, joined: Wal10, UndoLaw, StLaw, Undo1. -/
import Derived.Test.YtcikjcjfcanloaaGreatJa10
import Derived.Test.YtcikjcjfcanloaaGreatJa12
set_option linter.unusedSimpArgs false
namespace Go.Proofs.YtcikjcjfcanloaaGreat
open Go.RowKit
attribute [local irreducible] perm fAdd fMul fPow fSub fNeg fRed hashU drawOf nextState cipSeal
set_option maxRecDepth 100000 in
set_option maxHeartbeats 25600000 in
theorem walApply_sub {w : World} {W d : Nat} {r : Rl} {seed : UInt64} {L : List UInt64} {ns : List OwT} {ps : List (ScT × Value)} {ob LB : Nat} {nv pv : Value} {FO FT : Nat → Prop} (h : WalIn w W d r seed L ns ps ob LB nv pv FO FT (WF W FT nv pv))
    (hok : StOk ⟨L, ns, []⟩ 0) (hL : L.length ≤ 4096) (hp : ps.length ≤ 1000) {wB : World} (hB : ∀ u, Kp (WF W FT nv pv) w u → Sub wB u) (b : BlkT) (tv : Value) (hb : RdTs wB tv b.txs) (hn : b.txs.length ≤ 100) (hs : ∀ t ∈ b.txs, TSm t) :
    Calls Tryz.prog 42 #[.pointer (some ⟨W, 0, none⟩), blkVal b tv] w fun e w' => e = .returned (.int .i64 (fitsW d ps.length L.length b)) ∧ (fitsW d ps.length L.length b ≠ 0 → Ext w w') ∧ (fitsW d ps.length L.length b = 0 → AppTo w W d r seed L ns ps ob LB nv pv FO FT b w') := by
  obtain ⟨ta, tc, rfl, -⟩ := hb.shape
  have HB := hid hb
  have HS := hid hs
  have HH := hid h
  have HOK := hid hok
  have HEX : Hid (∀ u, Kp (WF W FT nv pv) w u → Sub wB u) := hid hB
  have hnI : (b.txs.length : Int) ≤ 100 := by omega
  have HPN := hid hp
  have FIT : Hid (∀ v, Ext w v → Calls Tryz.prog 87 #[.pointer (some ⟨W, 0, none⟩), blkVal b (.slice ta b.txs.length tc)] v fun e w' => e = .returned (.int .i64 (fitsW d ps.length L.length b)) ∧ Ext v w') := hid fun v k => walFits_any (h.ext k) (by omega) hp b _ (hb.sub (hB v (.of_ext k))) hn hs
  have HFO := hid (fun h : fitsW d ps.length L.length b = 0 => fits_ok h)
  obtain ⟨R, hR⟩ : ∃ R, R = fitsW d ps.length L.length b := ⟨_, rfl⟩
  rw [← hR] at FIT HFO ⊢
  obtain ⟨N, hN⟩ : ∃ N, N = w.heap.size := ⟨_, rfl⟩
  obtain ⟨w0, hw0⟩ : ∃ w0, w0 = w.alloc (.cells #[uv b.parent, .int .i64 b.height, uv b.miner, uv b.work, uv b.nonce, .slice ta b.txs.length tc] 75) := ⟨_, rfl⟩
  have hx0 : Ext w w0 := by rw [hw0]; exact (Ext.refl w).alloc _
  have hb0 : w0.heap[N]? = some (.cells #[uv b.parent, .int .i64 b.height, uv b.miner, uv b.work, uv b.nonce, .slice ta b.txs.length tc] 75 (0, 0)) := by rw [hw0, hN]; exact heap_new _ _
  have HX0 := hid hx0
  have HB0 := hid hb0
  have HW := hid hw0
  have HNw := hid hN
  have HLN := hid hL
  clear hR hb hs h hok hB hp hn hL hx0 hb0 hw0
  go_enter Tryz.func42, Tryz.ntmps42
  go_upto_region 1 with fail
  rw [← HW.out, ← hN]
  clear hN HW
  obtain ⟨c0, c1, c2, c3, c4, c5⟩ := six_cellsB HB0.out
  go_wp2_with fail
  refine (FIT.out _ HX0.out).mono ?_
  rintro e w1 ⟨rfl, hx⟩
  have X1 := hid (HX0.out.trans hx)
  have HB1 := hid (hx.heap_some HB0.out)
  clear hx FIT c0 c1 c2 c3 c4 c5
  by_cases hR0 : R = 0
  case neg =>
    have hRB : decide (R = 0) = false := decide_eq_false hR0
    go_wp2_with fail
    go_ret
    exact ⟨rfl, fun _ => X1.out, fun e => absurd e hR0⟩
  subst hR0
  obtain ⟨hhe, hva, hfull⟩ := HFO.out (by trivial)
  have HHE := hid hhe
  have HVA := hid hva
  have HFU := hid hfull
  clear HFO hva hfull hhe
  obtain ⟨na, nc, rfl, -⟩ := ownsRow_rd HH.out.notes
  have H1 := hid (HH.out.ext X1.out)
  have CNT : Hid (∀ v, Ext w1 v → Calls Tryz.prog 88 #[.pointer (some ⟨LB, 0, none⟩)] v fun e w' => e = .returned (.int .i64 (L.length : Int)) ∧ Ext v w') := hid fun v k => treeCount_any (H1.out.tree.ext k) H1.out.dep.2.1
  have HSV : Hid (∀ v, Ext w1 v → (v.cell? ⟨W, 12, none⟩ = some (.pointer (some ⟨LB, 0, none⟩)) ∧ v.cell? ⟨W, 13, none⟩ = some (.slice na ns.length nc)) ∧ Ext w1 v) := hid fun v k => by
    obtain ⟨-, -, -, -, q1, q2, -⟩ := (H1.out.ext k).cells
    exact ⟨⟨q1, q2⟩, k⟩
  go_wp2_with fail
  refine wp_region_N (fun v => (v.cell? ⟨W, 12, none⟩ = some (.pointer (some ⟨LB, 0, none⟩)) ∧ v.cell? ⟨W, 13, none⟩ = some (.slice na ns.length nc)) ∧ Ext w1 v) 12 13 (by kernel_rfl) (by kernel_rfl) ?_
  intro ops hops
  have HR := HSV.out _ (Ext.refl w1).drew
  refine N_take (i := 0) (v := ?_) (by rw [hops, List.getElem?_toArray]; rfl) (by rw [hops]; kernel_rfl) (by intro c a d v w h; cases d <;> exact h) (by first | rfl | (rw [hops]; rfl)) ?_ HR ?_
  rotate_left
  · intro v h; go_simp; with_reducible rfl
  simp only [Act.put, List.getElem_toArray, List.getElem_cons_zero, List.getElem_cons_succ, List.setIfInBounds_toArray, List.set_cons_zero, List.set_cons_succ]
  refine N_take (i := 1) (v := ?_) (by rw [hops, List.getElem?_toArray]; rfl) (by rw [hops]; kernel_rfl) (by intro c a d v w h; cases d <;> exact h) (by first | rfl | (rw [hops]; rfl)) ?_ HR ?_
  rotate_left
  · intro v h; go_simp; with_reducible rfl
  simp only [Act.put, List.getElem_toArray, List.getElem_cons_zero, List.getElem_cons_succ, List.setIfInBounds_toArray, List.set_cons_zero, List.set_cons_succ]
  refine N_take (i := 2) (v := ?_) (by rw [hops, List.getElem?_toArray]; rfl) (by rw [hops]; kernel_rfl) (by intro c a d v w h; cases d <;> exact h) (by first | rfl | (rw [hops]; rfl)) ?_ HR ?_
  rotate_left
  · intro v h; go_simp; with_reducible rfl
  simp only [Act.put, List.getElem_toArray, List.getElem_cons_zero, List.getElem_cons_succ, List.setIfInBounds_toArray, List.set_cons_zero, List.set_cons_succ]
  refine N_take (i := 3) (v := ?_) (by rw [hops, List.getElem?_toArray]; rfl) (by rw [hops]; kernel_rfl) (by intro c a d v w h; cases d <;> exact h) (by first | rfl | (rw [hops]; rfl)) ?_ HR ?_
  rotate_left
  · intro v h; go_simp; with_reducible rfl
  simp only [Act.put, List.getElem_toArray, List.getElem_cons_zero, List.getElem_cons_succ, List.setIfInBounds_toArray, List.set_cons_zero, List.set_cons_succ]
  refine N_take (i := 5) (v := ?_) (by rw [hops, List.getElem?_toArray]; rfl) (by rw [hops]; kernel_rfl) (by intro c a d v w h; cases d <;> exact h) (by first | rfl | (rw [hops]; rfl)) ?_ HR ?_
  rotate_left
  · intro v h; go_simp; with_reducible rfl
  simp only [Act.put, List.getElem_toArray, List.getElem_cons_zero, List.getElem_cons_succ, List.setIfInBounds_toArray, List.set_cons_zero, List.set_cons_succ]
  refine N_take (i := 6) (v := ?_) (by rw [hops, List.getElem?_toArray]; rfl) (by rw [hops]; kernel_rfl) (by intro c a d v w h; cases d <;> exact h) (by first | rfl | (rw [hops]; rfl)) ?_ HR ?_
  rotate_left
  · intro v h; go_simp; with_reducible rfl
  simp only [Act.put, List.getElem_toArray, List.getElem_cons_zero, List.getElem_cons_succ, List.setIfInBounds_toArray, List.set_cons_zero, List.set_cons_succ]
  refine N_take (i := 7) (v := ?_) (by rw [hops, List.getElem?_toArray]; rfl) (by rw [hops]; kernel_rfl) (by intro c a d v w h; cases d <;> exact h) (by first | rfl | (rw [hops]; rfl)) ?_ HR ?_
  rotate_left
  · intro v h; go_simp; with_reducible rfl
  simp only [Act.put, List.getElem_toArray, List.getElem_cons_zero, List.getElem_cons_succ, List.setIfInBounds_toArray, List.set_cons_zero, List.set_cons_succ]
  refine N_take (i := 8) (v := ?_) (by rw [hops, List.getElem?_toArray]; rfl) (by rw [hops]; kernel_rfl) (by intro c a d v w h; cases d <;> exact h) (by first | rfl | (rw [hops]; rfl)) ?_ HR ?_
  rotate_left
  · intro v h; go_simp; with_reducible rfl
  simp only [Act.put, List.getElem_toArray, List.getElem_cons_zero, List.getElem_cons_succ, List.setIfInBounds_toArray, List.set_cons_zero, List.set_cons_succ]
  refine N_take (i := 9) (v := ?_) (by rw [hops, List.getElem?_toArray]; rfl) (by rw [hops]; kernel_rfl) (by intro c a d v w h; cases d <;> exact h) (by first | rfl | (rw [hops]; rfl)) ?_ HR ?_
  rotate_left
  · intro v h; go_simp; with_reducible rfl
  simp only [Act.put, List.getElem_toArray, List.getElem_cons_zero, List.getElem_cons_succ, List.setIfInBounds_toArray, List.set_cons_zero, List.set_cons_succ]
  have hal : ∀ Q, Alloc1 Tryz.prog ops Q 11 6 (.cells #[.int .i64 0, .int .i64 0, .slice none 0 0] 128 (0, 0)) := fun Q => ⟨⟨_, by rw [hops, List.getElem?_toArray]; rfl, fun t => rfl, fun a w K hK => by go_wp2_with fail; exact hK⟩⟩
  have hgr := CG1.grows (Z := .cells #[.int .i64 0, .int .i64 0, .slice none 0 0] 128 (0, 0)) (w0 := w1) (F := fun _ => False) (S := fun v => (v.cell? ⟨W, 12, none⟩ = some (.pointer (some ⟨LB, 0, none⟩)) ∧ v.cell? ⟨W, 13, none⟩ = some (.slice na ns.length nc)) ∧ Ext w1 v) (fun k h => h.elim) (fun v k => HSV.out v (k.toExt fun _ h => h.elim))
  refine WB_start (i1 := 11) (d1 := 6) (f := 3) (C := CG1 w1 (fun _ => False) (.cells #[.int .i64 0, .int .i64 0, .slice none 0 0] 128 (0, 0))) undef ⟨(Ext.refl w1).drew, fun h => by cases h⟩ (by rfl) (by rfl) (by rfl) ?_
  refine WB_call (hal _) hgr (c := 4) (fun v => CLB (fun _ => v = .int .i64 (L.length : Int)) (CG1 w1 (fun _ => False) (.cells #[.int .i64 0, .int .i64 0, .slice none 0 0] 128 (0, 0)))) (by rw [hops]; kernel_rfl) (by rw [hops, List.getElem?_toArray]; rfl) rfl (fun t => rfl) (by decide) (fun v b1 x w' h => hgr.s _ _ _ h.2) ?_ ?_
  · intro b1 x1 v hC K hK
    simp only [Act.put, List.setIfInBounds_toArray, List.set_cons_zero, List.set_cons_succ]
    go_wp2_with fail
    refine (CNT.out v hC.1).mono ?_
    rintro e v' ⟨rfl, hx⟩
    exact hK _ _ ⟨rfl, hC.ext hx⟩ _ (by simp only [Act.put, List.setIfInBounds_toArray, List.set_cons_zero, List.set_cons_succ] <;> rfl)
  intro v19
  simp only [Act.put, List.setIfInBounds_toArray, List.set_cons_zero, List.set_cons_succ]
  have hgr2 := CLB.grows (p := fun _ => v19 = .int .i64 (L.length : Int)) hgr (fun _ _ h _ => h)
  refine WB_pure (φ := v19 = .int .i64 (L.length : Int)) (fun b1 x1 v h => h.1) ?_
  rintro rfl
  refine WB_take (i := 10) (v := ?_) (fun _ _ _ h => hgr.s _ _ _ h.2) (by rw [hops, List.getElem?_toArray]; rfl) rfl (fun t => rfl) (by decide) (by rw [hops]; kernel_rfl) (by intro c a d v w h; cases d <;> exact h) ?_ ?_
  rotate_left
  · intro x1 v h
    simp only [Act.put, List.setIfInBounds_toArray, List.set_cons_zero, List.set_cons_succ]
    go_simp
    with_reducible rfl
  simp only [Act.put, List.setIfInBounds_toArray, List.set_cons_zero, List.set_cons_succ]
  have hgr3 := CLB.grows (p := fun _ => True) hgr (fun _ _ _ _ => trivial)
  refine WB_last (hal _) (by first | exact hgr3 | exact hgr2) (by rw [hops]; kernel_rfl) ?_
  rintro x1 v ⟨-, hxv, hz⟩
  obtain ⟨SB, rfl, hg0, -, hgb⟩ := hz rfl
  simp only [Act.put, List.setIfInBounds_toArray, List.set_cons_zero, List.set_cons_succ]
  have k0 := cell_of hgb 0
  have k1 := cell_of hgb 1
  have k2 := cell_of hgb 2
  have kf := frozen_of hgb
  refine N_one (i := 12) (by rw [hops, List.getElem?_toArray]; rfl) (by rw [hops]; kernel_rfl) (by first | rfl | (rw [hops]; rfl)) ?_
  intro K hK
  go_wp2_with fail
  try rw [← hops]
  have hw1 := X1.out.size
  have hb6 : (((v.setCell ⟨SB, 0, none⟩ (.int .i64 (L.length : Int))).setCell ⟨SB, 1, none⟩ (.int .i64 (ns.length : Int))).setCell ⟨SB, 2, none⟩ (.slice none 0 0)).heap[SB]? = some (.cells #[.int .i64 (L.length : Int), .int .i64 (ns.length : Int), .slice none 0 0] 128 (0, 0)) := heap_setCell_same (heap_setCell_same (heap_setCell_same hgb 0 _) 1 _) 2 _
  have hk6 : Kp (fun j => j = SB) v (((v.setCell ⟨SB, 0, none⟩ (.int .i64 (L.length : Int))).setCell ⟨SB, 1, none⟩ (.int .i64 (ns.length : Int))).setCell ⟨SB, 2, none⟩ (.slice none 0 0)) := (((Kp.refl (fun j => j = SB) v).setCell (p := ⟨SB, 0, none⟩) (.inl rfl) _).setCell (p := ⟨SB, 1, none⟩) (.inl rfl) _).setCell (p := ⟨SB, 2, none⟩) (.inl rfl) _
  have hx6 : Ext w (((v.setCell ⟨SB, 0, none⟩ (.int .i64 (L.length : Int))).setCell ⟨SB, 1, none⟩ (.int .i64 (ns.length : Int))).setCell ⟨SB, 2, none⟩ (.slice none 0 0)) := (X1.out.trans hxv).kp hk6 (fun j e => by omega)
  have hN6 : (((v.setCell ⟨SB, 0, none⟩ (.int .i64 (L.length : Int))).setCell ⟨SB, 1, none⟩ (.int .i64 (ns.length : Int))).setCell ⟨SB, 2, none⟩ (.slice none 0 0)).heap[N]? = w0.heap[N]? := by
    have h1 := heap_lt HB1.out
    rw [HB0.out]
    exact hk6.heap_some (by omega) (hxv.heap_some HB1.out)
  generalize (((v.setCell ⟨SB, 0, none⟩ (.int .i64 (L.length : Int))).setCell ⟨SB, 1, none⟩ (.int .i64 (ns.length : Int))).setCell ⟨SB, 2, none⟩ (.slice none 0 0)) = v6 at *
  have A0 := hid (HH.out.begin hx6 hb6 (by omega))
  have X6 := hid hx6
  have HN6 := hid hN6
  have HSBN : Hid (N < SB) := hid (by have h1 := heap_lt HB1.out; omega)
  clear hb6 hk6 hx6 hN6 k0 k1 k2 kf hgb hal hgr hgr2 hgr3 HR hz hxv HSV CNT HB1
  refine N_done (by rw [hops]; kernel_rfl) ?_
  clear hops ops
  obtain ⟨b0, b1, b2, b3, b4, b5⟩ := six_cellsB (HN6.out.trans HB0.out)
  go_wp2_with fail
  clear b0 b1 b2 b3 b4 b5
  go_loopw [29] (fun iv wr => ∃ (i : Nat) (nv' sv' : Value) (FT' : Nat → Prop), i ≤ b.txs.length ∧ iv = .int .i64 i ∧ Hid (ApS wr W d r seed (txsTo seed (ps.length + 1) ⟨L, ns, []⟩ b.txs i) ps ob LB nv' pv FO FT' SB L.length ns.length sv' ∧ Kp (WF W FT (.slice na ns.length nc) pv) w wr ∧ (∀ j, AF W FT' nv' pv SB sv' j → (WF W FT (.slice na ns.length nc) pv j ∨ w.heap.size ≤ j) ∧ j ≠ N) ∧ wr.heap[N]? = w0.heap[N]?)) (fun iv _ => b.txs.length - (intOf iv).toNat)
  case atStart =>
    refine ⟨0, _, _, FT, by omega, rfl, hid ⟨A0.out, .of_ext X6.out, fun j hj => ?_, HN6.out⟩⟩
    have hwf : ∀ j, WF W FT (.slice na ns.length nc) pv j → j < w.heap.size := fun j hj => by
      rcases hj with e | e | e | e
      · subst e; exact heap_lt HH.out.self
      · exact HH.out.tl j e
      · exact ownsRow_lt HH.out.notes e
      · exact ownsRow_lt HH.out.past e
    have h1 := HNw.out
    have h2 := HSBN.out
    rcases hj with e | e | e
    · have := hwf j e
      exact ⟨.inl e, by omega⟩
    · exact ⟨.inr (by omega), by omega⟩
    · cases e
  case round =>
    obtain ⟨i, nv', sv', FT', hi, rfl, HI⟩ := hrel
    have hi0 : (0 : Int) ≤ (i : Int) := Int.natCast_nonneg _
    by_cases hlt : i < b.txs.length
    · have hltB : decide ((i : Int) < (b.txs.length : Int)) = true := by simp; omega
      have hil : (i : Int) < (b.txs.length : Int) := by omega
      obtain ⟨x, hxi⟩ : ∃ x, b.txs[i]? = some x := ⟨_, List.getElem?_eq_getElem hlt⟩
      have hxB := HEX.out wr HI.out.2.1
      obtain ⟨q, o, ma, mc, oa, oc, pa, pc, rfl, hrx, e0, e1, e2, e3, e4, e5, e6, e7, e8, e9⟩ := HB.out.at hxi
      replace e0 := hxB _ _ e0
      replace e1 := hxB _ _ e1
      replace e2 := hxB _ _ e2
      replace e3 := hxB _ _ e3
      replace e4 := hxB _ _ e4
      replace e5 := hxB _ _ e5
      replace e6 := hxB _ _ e6
      replace e7 := hxB _ _ e7
      replace e8 := hxB _ _ e8
      replace e9 := hxB _ _ e9
      have HXI := hid hxi
      have HRX := hid hrx
      have HSX := hid (HS.out x (List.mem_of_getElem? hxi))
      have HVX := hid (HVA.out x (List.mem_of_getElem? hxi))
      have HST := hid (txsTo_ok (seed := seed) (h := ps.length + 1) (l := b.txs) HOK.out (Nat.le_refl _) i hi)
      have HLL := hid (txsTo_leaves (seed := seed) (h := ps.length + 1) (S := ⟨L, ns, []⟩) (l := b.txs) i hi)
      have HSN := hid (outsN_snoc hxi)
      have HMO := hid (outsN_mono (l := b.txs) (i + 1))
      clear hxi hrx hxB
      go_upto_region 8 with fail
      obtain ⟨Q, hQ⟩ : ∃ Q, Q = wr.heap.size := ⟨_, rfl⟩
      obtain ⟨u1, hu1⟩ : ∃ u1, u1 = wr.alloc (.cells #[uv x.anchor, .slice ma x.marks.length mc, .slice oa x.outs.length oc, uv x.deposit, uv x.withdraw, uv x.fee, uv x.account, uv x.nonce, .int .i64 x.expiry, .slice pa x.proof.length pc] 101) := ⟨_, rfl⟩
      rw [← hu1, ← hQ]
      have G1 : Hid (Ext wr u1) := hid (by rw [hu1]; exact (Ext.refl _).alloc _)
      have QB : Hid (u1.heap[Q]? = some (.cells #[uv x.anchor, .slice ma x.marks.length mc, .slice oa x.outs.length oc, uv x.deposit, uv x.withdraw, uv x.fee, uv x.account, uv x.nonce, .int .i64 x.expiry, .slice pa x.proof.length pc] 101 (0, 0))) := hid (by rw [hu1, hQ]; exact heap_new _ _)
      have HQ : Hid (∀ j, AF W FT' nv' pv SB sv' j → j ≠ Q ∧ j ≠ N) := hid fun j hj => ⟨by have := HI.out.1.lt j hj; omega, (HI.out.2.2.1 j hj).2⟩
      clear hu1 hQ e0 e1 e2 e3 e4 e5 e6 e7 e8 e9
      have h2d : 2 ^ d ≤ 4096 := by
        have : 2 ^ d ≤ 2 ^ 12 := Nat.pow_le_pow_right (by omega) HH.out.dep.2.2
        omega
      have hnn : (txsTo seed (ps.length + 1) ⟨L, ns, []⟩ b.txs i).notes.length ≤ 10000 := by
        have h1 := HST.out.n
        have h2 := HLL.out
        have h3 := HMO.out
        have h4 := HSN.out
        have h5 := HFU.out
        try simp only at h2
        omega
      have A1 := HI.out.1.ext G1.out
      have hAw : ∀ u, Kp (AF W FT' nv' pv SB sv') u1 u → Sub wB u := fun u ku => HEX.out u (Kp.chain (HI.out.2.1.ext G1.out) (fun j hj => (HI.out.2.2.1 j hj).1) ku)
      have hsp : (txsTo seed (ps.length + 1) ⟨L, ns, []⟩ b.txs i).sp.length ≤ 10000000 := by
        have h1 := HST.out.s
        have h5 := HFU.out
        try simp only at h1
        have h6 : i * (L.length + outsN b.txs) ≤ 100 * 4096 := Nat.mul_le_mul (by omega) (by omega)
        omega
      have hhe2 : ((ps.length + 1 : Nat) : Int) = b.height := by rw [HHE.out]; push_cast; rfl
      have SPD := walSpend_any A1 hnn HST.out.r hsp x (.slice ma x.marks.length mc) (.slice oa x.outs.length oc) (.slice pa x.proof.length pc) (fun u ku => HRX.out.m.sub (hAw u ku)) ⟨oa, oc, pa, pc, rfl, rfl⟩ HSX.out.m (ps.length + 1)
      rw [hhe2] at SPD
      have HSPD := hid SPD
      have HHE2 := hid hhe2
      have HNN := hid hnn
      have H2D := hid h2d
      clear SPD hAw hsp hhe2 A1 hnn h2d
      obtain ⟨c0, c1, c2, c3, c4, c5, c6, c7, c8, c9⟩ := ten_cells QB.out
      have cN : u1.cell? ⟨N, 1, none⟩ = some (.int .i64 b.height) := cell_of (G1.out.heap_some (HI.out.2.2.2.trans HB0.out)) 1
      go_wp2_with fail
      refine (HSPD.out).mono ?_
      rintro e u2 ⟨rfl, sv2, hA2, hk2, hs2⟩
      have A2 := hid hA2
      have K2 := hid hk2
      have S2 := hid hs2
      have QB2 := hid (hk2.heap_some (fun e => (HQ.out Q e).1 rfl) QB.out)
      have N1 := G1.out.heap_some (HI.out.2.2.2.trans HB0.out)
      have N2 := hid (hk2.heap_some (fun e => (HQ.out N e).2 rfl) N1)
      have hNl := heap_lt N1
      have hQl := heap_lt QB.out
      have HS2 : Hid (∀ j, AF W FT' nv' pv SB sv2 j → (WF W FT (.slice na ns.length nc) pv j ∨ w.heap.size ≤ j) ∧ j ≠ N) := hid fun j hj => by
        rcases hs2 j hj with e | e
        · exact HI.out.2.2.1 j e
        · have h1 := HI.out.2.1.size
          have h2 := G1.out.size
          exact ⟨.inr (by omega), by omega⟩
      have KW2 := hid (Kp.chain (HI.out.2.1.ext G1.out) (fun j hj => (HI.out.2.2.1 j hj).1) hk2)
      have hAw2 : ∀ u, Kp (AF W FT' nv' pv SB sv2) u2 u → Sub wB u := fun u ku => HEX.out u (Kp.chain KW2.out (fun j hj => (HS2.out j hj).1) ku)
      have hnn2 : (spendW (kSpend seed) (ps.length + 1) x.marks (txsTo seed (ps.length + 1) ⟨L, ns, []⟩ b.txs i)).notes.length ≤ 10000 := by
        unfold spendW
        rw [spendTo_length]
        exact HNN.out
      have hLL : (spendW (kSpend seed) (ps.length + 1) x.marks (txsTo seed (ps.length + 1) ⟨L, ns, []⟩ b.txs i)).leaves.length + x.outs.length ≤ 2 ^ d := by
        have h2 := HLL.out
        have h3 := HMO.out
        have h4 := HSN.out
        have h5 := HFU.out
        try simp only at h2
        show (txsTo seed (ps.length + 1) ⟨L, ns, []⟩ b.txs i).leaves.length + x.outs.length ≤ 2 ^ d
        omega
      have RCV := walReceive_any hA2 hnn2 x (.slice ma x.marks.length mc) (.slice oa x.outs.length oc) (.slice pa x.proof.length pc) hAw2 HRX.out HSX.out HVX.out hLL (ps.length + 1)
      rw [HHE2.out, ← txsTo_succ HXI.out] at RCV
      have HRCV := hid RCV
      clear RCV hLL hnn2 hAw2 hNl hQl N1 hA2 hk2 hs2 c0 c1 c2 c3 c4 c5 c6 c7 c8 c9 cN HSPD QB
      obtain ⟨c0, c1, c2, c3, c4, c5, c6, c7, c8, c9⟩ := ten_cells QB2.out
      have cN := cell_of N2.out 1
      go_wp2_with fail
      refine (HRCV.out).mono ?_
      rintro e u3 ⟨rfl, nv3, FT3, hA3, hk3, hs3⟩
      have HN : Hid _ := hid (And.intro hA3 (And.intro (Kp.chain KW2.out (fun j hj => (HS2.out j hj).1) hk3) (And.intro (fun j (hj : AF W FT3 nv3 pv SB sv2 j) => show (WF W FT (.slice na ns.length nc) pv j ∨ w.heap.size ≤ j) ∧ j ≠ N from by
        rcases hs3 j hj with e | e
        · exact HS2.out j e
        · have h1 := KW2.out.size
          have h2 := heap_lt N2.out
          exact ⟨.inr (by omega), by omega⟩) (show u3.heap[N]? = w0.heap[N]? from by
        rw [HB0.out]
        exact hk3.heap_some (fun e => (HS2.out N e).2 rfl) N2.out))))
      clear hA3 hk3 hs3 c0 c1 c2 c3 c4 c5 c6 c7 c8 c9 cN HRCV
      go_wp2_with fail
      go_roundw
      case rel => exact ⟨i + 1, nv3, sv2, FT3, by omega, by go_num, HN⟩
      case measure => simp [intOf]; omega
    · have hltB : decide ((i : Int) < (b.txs.length : Int)) = false := by simp; omega
      obtain rfl : i = b.txs.length := by omega
      obtain ⟨qa, qc, rfl, -⟩ := ownsRow_rd HI.out.1.wal.past
      obtain ⟨sa, sc, rfl, -⟩ := ownsRow_rd HI.out.1.box.own
      obtain ⟨j0, hj, hjz0, hjz1, hjz2⟩ := info_parts Tryz.infoSc
      have HJ := hid (And.intro hj (And.intro hjz0 (And.intro hjz1 hjz2)))
      clear hj hjz0 hjz1 hjz2
      have HC11 : Hid (∀ v, Ext wr v → (v.cell? ⟨W, 14, none⟩ = some (.slice qa ps.length qc) ∧ v.cell? ⟨SB, 0, none⟩ = some (.int .i64 (L.length : Int)) ∧ v.cell? ⟨SB, 1, none⟩ = some (.int .i64 (ns.length : Int)) ∧ v.cell? ⟨SB, 2, none⟩ = some (.slice sa (txsTo seed (ps.length + 1) ⟨L, ns, []⟩ b.txs b.txs.length).sp.length sc))) := hid fun v k => by
        obtain ⟨-, -, -, -, -, -, q6⟩ := (HI.out.1.wal.ext k).cells
        have hb := k.heap_some HI.out.1.box.box
        exact ⟨q6, cell_of hb 0, cell_of hb 1, cell_of hb 2⟩
      go_wp2_with fail
      refine wp_region_T (fun v => (v.cell? ⟨W, 14, none⟩ = some (.slice qa ps.length qc) ∧ v.cell? ⟨SB, 0, none⟩ = some (.int .i64 (L.length : Int)) ∧ v.cell? ⟨SB, 1, none⟩ = some (.int .i64 (ns.length : Int)) ∧ v.cell? ⟨SB, 2, none⟩ = some (.slice sa (txsTo seed (ps.length + 1) ⟨L, ns, []⟩ b.txs b.txs.length).sp.length sc))) 8 [(0, true), (1, true), (2, true), (3, true), (4, true), (5, true), (6, false), (7, false), (8, false), (9, false), (10, false)] (by kernel_rfl) (by kernel_rfl) (by intro c a d v w h; cases d <;> exact h) ?_
      intro ops hops
      have HSS := HC11.out _ (Ext.refl wr).drew
      iterate 6
        refine wpT_take (v := ?_) (by rw [hops, List.getElem?_toArray]; rfl) (by first | rfl | (rw [hops]; rfl)) ?_ HSS ?_
        rotate_left
        · intro v h; go_simp; with_reducible rfl
        simp only [Act.put, List.getElem_toArray, List.getElem_cons_zero, List.getElem_cons_succ, List.setIfInBounds_toArray, List.set_cons_zero, List.set_cons_succ]
      clear HSS
      refine wpT_step (by rw [hops, List.getElem?_toArray]; rfl) (by first | rfl | (rw [hops]; rfl)) ?_
      intro K hK
      go_wp2_with fail
      refine ⟨by first | exact fun _ => HC11.out _ ((Ext.refl wr).alloc _).drew | exact HC11.out _ ((Ext.refl wr).alloc _).drew | exact fun _ => HC11.out _ ((Ext.refl wr).alloc _), ?_⟩
      try rw [← hops]
      refine wpT_step (by rw [hops, List.getElem?_toArray]; rfl) (by first | rfl | (rw [hops]; rfl)) ?_
      intro K hK
      have hx8 : Ext wr (wr.alloc (.cells #[.int .i64 (L.length : Int), .int .i64 (ns.length : Int), .slice sa (txsTo seed (ps.length + 1) ⟨L, ns, []⟩ b.txs b.txs.length).sp.length sc] 128)).drew := ((Ext.refl wr).alloc _).drew
      have O8 := ownsRow_ext HI.out.1.wal.past hx8
      have hrd : RdC' (wr.alloc (.cells #[.int .i64 (L.length : Int), .int .i64 (ns.length : Int), .slice sa (txsTo seed (ps.length + 1) ⟨L, ns, []⟩ b.txs b.txs.length).sp.length sc] 128)).drew (.slice (some ⟨wr.heap.size, 0, none⟩) 1 1) 1 [.int .i64 (L.length : Int), .int .i64 (ns.length : Int), .slice sa (txsTo seed (ps.length + 1) ⟨L, ns, []⟩ b.txs b.txs.length).sp.length sc] := (rows_block (heap_new wr _)).ext (Ext.refl _).drew
      have hpn := HPN.out
      refine wp_app' _ _ 113 rfl 128 j0 (.agg #[.int .i64 0, .int .i64 0, .slice none 0 0]) 3 40 (by kernel_rfl) HJ.out.1 HJ.out.2.1 HJ.out.2.2.1 HJ.out.2.2.2 rfl (by decide) (.slice qa ps.length qc) ps.length (ps.flatMap scCells) rfl O8 (.slice (some ⟨wr.heap.size, 0, none⟩) 1 1) 1 [.int .i64 (L.length : Int), .int .i64 (ns.length : Int), .slice sa (txsTo seed (ps.length + 1) ⟨L, ns, []⟩ b.txs b.txs.length).sp.length sc] rfl hrd rfl (by intro u hu; simp only [List.mem_cons, List.not_mem_nil, or_false] at hu; rcases hu with rfl | rfl | rfl <;> rfl) (by unfold maxLen; omega) (by omega) ?_
      intro v7 w7 own7 hk7 hb7
      obtain ⟨sa7, sc7, rfl, -⟩ := ownsRow_rd own7
      have k67 : Kp (fun k => blk (.slice qa ps.length qc) = some k) wr w7 := (Kp.of_ext hx8).trans (hk7.mono fun _ _ e => e.symm)
      have hnW : blk (.slice qa ps.length qc) ≠ some W := HI.out.1.wal.wp
      have hnS : blk (.slice qa ps.length qc) ≠ some SB := fun e => HI.out.1.sb (.inr (.inr (.inr e)))
      have AN := HI.out.1.finish hx8 hk7 (by first | exact hb7 | simpa using hb7) own7
      have hbW := k67.heap_some (fun e => hnW e) HI.out.1.wal.self
      obtain ⟨s0, s1, s2, s3⟩ := HC11.out wr (Ext.refl wr)
      refine hK _ _ ⟨fun _ => ⟨k67.cell_some (fun e => hnW e) s0, k67.cell_some (fun e => hnS e) s1, k67.cell_some (fun e => hnS e) s2, k67.cell_some (fun e => hnS e) s3⟩, ?_⟩
      clear hK K
      have hbk : blkW seed (ps.length + 1) L ns b = (txsTo seed (ps.length + 1) ⟨L, ns, []⟩ b.txs b.txs.length) := by unfold txsTo; rw [List.take_length]; rfl
      have HT : Hid (AppTo w W d r seed L ns ps ob LB (.slice na ns.length nc) (.slice qa ps.length qc) FO FT b (w7.setCell ⟨W, 14, none⟩ (.slice sa7 (ps.length + 1) sc7))) := hid (by
        refine ⟨nv', _, FT', _, by rw [hbk]; exact AN.1, Kp.chain HI.out.2.1 (fun j hj => (HI.out.2.2.1 j (.inl hj)).1) AN.2.1, fun j hj => ?_⟩
        rcases AN.2.2 j hj with e | e
        · exact (HI.out.2.2.1 j (.inl e)).1
        · have := HI.out.2.1.size; exact .inr (by omega))
      have fz := frozen_of hbW
      have b14 := cell_of hbW 14
      clear own7 hk7 hb7 k67 hnW hnS AN hbW s0 s1 s2 s3 hbk O8 hrd hx8
      refine wpT_step (by rw [hops, List.getElem?_toArray]; rfl) (by first | rfl | (rw [hops]; rfl)) ?_
      intro K hK
      go_wp2_with fail
      try (with_reducible refine ⟨fun h => absurd h (by decide), ?_⟩)
      try rw [← hops]
      refine wpT_step (by rw [hops, List.getElem?_toArray]; rfl) (by first | rfl | (rw [hops]; rfl)) ?_
      intro K hK
      go_wp2_with fail
      try (with_reducible refine ⟨fun h => absurd h (by decide), ?_⟩)
      try rw [← hops]
      refine wpT_step (by rw [hops, List.getElem?_toArray]; rfl) (by first | rfl | (rw [hops]; rfl)) ?_
      intro K hK
      go_wp2_with fail
      try (with_reducible refine ⟨fun h => absurd h (by decide), ?_⟩)
      try rw [wpT_nil]
      try clear hops ops
      go_wp2_with fail
      go_ret
      first | exact ⟨rfl, HT.out⟩ | exact ⟨rfl, fun e => absurd rfl e, HT.out⟩ | exact ⟨rfl, fun e => absurd rfl e, fun _ => HT.out⟩ | exact HT.out | exact ⟨rfl, (by trivial), HT.out⟩
end Go.Proofs.YtcikjcjfcanloaaGreat
namespace Go.Proofs.YtcikjcjfcanloaaGreat
open Go.RowKit
/-- What can be undone: the leaves and notes before are there, but for the marks of spending. -/
structure UndR (L : List UInt64) (ns : List OwT) (S : StW) : Prop where
  l : S.leaves.take L.length = L
  n : ∀ (i : Nat) (x : OwT), ns[i]? = some x → ∃ y, S.notes[i]? = some y ∧ (i ∈ S.sp → x = { y with spent := 0 } ∧ y.spent ≠ 0) ∧ (i ∉ S.sp → y = x)
  s : ∀ i ∈ S.sp, i < S.notes.length
  m : ns.length ≤ S.notes.length
theorem UndR.refl (L : List UInt64) (ns : List OwT) : UndR L ns ⟨L, ns, []⟩ :=
  ⟨List.take_length, fun i x hx => ⟨x, hx, (fun h => by cases h), fun _ => rfl⟩, (fun i h => by cases h), Nat.le_refl _⟩
theorem UndR.spendTo {L : List UInt64} {ns : List OwT} {S : StW} {key : UInt64} {h : Nat} {marks : List UInt64} (hS : UndR L ns S) (hh : h ≠ 0) : ∀ i, i ≤ S.notes.length → UndR L ns (spendTo key h marks S i)
  | 0, _ => by
    have : Go.Proofs.YtcikjcjfcanloaaGreat.spendTo key h marks S 0 = S := by simp [Go.Proofs.YtcikjcjfcanloaaGreat.spendTo]
    rw [this]; exact hS
  | i + 1, hi => by
    have ih := UndR.spendTo (key := key) (h := h) (marks := marks) hS hh i (by omega)
    have hn : S.notes[i]? = some S.notes[i] := List.getElem?_eq_getElem (by omega)
    cases ht : hitW key marks S.notes[i] with
    | false => rw [spendTo_miss hn ht]; exact ih
    | true =>
      rw [spendTo_hit hn ht]
      have hy : (Go.Proofs.YtcikjcjfcanloaaGreat.spendTo key h marks S i).notes[i]? = some S.notes[i] := by rw [spendTo_at (Nat.le_refl i)]; exact hn
      have hz : S.notes[i].spent = 0 := by
        unfold hitW at ht
        rw [Bool.and_eq_true, decide_eq_true_eq] at ht
        exact ht.1
      have hlt : i < (Go.Proofs.YtcikjcjfcanloaaGreat.spendTo key h marks S i).notes.length := (List.getElem?_eq_some_iff.1 hy).1
      refine ⟨ih.l, fun j x hx => ?_, fun j hj => ?_, by rw [List.length_set]; exact ih.m⟩
      · obtain ⟨y, h1, h2, h3⟩ := ih.n j x hx
        by_cases hji : j = i
        · subst hji
          rw [hy] at h1
          obtain rfl := Option.some.inj h1
          have hns : j ∉ (Go.Proofs.YtcikjcjfcanloaaGreat.spendTo key h marks S j).sp := fun e => (h2 e).2 hz
          have hxe := h3 hns
          refine ⟨_, List.getElem?_set_self hlt, fun _ => ⟨?_, hh⟩, fun e => absurd (List.mem_append_right _ (List.mem_singleton.2 rfl)) e⟩
          rw [← hxe]
          show S.notes[j] = { S.notes[j] with spent := 0 }
          rw [← hz]
        · refine ⟨y, by rw [List.getElem?_set_ne (fun e => hji e.symm)]; exact h1, fun e => ?_, fun e => ?_⟩
          · rcases List.mem_append.1 e with e | e
            · exact h2 e
            · exact absurd (List.mem_singleton.1 e) hji
          · exact h3 fun e2 => e (List.mem_append_left _ e2)
      · rw [List.length_set]
        rcases List.mem_append.1 hj with e | e
        · exact ih.s j e
        · rw [List.mem_singleton.1 e]; exact hlt
theorem UndR.recvTo {L : List UInt64} {ns : List OwT} {S : StW} {seed : UInt64} {h : Nat} {t : TxT} (hS : UndR L ns S) (hL : L.length ≤ S.leaves.length) : ∀ i, UndR L ns (recvTo seed h t S i)
  | 0 => hS
  | i + 1 => by
    have ih := UndR.recvTo (seed := seed) (h := h) (t := t) hS hL i
    have hl := recvTo_leaves seed h t S i
    unfold Go.Proofs.YtcikjcjfcanloaaGreat.recvTo
    cases ho : t.outs[i]? with
    | none => exact ih
    | some o =>
      refine ⟨?_, fun j x hx => ?_, fun j hj => ?_, ?_⟩
      · simp only [recv1]
        rw [List.take_append_of_le_length (by rw [hl, List.length_append]; omega)]
        exact ih.l
      · obtain ⟨y, h1, h2⟩ := ih.n j x hx
        refine ⟨y, ?_, h2⟩
        simp only [recv1]
        rw [List.getElem?_append_left (List.getElem?_eq_some_iff.1 h1).1]
        exact h1
      · have := ih.s j hj
        simp only [recv1, List.length_append]
        omega
      · have := ih.m
        simp only [recv1, List.length_append]
        omega
theorem UndR.txsTo {L : List UInt64} {ns : List OwT} {seed : UInt64} {h : Nat} {l : List TxT} (hh : h ≠ 0) : ∀ i, i ≤ l.length → UndR L ns (txsTo seed h ⟨L, ns, []⟩ l i)
  | 0, _ => by
    have : Go.Proofs.YtcikjcjfcanloaaGreat.txsTo seed h ⟨L, ns, []⟩ l 0 = ⟨L, ns, []⟩ := by simp [Go.Proofs.YtcikjcjfcanloaaGreat.txsTo]
    rw [this]; exact UndR.refl L ns
  | i + 1, hi => by
    have ht : l[i]? = some l[i] := List.getElem?_eq_getElem (by omega)
    have ih := UndR.txsTo (L := L) (ns := ns) (seed := seed) (h := h) (l := l) hh i (by omega)
    have hl := txsTo_leaves (seed := seed) (h := h) (S := ⟨L, ns, []⟩) (l := l) i (by omega)
    rw [txsTo_succ ht]
    refine UndR.recvTo (ih.spendTo hh _ (Nat.le_refl _)) ?_ _
    show L.length ≤ (Go.Proofs.YtcikjcjfcanloaaGreat.txsTo seed h ⟨L, ns, []⟩ l i).leaves.length
    simp only at hl
    omega
def zeroS (x : OwT) : OwT := { x with spent := 0 }
def resetW (l : List OwT) (sp : List Nat) : List OwT := sp.foldl (fun l i => l.modify i zeroS) l
theorem resetW_at (i : Nat) : ∀ (sp : List Nat) (l : List OwT), (resetW l sp)[i]? = if i ∈ sp then l[i]?.map zeroS else l[i]?
  | [], l => by simp [resetW]
  | a :: r, l => by
    have ih := resetW_at i r (l.modify a zeroS)
    show (resetW (l.modify a zeroS) r)[i]? = _
    rw [ih, List.getElem?_modify]
    by_cases hai : a = i
    · subst hai
      by_cases hr : a ∈ r
      · rw [if_pos hr, if_pos (by simp)]
        cases l[a]? with
        | none => rfl
        | some x => simp [zeroS]
      · rw [if_neg hr, if_pos (by simp)]
        cases l[a]? with
        | none => rfl
        | some x => simp
    · by_cases hr : i ∈ r
      · rw [if_pos hr, if_pos (List.mem_cons_of_mem _ hr)]
        simp [hai]
      · have : i ∉ a :: r := by
          intro h
          rcases List.mem_cons.1 h with h | h
          · exact hai h.symm
          · exact hr h
        rw [if_neg hr, if_neg this]
        simp [hai]
theorem UndR.undo {L : List UInt64} {ns : List OwT} {S : StW} (h : UndR L ns S) : (resetW S.notes S.sp).take ns.length = ns := by
  apply List.ext_getElem?
  intro i
  by_cases hi : i < ns.length
  · rw [List.getElem?_take_of_lt hi, resetW_at]
    have hx : ns[i]? = some ns[i] := List.getElem?_eq_getElem hi
    obtain ⟨y, h1, h2, h3⟩ := h.n i _ hx
    rw [hx, h1]
    split
    · next hs => rw [(h2 hs).1]; rfl
    · next hs => rw [h3 hs]
  · rw [List.getElem?_eq_none (by rw [List.length_take]; omega), List.getElem?_eq_none (by omega)]
end Go.Proofs.YtcikjcjfcanloaaGreat
namespace Go.Proofs.YtcikjcjfcanloaaGreat
open Go.RowKit
theorem blkW_to (seed : UInt64) (h : Nat) (L : List UInt64) (ns : List OwT) (b : BlkT) : blkW seed h L ns b = txsTo seed h ⟨L, ns, []⟩ b.txs b.txs.length := by
  unfold blkW txsTo
  rw [List.take_length]
theorem stTo_app (seed : UInt64) (l m : List BlkT) : ∀ i, i ≤ l.length → stTo seed (l ++ m) i = stTo seed l i
  | 0, _ => rfl
  | i + 1, hi => by
    unfold stTo
    rw [List.getElem?_append_left (by omega), stTo_app seed l m i (by omega)]
theorem stW_snoc (seed : UInt64) (l : List BlkT) (b : BlkT) : stW seed (l ++ [b]) = blkW seed (l.length + 1) (stW seed l).leaves (stW seed l).notes b := by
  unfold stW
  rw [List.length_append, List.length_singleton]
  have h : (l ++ [b])[l.length]? = some b := by rw [List.getElem?_append_right (Nat.le_refl _), Nat.sub_self]; rfl
  show stTo seed (l ++ [b]) (l.length + 1) = _
  rw [stTo, h, stTo_app seed l [b] l.length (Nat.le_refl _)]
/-- What is noted of each block. -/
def scW (seed : UInt64) (l : List BlkT) (i : Nat) : ScT := ⟨(stTo seed l i).leaves.length, (stTo seed l i).notes.length, (stTo seed l (i + 1)).sp⟩
def psW (seed : UInt64) (l : List BlkT) : List ScT := (List.range l.length).map (scW seed l)
theorem psW_length (seed : UInt64) (l : List BlkT) : (psW seed l).length = l.length := by simp [psW]
theorem psW_snoc (seed : UInt64) (l : List BlkT) (b : BlkT) : psW seed (l ++ [b]) = psW seed l ++ [⟨(stW seed l).leaves.length, (stW seed l).notes.length, (stW seed (l ++ [b])).sp⟩] := by
  unfold psW
  rw [List.length_append, List.length_singleton, List.range_succ, List.map_append, List.map_singleton]
  congr 1
  · apply List.map_congr_left
    intro i hi
    have hi := List.mem_range.1 hi
    unfold scW
    rw [stTo_app seed l [b] i (by omega), stTo_app seed l [b] (i + 1) (by omega)]
  · unfold scW stW
    rw [stTo_app seed l [b] l.length (Nat.le_refl _), List.length_append, List.length_singleton]
theorem blkW_leaves (seed : UInt64) (h : Nat) (L : List UInt64) (ns : List OwT) (b : BlkT) : (blkW seed h L ns b).leaves.length = L.length + outsN b.txs := by
  rw [blkW_to, txsTo_leaves _ (Nat.le_refl _), List.take_length]
theorem StOk.clear {S : StW} {m : Nat} (h : StOk S m) : StOk ⟨S.leaves, S.notes, []⟩ 0 := ⟨h.n, h.r, Nat.le_refl _⟩
theorem blkW_ok {seed : UInt64} {h : Nat} {L : List UInt64} {ns : List OwT} (b : BlkT) (hS : StOk ⟨L, ns, []⟩ 0) : StOk (blkW seed h L ns b) (b.txs.length * (L.length + outsN b.txs)) := by
  rw [blkW_to]
  exact txsTo_ok hS (Nat.le_refl _) _ (Nat.le_refl _)
theorem stTo_ok (seed : UInt64) (l : List BlkT) : ∀ i, StOk ⟨(stTo seed l i).leaves, (stTo seed l i).notes, []⟩ 0
  | 0 => ⟨Nat.le_refl _, (fun x h => by cases h), Nat.le_refl _⟩
  | i + 1 => by
    unfold stTo
    split
    · exact (blkW_ok _ (stTo_ok seed l i)).clear
    · exact stTo_ok seed l i
theorem stW_ok (seed : UInt64) (l : List BlkT) : StOk ⟨(stW seed l).leaves, (stW seed l).notes, []⟩ 0 := stTo_ok seed l _
/-- Undone: the state before. -/
theorem undo_blk (seed : UInt64) (h : Nat) (hh : h ≠ 0) (L : List UInt64) (ns : List OwT) (b : BlkT) :
    (blkW seed h L ns b).leaves.take L.length = L ∧ (resetW (blkW seed h L ns b).notes (blkW seed h L ns b).sp).take ns.length = ns ∧ (∀ i ∈ (blkW seed h L ns b).sp, i < (blkW seed h L ns b).notes.length) ∧ ns.length ≤ (blkW seed h L ns b).notes.length := by
  have h1 := UndR.txsTo (L := L) (ns := ns) (seed := seed) (h := h) (l := b.txs) hh _ (Nat.le_refl _)
  rw [← blkW_to] at h1
  exact ⟨h1.l, h1.undo, h1.s, h1.m⟩
theorem undo_st (seed : UInt64) (l : List BlkT) (b : BlkT) :
    (stW seed (l ++ [b])).leaves.take (stW seed l).leaves.length = (stW seed l).leaves ∧ (resetW (stW seed (l ++ [b])).notes (stW seed (l ++ [b])).sp).take (stW seed l).notes.length = (stW seed l).notes ∧ (∀ i ∈ (stW seed (l ++ [b])).sp, i < (stW seed (l ++ [b])).notes.length) ∧ (stW seed l).notes.length ≤ (stW seed (l ++ [b])).notes.length := by
  rw [stW_snoc]
  exact undo_blk seed _ (by omega) _ _ b
/-- All blocks fit. -/
def fitsAll (d : Nat) (seed : UInt64) (l : List BlkT) : Prop := ∀ i b, l[i]? = some b → fitsW d i (stTo seed l i).leaves.length b = 0
theorem fitsAll_leaves {d : Nat} {seed : UInt64} {l : List BlkT} (h : fitsAll d seed l) : ∀ i, (stTo seed l i).leaves.length ≤ 2 ^ d
  | 0 => Nat.zero_le _
  | i + 1 => by
    unfold stTo
    split
    · next b hb =>
      rw [blkW_leaves]
      have h1 := h i b hb
      unfold fitsW at h1
      split at h1
      · split at h1
        · split at h1
          · cases h1
          · omega
        · cases h1
      · cases h1
    · exact fitsAll_leaves h i
theorem fitsAll_stW {d : Nat} {seed : UInt64} {l : List BlkT} (h : fitsAll d seed l) : (stW seed l).leaves.length ≤ 2 ^ d := fitsAll_leaves h _
theorem fRed_fRed (b : UInt64) : fRed (fRed b) = fRed b := by
  apply UInt64.toNat_inj.1
  rw [fRed_toNat, fRed_toNat, Nat.mod_mod]
theorem hashU_seed1 (label seed : UInt64) : hashU label [fRed seed] = hashU label [seed] := hashU_red label [seed]
theorem hashU_seed2 (label seed x : UInt64) : hashU label [fRed seed, x] = hashU label [seed, x] := by
  rw [← hashU_red label [fRed seed, x], ← hashU_red label [seed, x]]
  simp only [List.map_cons, List.map_nil, fRed_fRed]
theorem kSpend_red (seed : UInt64) : kSpend (fRed seed) = kSpend seed := hashU_seed1 8 seed
theorem kView_red (seed : UInt64) (n : Int) : kView (fRed seed) n = kView seed n := by unfold kView; rw [hashU_seed2]
theorem tryW_red (seed : UInt64) (a : Nat) (o : OutT) (rho : UInt64) : tryW (fRed seed) a o rho = tryW seed a o rho := by
  unfold tryW tryR
  rw [kView_red, kSpend_red]
theorem findTo_red (seed : UInt64) (o : OutT) (rho : UInt64) : ∀ a, findTo (fRed seed) o rho a = findTo seed o rho a
  | 0 => rfl
  | a + 1 => by unfold findTo; rw [findTo_red seed o rho a, tryW_red]
theorem recvTo_red (seed : UInt64) (h : Nat) (t : TxT) (S : StW) : ∀ i, recvTo (fRed seed) h t S i = recvTo seed h t S i
  | 0 => rfl
  | i + 1 => by
    unfold recvTo
    rw [recvTo_red seed h t S i]
    split
    · unfold recv1 findW; rw [findTo_red]
    · rfl
theorem txW_red (seed : UInt64) (h : Nat) : txW (fRed seed) h = txW seed h := by
  funext S t
  unfold txW recvW
  rw [recvTo_red, kSpend_red]
theorem stTo_red (seed : UInt64) (l : List BlkT) : ∀ i, stTo (fRed seed) l i = stTo seed l i
  | 0 => rfl
  | i + 1 => by
    unfold stTo
    rw [stTo_red seed l i]
    split
    · unfold blkW; rw [txW_red]
    · rfl
theorem stW_red (seed : UInt64) (l : List BlkT) : stW (fRed seed) l = stW seed l := stTo_red seed l _
end Go.Proofs.YtcikjcjfcanloaaGreat
namespace Go.Proofs.YtcikjcjfcanloaaGreat
open Go.RowKit
attribute [local irreducible] perm fAdd fMul fPow fSub fNeg fRed hashU drawOf nextState cipSeal
theorem own_take {w : World} {e : TypeId} {k : Nat} {α : Type} {f : α → List Value} (hf : ∀ x, (f x).length = k) {a : Option Addr} {n c : Nat} {X : List α} (h : w.ownsRow 0 e k (.slice a n c) X.length (X.flatMap f)) {i : Nat} (hi : i ≤ X.length) : w.ownsRow 0 e k (.slice a i c) (X.take i).length ((X.take i).flatMap f) := by
  have hl : (X.take i).length = i := by rw [List.length_take]; omega
  have hfl : ∀ X : List α, (X.flatMap f).length = X.length * k := fun X => by
    induction X with
    | nil => simp
    | cons x r ih => rw [List.flatMap_cons, List.length_append, hf, ih, List.length_cons, Nat.succ_mul, Nat.add_comm]
  refine ⟨hfl _, ?_⟩
  rcases h.2 with ⟨h1, h2⟩ | ⟨g, cap, cur, h1, h2, h3, h4, h5, h6, h7⟩
  · injection h1 with e1 e2 e3
    subst e1 e3
    have : i = 0 := by omega
    subst this
    exact .inl ⟨rfl, by rw [hl]⟩
  · injection h1 with e1 e2 e3
    subst e1 e3
    refine .inr ⟨g, c, cur, by rw [hl], h2, h3, by rw [hl]; omega, h5, h6, ?_⟩
    rw [hl]
    have h8 : (X.flatMap f).take (i * k) = (X.take i).flatMap f := by
      conv => lhs; rw [← List.take_append_drop i X]
      rw [List.flatMap_append, List.take_append_of_le_length (by rw [hfl, hl]; exact Nat.le_refl _), List.take_of_length_le (by rw [hfl, hl]; exact Nat.le_refl _)]
    rw [← h8, ← h7, List.take_take, Nat.min_eq_left (Nat.mul_le_mul_right k hi)]
/-- The last block is no longer noted. -/
theorem WalIn.pop {w : World} {W d : Nat} {r : Rl} {seed : UInt64} {L : List UInt64} {ns : List OwT} {ps : List (ScT × Value)} {x : ScT × Value} {ob LB n c : Nat} {nv : Value} {pa : Option Addr} {FO FT A : Nat → Prop} (h : WalIn w W d r seed L ns (ps ++ [x]) ob LB nv (.slice pa n c) FO FT A) :
    WalIn (w.setCell ⟨W, 14, none⟩ (.slice pa ps.length c)) W d r seed L ns ps ob LB nv (.slice pa ps.length c) FO FT A ∧ Kp (fun j => j = W) w (w.setCell ⟨W, 14, none⟩ (.slice pa ps.length c)) := by
  have hbl : blk (.slice pa ps.length c) = blk (.slice pa n c) := blk_len _ _ _ _ _
  have hk : Kp (fun j => j = W) w (w.setCell ⟨W, 14, none⟩ (.slice pa ps.length c)) := (Kp.refl (fun j => j = W) _).setCell (p := ⟨W, 14, none⟩) (.inl rfl) _
  have hW : A W := h.sub W (.inl rfl)
  have hkA : Kp A w (w.setCell ⟨W, 14, none⟩ (.slice pa ps.length c)) := hk.mono fun j _ e => by rw [e]; exact hW
  have hp := own_take scCells_len h.past (i := ps.length) (by simp)
  rw [List.take_left] at hp
  refine ⟨{ h with self := ?_, sub := fun j e => h.sub j ?_, orc := h.orc.to hkA fun _ e => .inl e, tree := ?_, notes := ownsRow_kp h.notes hk fun b hb e => h.wn (e ▸ hb), past := ownsRow_kp hp hk fun b hb e => h.wp (by rw [← hbl, ← e]; exact hb), sps := fun y hy => (h.sps y (List.mem_append_left _ hy)).to hkA fun _ e => .inl e, wp := by rw [hbl]; exact h.wp, tp := fun j hj => h.tp j (by rw [← hbl]; exact hj), np := fun j hj e => h.np j hj (by rw [← hbl]; exact e), tl := fun j hj => Nat.lt_of_lt_of_le (h.tl j hj) hk.size }, hk⟩
  · exact heap_setCell_same h.self 14 _
  · rcases e with e | e | e | e
    · exact .inl e
    · exact .inr (.inl e)
    · exact .inr (.inr (.inl e))
    · exact .inr (.inr (.inr (by rw [← hbl]; exact e)))
  · obtain ⟨LV, vs, ls, h1, h2⟩ := h.tree
    exact ⟨LV, vs, ls, h1.of hk fun j hj e => h.wt (e ▸ hj), h2⟩
/-- Note i is not spent. -/
theorem WalIn.zero {w : World} {W d : Nat} {r : Rl} {seed : UInt64} {L : List UInt64} {ns : List OwT} {ps : List (ScT × Value)} {ob LB g n c : Nat} {pv : Value} {FO FT A : Nat → Prop} (h : WalIn w W d r seed L ns ps ob LB (.slice (some ⟨g, 0, none⟩) n c) pv FO FT A) {i : Nat} (hi : i < ns.length) :
    WalIn (w.setCell ⟨g, i * 8 + 7, none⟩ (.int .i64 0)) W d r seed L (ns.modify i zeroS) ps ob LB (.slice (some ⟨g, 0, none⟩) n c) pv FO FT A ∧ Kp (fun j => j = g) w (w.setCell ⟨g, i * 8 + 7, none⟩ (.int .i64 0)) := by
  have hg : blk (.slice (some ⟨g, 0, none⟩) n c) = some g := rfl
  have hk : Kp (fun j => j = g) w (w.setCell ⟨g, i * 8 + 7, none⟩ (.int .i64 0)) := (Kp.refl (fun j => j = g) _).setCell (p := ⟨g, i * 8 + 7, none⟩) (.inl rfl) _
  have hA : A g := h.sub g (.inr (.inr (.inl rfl)))
  have hkA : Kp A w (w.setCell ⟨g, i * 8 + 7, none⟩ (.int .i64 0)) := hk.mono fun j _ e => by rw [e]; exact hA
  have hnl : n = ns.length := by
    obtain ⟨a, c', e, -⟩ := ownsRow_rd h.notes
    injection e
  have hno := h.notes
  rw [← hnl] at hno
  have hx : ns[i]? = some ns[i] := List.getElem?_eq_getElem hi
  have hm : ns.modify i zeroS = ns.set i (zeroS ns[i]) := by
    apply List.ext_getElem?
    intro j
    rw [List.getElem?_modify]
    by_cases hji : i = j
    · subst hji
      rw [List.getElem?_set_self hi, hx]
      simp
    · rw [List.getElem?_set_ne hji]
      simp [hji]
  refine ⟨{ h with self := hk.heap_some (fun e => h.wn (by rw [e]; exact hg)) h.self, orc := h.orc.to hkA fun _ e => .inl e, tree := ?_, notes := ?_, past := ?_, sps := fun x hx => (h.sps x hx).to hkA fun _ e => .inl e, tl := fun j hj => Nat.lt_of_lt_of_le (h.tl j hj) hk.size }, hk⟩
  · obtain ⟨LV, vs, ls, h1, h2⟩ := h.tree
    exact ⟨LV, vs, ls, h1.of hk fun j hj e => h.tn g rfl (e ▸ hj), h2⟩
  · rw [hm, List.length_set, ← hnl]
    have := own_setRow hno (i * 8 + 7) (.int .i64 0)
    rwa [flat_set owCells_len ns i _ (zeroS ns[i]) 7 (.int .i64 0) hx (by omega) rfl] at this
  · exact ownsRow_kp h.past hk fun b hb e => h.np g rfl (by rw [← e]; exact hb)
/-- The notes from m on are gone. -/
theorem WalIn.cut {w : World} {W d : Nat} {r : Rl} {seed : UInt64} {L : List UInt64} {ns : List OwT} {ps : List (ScT × Value)} {ob LB n c m : Nat} {na : Option Addr} {pv : Value} {FO FT A : Nat → Prop} (h : WalIn w W d r seed L ns ps ob LB (.slice na n c) pv FO FT A) (hm : m ≤ ns.length) :
    WalIn (w.setCell ⟨W, 13, none⟩ (.slice na m c)) W d r seed L (ns.take m) ps ob LB (.slice na m c) pv FO FT A ∧ Kp (fun j => j = W) w (w.setCell ⟨W, 13, none⟩ (.slice na m c)) := by
  have hbl : blk (.slice na m c) = blk (.slice na n c) := blk_len _ _ _ _ _
  have hk : Kp (fun j => j = W) w (w.setCell ⟨W, 13, none⟩ (.slice na m c)) := (Kp.refl (fun j => j = W) _).setCell (p := ⟨W, 13, none⟩) (.inl rfl) _
  have hW : A W := h.sub W (.inl rfl)
  have hkA : Kp A w (w.setCell ⟨W, 13, none⟩ (.slice na m c)) := hk.mono fun j _ e => by rw [e]; exact hW
  have hp := own_take owCells_len h.notes (i := m) hm
  refine ⟨{ h with self := ?_, sub := fun j e => h.sub j ?_, orc := h.orc.to hkA fun _ e => .inl e, tree := ?_, notes := ownsRow_kp hp hk fun b hb e => h.wn (by rw [← hbl, ← e]; exact hb), past := ownsRow_kp h.past hk fun b hb e => h.wp (e ▸ hb), sps := fun y hy => (h.sps y hy).to hkA fun _ e => .inl e, wn := by rw [hbl]; exact h.wn, tn := fun j hj => h.tn j (by rw [← hbl]; exact hj), np := fun j hj => h.np j (by rw [← hbl]; exact hj), tl := fun j hj => Nat.lt_of_lt_of_le (h.tl j hj) hk.size }, hk⟩
  · exact heap_setCell_same h.self 13 _
  · rcases e with e | e | e | e
    · exact .inl e
    · exact .inr (.inl e)
    · exact .inr (.inr (.inl (by rw [← hbl]; exact e)))
    · exact .inr (.inr (.inr e))
  · obtain ⟨LV, vs, ls, h1, h2⟩ := h.tree
    exact ⟨LV, vs, ls, h1.of hk fun j hj e => h.wt (e ▸ hj), h2⟩
/-- The tree is another one. -/
theorem WalIn.tree' {w w' : World} {W d : Nat} {r : Rl} {seed : UInt64} {L L' : List UInt64} {ns : List OwT} {ps : List (ScT × Value)} {ob LB : Nat} {nv pv : Value} {FO FT : Nat → Prop} (h : WalIn w W d r seed L ns ps ob LB nv pv FO FT (WF W FT nv pv)) (ht : TreeTo w LB d FT L' w') :
    ∃ FT', WalIn w' W d r seed L' ns ps ob LB nv pv FO FT' (WF W FT' nv pv) ∧ Kp (WF W FT nv pv) w w' ∧ ∀ j, WF W FT' nv pv j → WF W FT nv pv j ∨ w.heap.size ≤ j := by
  obtain ⟨FT', h1, hk, hf⟩ := ht
  have hkA : Kp (WF W FT nv pv) w w' := hk.mono fun j _ e => .inr (.inl e)
  have hto : ∀ j, WF W FT' nv pv j → WF W FT nv pv j ∨ w.heap.size ≤ j := fun j hj => by
    rcases hj with e | e | e | e
    · exact .inl (.inl e)
    · rcases hf j e with e | e
      · exact .inl (.inr (.inl e))
      · exact .inr e
    · exact .inl (.inr (.inr (.inl e)))
    · exact .inl (.inr (.inr (.inr e)))
  have hno : ∀ j, j < w.heap.size → ¬ FT j → ¬ FT' j := fun j hj h1 h2 => by
    rcases hf j h2 with e | e
    · exact h1 e
    · omega
  refine ⟨FT', { h with self := hk.heap_some h.wt h.self, sub := fun j e => e, orc := h.orc.to hkA hto, tree := h1, notes := ownsRow_kp h.notes hk fun b hb => h.tn b hb, past := ownsRow_kp h.past hk fun b hb => h.tp b hb, sps := fun x hx => (h.sps x hx).to hkA hto, wt := hno W (heap_lt h.self) h.wt, tn := fun j hj => hno j (ownsRow_lt h.notes hj) (h.tn j hj), tp := fun j hj => hno j (ownsRow_lt h.past hj) (h.tp j hj), tl := fun j hj => ?_ }, hkA, hto⟩
  obtain ⟨LV, vs, ls, h2, -⟩ := h1
  exact h2.foot.2.2.2 j hj
theorem resetW_succ {l : List OwT} {sp : List Nat} {i j : Nat} (h : sp[i]? = some j) : resetW l (sp.take (i + 1)) = (resetW l (sp.take i)).modify j zeroS := by
  unfold resetW
  rw [List.take_add_one, h, List.foldl_append]
  rfl
theorem resetW_length (sp : List Nat) : ∀ l : List OwT, (resetW l sp).length = l.length := by
  induction sp with
  | nil => intro l; rfl
  | cons a r ih =>
    intro l
    show (resetW (l.modify a zeroS) r).length = _
    rw [ih, List.length_modify]
end Go.Proofs.YtcikjcjfcanloaaGreat
