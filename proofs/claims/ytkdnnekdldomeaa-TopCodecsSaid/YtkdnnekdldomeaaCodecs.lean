/- The law TopCodecs: the walk. -/
import Derived.Test.YtkdnnekdldomeaaCodLaw
set_option linter.unusedSimpArgs false
namespace Go.Proofs.Ytkdnnekdldomeaa
open Go.RowKit
attribute [local irreducible] perm fAdd fMul fPow fSub fNeg fRed hashU
theorem wpList_rem {P : Program} {w : World} {ops : Array Oper} {rest : List Oper} {o : Oper} {a : Act} {Q : Exit → Act → World → Prop} (hgd : o.guard = none) (t t2 : TypeId) (x y : Operand) (ho : o.op = .binOp .rem t x y t2)
    (k : IntKind) (m n r : Int) (hx : a.eval x = .int k m) (hy : a.eval y = .int k n) (hn : n ≠ 0) (hr : m.tmod n = r) (h : wpList P ops Q rest (a.put o.dst (.int k r)) w) : wpList P ops Q (o :: rest) a w :=
  wpList_plain hgd fun K hK => by
    unfold Oper.wp execOp
    simp only [ho, hx, hy]
    simp [go_sem, hn, hr]
    exact hK _ _ h
set_option maxRecDepth 100000 in
set_option maxHeartbeats 12800000 in
theorem codecs_any (b : BlkT) (bv : Value) (at_ by_ : Nat) (cut : Bool) (w : World) (hb : RdTs w bv b.txs) (hat : at_ < 65536) (hby : by_ < 256) :
    Calls Try.prog 4 #[blkVal b bv, .agg #[.int .u16 (at_ : Int), .int .u8 (by_ : Int), .bool cut]] w fun e w' => e = .returned (.bool true) ∧ Ext w w' := by
  obtain ⟨ta, tc, rfl, -⟩ := hb.shape
  have SM : Hid (∀ v, Ext w v → Calls Try.prog 6 #[blkVal b (.slice ta b.txs.length tc)] v fun e w' => e = .returned (.bool (smBlk b)) ∧ Ext v w') := hid fun v k => smBlk_any b _ v (hb.ext k)
  have HW := awake_any
  have HSM := hid (fun h : smBlk b = true => (smBlk_sm h).1)
  have HBB := hid (fun (h : smBlk b = true) => blkB_small (b := b) h)
  generalize smBlk b = sm at *
  have HB := hid hb
  have HAT := hid hat
  have HBY := hid hby
  obtain ⟨N, hN⟩ : ∃ N, N = w.heap.size := ⟨_, rfl⟩
  obtain ⟨w0, hw0⟩ : ∃ w0, w0 = (w.alloc (.cells #[uv b.parent, .int .i64 b.height, uv b.miner, uv b.work, uv b.nonce, .slice ta b.txs.length tc] 25)).alloc (.cells #[.int .u16 (at_ : Int), .int .u8 (by_ : Int), .bool cut] 43) := ⟨_, rfl⟩
  have hx0 : Ext w w0 := by rw [hw0]; exact ((Ext.refl w).alloc _).alloc _
  have hb0 : w0.heap[N]? = some (.cells #[uv b.parent, .int .i64 b.height, uv b.miner, uv b.work, uv b.nonce, .slice ta b.txs.length tc] 25 (0, 0)) := by rw [hw0, hN]; exact heap_alloc_some (heap_new _ _)
  have hb1 : w0.heap[N + 1]? = some (.cells #[.int .u16 (at_ : Int), .int .u8 (by_ : Int), .bool cut] 43 (0, 0)) := by
    rw [hw0, hN]
    have := heap_new (w.alloc (.cells #[uv b.parent, .int .i64 b.height, uv b.miner, uv b.work, uv b.nonce, .slice ta b.txs.length tc] 25)) (.cells #[.int .u16 (at_ : Int), .int .u8 (by_ : Int), .bool cut] 43)
    simpa using this
  have HB0 := hid hb0
  have HB1 := hid hb1
  have HWW := hid hw0
  have HX0 := hid hx0
  clear hw0 hx0 hb0 hb1 hb hat hby
  go_enter Try.func4, Try.ntmps4
  go_upto_region 1 with fail
  rw [← HWW.out, ← hN]
  clear hN HWW
  go_wp2_with fail
  refine (HW _).mono ?_
  rintro e w1 ⟨rfl, h1⟩
  have E1 := hid h1
  have H1 := hid (HX0.out.trans h1)
  clear h1
  obtain ⟨c0, c1, c2, c3, c4, c5⟩ := six_cellsB (E1.out.heap_some HB0.out)
  go_wp2_with fail
  refine (SM.out _ H1.out).mono ?_
  rintro e w2 ⟨rfl, h2⟩
  have E2 := hid (E1.out.trans h2)
  have H2 := hid (H1.out.trans h2)
  clear h2 SM
  clear c0 c1 c2 c3 c4 c5
  cases sm with
  | false =>
    go_wp2_with fail
    refine (HW _).mono ?_
    rintro e wz ⟨rfl, hz⟩
    have HZ := hid (H2.out.trans hz)
    clear hz
    go_wp2_with fail
    go_ret
    exact ⟨rfl, HZ.out⟩
  | true =>
  have HS := hid (HSM.out rfl)
  have HBL := hid (HBB.out rfl)
  clear HSM HBB
  have VA : Hid (∀ v, Ext w v → Calls Try.prog 7 #[blkVal b (.slice ta b.txs.length tc)] v fun e w' => e = .returned (.int .i64 (blkV b)) ∧ Ext v w') := hid fun v k => rBlkValid_any b _ v (HB.out.ext k) HS.out
  obtain ⟨va, hva⟩ : ∃ va, va = blkV b := ⟨_, rfl⟩
  have HVA := hid hva
  rw [← hva] at VA
  clear hva
  obtain ⟨c0, c1, c2, c3, c4, c5⟩ := six_cellsB (E2.out.heap_some HB0.out)
  go_wp2_with fail
  refine (VA.out _ H2.out).mono ?_
  rintro e w4 ⟨rfl, h4⟩
  have E4 := hid (E2.out.trans h4)
  have H4 := hid (H2.out.trans h4)
  clear h4 VA
  clear c0 c1 c2 c3 c4 c5
  by_cases hva : va = 0
  case neg =>
    have hva' : decide (va = 0) = false := decide_eq_false hva
    go_wp2_with fail
    refine (HW _).mono ?_
    rintro e wz ⟨rfl, hz⟩
    have HZ := hid (H4.out.trans hz)
    clear hz
    go_wp2_with fail
    go_ret
    exact ⟨rfl, HZ.out⟩
  subst hva
  have HV : Hid (blkV b = 0) := hid HVA.out.symm
  clear HVA HW H1 H2 E1 E2
  obtain ⟨l, hl⟩ : ∃ l, l = blkB b := ⟨_, rfl⟩
  have HL := hid hl
  have HLN : Hid (40 ≤ l.length ∧ l.length ≤ 10000) := hid (by rw [hl]; exact HBL.out HV.out)
  have ENC : Hid (∀ v, Ext w v → Calls Try.prog 14 #[blkVal b (.slice ta b.txs.length tc)] v fun e w' => ∃ ya yc, e = .returned (.tuple #[.slice ya l.length yc, .int .i64 0]) ∧ FrB v w' (.slice ya l.length yc) l) := hid fun v k => by
    refine Calls.mono (blkEncode_any b _ v (HB.out.ext k) HS.out) ?_
    rintro e u' ⟨y, rfl, hf⟩
    rw [HV.out, if_pos rfl, ← hl] at hf
    obtain ⟨a, c, rfl⟩ := hf.sl
    rw [HV.out]
    exact ⟨a, c, rfl, hf⟩
  have DEC : Hid (∀ v y, RdB' v y l → Calls Try.prog 15 #[y] v fun e w' => ∃ sa sc, e = .returned (.tuple #[blkVal b (.slice sa b.txs.length sc), .int .i64 0]) ∧ Ext v w' ∧ RdTs w' (.slice sa b.txs.length sc) b.txs) := hid fun v y hy => by
    refine Calls.mono (blkDecode_any y l v hy HLN.out.2) ?_
    rintro e u' (⟨d, tv, rfl, k, hst, -, -, -, hu⟩ | ⟨rfl, -, hno⟩)
    · obtain rfl := hu b HV.out hl.symm
      have hr := hst.now
      obtain ⟨a, c, rfl, -⟩ := hr.shape
      exact ⟨a, c, rfl, k, hr⟩
    · exact absurd hl.symm (hno b HV.out)
  clear hl HBL
  obtain ⟨c0, c1, c2, c3, c4, c5⟩ := six_cellsB (E4.out.heap_some HB0.out)
  go_wp2_with fail
  refine (ENC.out _ H4.out).mono ?_
  rintro e w5 ⟨ya, yc, rfl, hfr⟩
  have FR5 := hid hfr
  have E5 := hid (E4.out.trans hfr.2.1)
  have H5 := hid (H4.out.trans hfr.2.1)
  clear hfr ENC c0 c1 c2 c3 c4 c5 E4
  go_wp2_with fail
  refine (DEC.out _ _ FR5.out.1.weak).mono ?_
  rintro e w6 ⟨sa, sc, rfl, h6, hr6⟩
  have O6 := hid (ownsRow_ext FR5.out.1 h6)
  have E6 := hid (E5.out.trans h6)
  have H6 := hid (H5.out.trans h6)
  have R6 := hid hr6
  clear h6 hr6 DEC E5
  go_upto_region 5 with fail
  obtain ⟨D, hD⟩ : ∃ D, D = w6.heap.size := ⟨_, rfl⟩
  obtain ⟨w7, hw7⟩ : ∃ w7, w7 = w6.alloc (.cells #[uv b.parent, .int .i64 b.height, uv b.miner, uv b.work, uv b.nonce, .slice sa b.txs.length sc] 25) := ⟨_, rfl⟩
  rw [← hw7, ← hD]
  have hx7 : Ext w6 w7 := by rw [hw7]; exact (Ext.refl _).alloc _
  have hb7 : w7.heap[D]? = some (.cells #[uv b.parent, .int .i64 b.height, uv b.miner, uv b.work, uv b.nonce, .slice sa b.txs.length sc] 25 (0, 0)) := by rw [hw7, hD]; exact heap_new _ _
  have H7 := hid (H6.out.trans hx7)
  have O7 := hid (ownsRow_ext O6.out hx7)
  have R7 := hid (R6.out.ext hx7)
  have HC : Hid (∀ v, Ext w7 v → (v.cell? ⟨N, 0, none⟩ = some (uv b.parent) ∧ v.cell? ⟨N, 1, none⟩ = some (.int .i64 b.height) ∧ v.cell? ⟨N, 2, none⟩ = some (uv b.miner) ∧ v.cell? ⟨N, 3, none⟩ = some (uv b.work) ∧ v.cell? ⟨N, 4, none⟩ = some (uv b.nonce) ∧ v.cell? ⟨N, 5, none⟩ = some (.slice ta b.txs.length tc)) ∧ (v.cell? ⟨D, 0, none⟩ = some (uv b.parent) ∧ v.cell? ⟨D, 1, none⟩ = some (.int .i64 b.height) ∧ v.cell? ⟨D, 2, none⟩ = some (uv b.miner) ∧ v.cell? ⟨D, 3, none⟩ = some (uv b.work) ∧ v.cell? ⟨D, 4, none⟩ = some (uv b.nonce) ∧ v.cell? ⟨D, 5, none⟩ = some (.slice sa b.txs.length sc)) ∧ (v.cell? ⟨N + 1, 0, none⟩ = some (.int .u16 (at_ : Int)) ∧ v.cell? ⟨N + 1, 1, none⟩ = some (.int .u8 (by_ : Int)) ∧ v.cell? ⟨N + 1, 2, none⟩ = some (.bool cut))) := hid fun v k =>
    ⟨six_cellsB (((E6.out.trans hx7).trans k).heap_some HB0.out), six_cellsB (k.heap_some hb7), by
      have h := ((E6.out.trans hx7).trans k).heap_some HB1.out
      exact ⟨cell_of h 0, cell_of h 1, cell_of h 2⟩⟩
  have SAME : Hid (∀ v, Ext w7 v → Calls Try.prog 9 #[blkVal b (.slice ta b.txs.length tc), blkVal b (.slice sa b.txs.length sc)] v fun e w' => e = .returned (.bool true) ∧ Ext v w') := hid fun v k => by
    have := sameBlk_any b b _ _ v (HB.out.ext (H7.out.trans k)) (R7.out.ext k) HS.out HS.out
    rwa [sameBlk_refl] at this
  have HBN := hid ((E6.out.trans hx7).heap_some HB0.out)
  clear hx7 hb7 hw7 hD E6 H6 O6 R6 HB0 HB1 FR5 H5 H4 HX0
  obtain ⟨⟨c0, c1, c2, c3, c4, c5⟩, ⟨d0, d1, d2, d3, d4, d5⟩, -⟩ := HC.out _ (Ext.refl w7)
  go_wp2_with fail
  refine (SAME.out _ (Ext.refl w7)).mono ?_
  rintro e w8 ⟨rfl, h8⟩
  have E8 := hid h8
  clear h8 SAME c0 c1 c2 c3 c4 c5 d0 d1 d2 d3 d4 d5
  have hlI : (l.length : Int) ≤ 10000 := by have := HLN.out.2; omega
  have hlI0 : 40 ≤ (l.length : Int) := by have := HLN.out.1; omega
  have hl0 : decide ((l.length : Int) = 0) = false := decide_eq_false (by omega)
  have hl00 : ((l.length : Int) == 0) = false := by rw [beq_eq_false_iff_ne]; omega
  obtain ⟨⟨c0, c1, c2, c3, c4, c5⟩, -, -⟩ := HC.out _ E8.out
  have hn1 : (b.txs.length : Int) ≤ 100 := by have := HS.out.n; omega
  go_wp2_with fail
  go_loopw [64] (fun iv wr => ∃ i : Nat, i ≤ b.txs.length ∧ iv = .int .i64 i ∧ Hid (Ext w7 wr)) (fun iv _ => b.txs.length - (intOf iv).toNat)
  case atStart => exact ⟨0, by omega, rfl, E8⟩
  case round =>
    clear c0 c1 c2 c3 c4 c5
    obtain ⟨i, hi, rfl, HXR⟩ := hrel
    obtain ⟨⟨c0, c1, c2, c3, c4, c5⟩, -, -⟩ := HC.out _ HXR.out
    by_cases hlt : i < b.txs.length
    · have hltB : decide ((i : Int) < (b.txs.length : Int)) = true := by simp; omega
      have hi0 : (0 : Int) ≤ (i : Int) := Int.natCast_nonneg _
      have hil : (i : Int) < (b.txs.length : Int) := by omega
      obtain ⟨x, hxi⟩ : ∃ x, b.txs[i]? = some x := ⟨_, List.getElem?_eq_getElem hlt⟩
      obtain ⟨q, o, ma, mc, oa, oc, pa, pc, rfl, hrx, e0, e1, e2, e3, e4, e5, e6, e7, e8, e9⟩ := (HB.out.ext (H7.out.trans HXR.out)).at hxi
      have HSX := hid (HS.out.t x (List.mem_of_getElem? hxi)).1
      have HVX := hid ((blkV_parts HV.out).2 x (List.mem_of_getElem? hxi))
      have RX := hid hrx
      obtain ⟨m, hm⟩ : ∃ m, m = txB x := ⟨_, rfl⟩
      have TE : Hid (∀ v, Ext wr v → Calls Try.prog 16 #[txVal x (.slice ma x.marks.length mc) (.slice oa x.outs.length oc) (.slice pa x.proof.length pc)] v fun e w' => ∃ ya yc, e = .returned (.tuple #[.slice ya m.length yc, .int .i64 0]) ∧ FrB v w' (.slice ya m.length yc) m) := hid fun v k => by
        refine Calls.mono (txEncode_any x _ _ _ v (RX.out.ext k) HSX.out) ?_
        rintro e u' ⟨y, rfl, hf⟩
        rw [HVX.out, if_pos rfl, ← hm] at hf
        obtain ⟨a, c, rfl⟩ := hf.sl
        rw [HVX.out]
        exact ⟨a, c, rfl, hf⟩
      have TD : Hid (∀ v y, RdB' v y m → Calls Try.prog 17 #[y] v fun e w' => ∃ ma mc oa oc pa pc, e = .returned (.tuple #[txVal x (.slice ma x.marks.length mc) (.slice oa x.outs.length oc) (.slice pa x.proof.length pc), .int .i64 0]) ∧ Ext v w' ∧ RdT w' x (.slice ma x.marks.length mc) (.slice oa x.outs.length oc) (.slice pa x.proof.length pc)) := hid fun v y hy => by
        refine Calls.mono (txDecode_any y m v hy (by rw [hm]; have := txB_le HSX.out; omega)) ?_
        rintro e u' (⟨t, mv, ov, pv, rfl, k, hst, -, -, hu⟩ | ⟨rfl, -, hno⟩)
        · obtain rfl := hu x HVX.out hm.symm
          have hr := hst.now
          obtain ⟨a1, a2, a3, a4, a5, a6, rfl, rfl, rfl⟩ := hr.shape
          exact ⟨a1, a2, a3, a4, a5, a6, rfl, k, hr⟩
        · exact absurd hm.symm (hno x HVX.out)
      have TW : Hid (∀ v, Ext wr v → Calls Try.prog 19 #[txVal x (.slice ma x.marks.length mc) (.slice oa x.outs.length oc) (.slice pa x.proof.length pc)] v fun e w' => e = .returned (.int .i64 (m.length : Int)) ∧ Ext v w') := hid fun v k => by
        have := txWeight_any x _ _ _ v (RX.out.ext k) HSX.out
        rwa [HVX.out, if_pos rfl, ← hm] at this
      have TSM : Hid (∀ v ma' mc' oa' oc' pa' pc', Ext wr v → RdT v x (.slice ma' x.marks.length mc') (.slice oa' x.outs.length oc') (.slice pa' x.proof.length pc') → Calls Try.prog 18 #[txVal x (.slice ma x.marks.length mc) (.slice oa x.outs.length oc) (.slice pa x.proof.length pc), txVal x (.slice ma' x.marks.length mc') (.slice oa' x.outs.length oc') (.slice pa' x.proof.length pc')] v fun e w' => e = .returned (.bool true) ∧ Ext v w') := hid fun v a1 a2 a3 a4 a5 a6 k h => by
        have := sameTx_any x x _ _ _ _ _ _ v (RX.out.ext k) h HSX.out HSX.out
        rwa [sameTx_refl] at this
      clear hm hxi hrx
      go_upto_region 10 with fail
      obtain ⟨Q, hQ⟩ : ∃ Q, Q = wr.heap.size := ⟨_, rfl⟩
      obtain ⟨u1, hu1⟩ : ∃ u1, u1 = wr.alloc (.cells #[uv x.anchor, .slice ma x.marks.length mc, .slice oa x.outs.length oc, uv x.deposit, uv x.withdraw, uv x.fee, uv x.account, uv x.nonce, .int .i64 x.expiry, .slice pa x.proof.length pc] 39) := ⟨_, rfl⟩
      rw [← hu1, ← hQ]
      have G1 : Hid (Ext wr u1) := hid (by rw [hu1]; exact (Ext.refl _).alloc _)
      have QB : Hid (u1.heap[Q]? = some (.cells #[uv x.anchor, .slice ma x.marks.length mc, .slice oa x.outs.length oc, uv x.deposit, uv x.withdraw, uv x.fee, uv x.account, uv x.nonce, .int .i64 x.expiry, .slice pa x.proof.length pc] 39 (0, 0))) := hid (by rw [hu1, hQ]; exact heap_new _ _)
      clear hu1 hQ c0 c1 c2 c3 c4 c5 e0 e1 e2 e3 e4 e5 e6 e7 e8 e9
      obtain ⟨c0, c1, c2, c3, c4, c5, c6, c7, c8, c9⟩ := ten_cells QB.out
      go_wp2_with fail
      refine (TE.out _ G1.out).mono ?_
      rintro e u2 ⟨za, zc, rfl, hfr⟩
      have FR := hid hfr.1
      have G2 := hid (G1.out.trans hfr.2.1)
      have Q2 := hid hfr.2.1
      clear hfr TE c0 c1 c2 c3 c4 c5 c6 c7 c8 c9
      go_wp2_with fail
      refine (TD.out _ _ FR.out.weak).mono ?_
      rintro e u3 ⟨a1, a2, a3, a4, a5, a6, rfl, h3, hr3⟩
      have G3 := hid (G2.out.trans h3)
      have Q3 := hid (Q2.out.trans h3)
      have R3 := hid hr3
      clear h3 hr3 TD FR G1 G2 Q2
      go_upto_region 12 with fail
      obtain ⟨M, hM⟩ : ∃ M, M = u3.heap.size := ⟨_, rfl⟩
      obtain ⟨u4, hu4⟩ : ∃ u4, u4 = u3.alloc (.cells #[uv x.anchor, .slice a1 x.marks.length a2, .slice a3 x.outs.length a4, uv x.deposit, uv x.withdraw, uv x.fee, uv x.account, uv x.nonce, .int .i64 x.expiry, .slice a5 x.proof.length a6] 39) := ⟨_, rfl⟩
      rw [← hu4, ← hM]
      have hx4 : Ext u3 u4 := by rw [hu4]; exact (Ext.refl _).alloc _
      have hm4 : u4.heap[M]? = some (.cells #[uv x.anchor, .slice a1 x.marks.length a2, .slice a3 x.outs.length a4, uv x.deposit, uv x.withdraw, uv x.fee, uv x.account, uv x.nonce, .int .i64 x.expiry, .slice a5 x.proof.length a6] 39 (0, 0)) := by rw [hu4, hM]; exact heap_new _ _
      have G4 := hid (G3.out.trans hx4)
      have Q4 := hid (Q3.out.trans hx4)
      have R4 := hid (R3.out.ext hx4)
      have HQC : Hid (∀ v, Ext u4 v → (v.cell? ⟨Q, 0, none⟩ = some (uv x.anchor) ∧ v.cell? ⟨Q, 1, none⟩ = some (.slice ma x.marks.length mc) ∧ v.cell? ⟨Q, 2, none⟩ = some (.slice oa x.outs.length oc) ∧ v.cell? ⟨Q, 3, none⟩ = some (uv x.deposit) ∧ v.cell? ⟨Q, 4, none⟩ = some (uv x.withdraw) ∧ v.cell? ⟨Q, 5, none⟩ = some (uv x.fee) ∧ v.cell? ⟨Q, 6, none⟩ = some (uv x.account) ∧ v.cell? ⟨Q, 7, none⟩ = some (uv x.nonce) ∧ v.cell? ⟨Q, 8, none⟩ = some (.int .i64 x.expiry) ∧ v.cell? ⟨Q, 9, none⟩ = some (.slice pa x.proof.length pc))) := hid fun v k => ten_cells ((Q4.out.trans k).heap_some QB.out)
      obtain ⟨d0, d1, d2, d3, d4, d5, d6, d7, d8, d9⟩ := ten_cells hm4
      obtain ⟨c0, c1, c2, c3, c4, c5, c6, c7, c8, c9⟩ := HQC.out _ (Ext.refl _)
      clear hu4 hM hx4 hm4 G3 Q3 R3 QB Q4
      go_wp2_with fail
      refine (TSM.out _ _ _ _ _ _ _ G4.out R4.out).mono ?_
      rintro e u5 ⟨rfl, h5⟩
      have G5 := hid h5
      clear h5 TSM R4 c0 c1 c2 c3 c4 c5 c6 c7 c8 c9 d0 d1 d2 d3 d4 d5 d6 d7 d8 d9
      obtain ⟨c0, c1, c2, c3, c4, c5, c6, c7, c8, c9⟩ := HQC.out _ G5.out
      go_wp2_with fail
      refine (TW.out _ (G4.out.trans G5.out)).mono ?_
      rintro e u6 ⟨rfl, h6⟩
      have G6 := hid (HXR.out.trans ((G4.out.trans G5.out).trans h6))
      clear h6 TW c0 c1 c2 c3 c4 c5 c6 c7 c8 c9
      go_wp2_with fail
      go_roundw
      case rel => exact ⟨i + 1, by omega, by go_num, G6⟩
      case measure => simp [intOf]; omega
    · have hie : i = b.txs.length := by omega
      have hltB : decide ((i : Int) < (b.txs.length : Int)) = false := by simp; omega
      have hlI' := hid hlI
      have OR := hid (ownsRow_ext O7.out HXR.out)
      have HXW := hid (H7.out.trans HXR.out)
      clear hie hn1
      obtain ⟨j0, hj, hjz0, hjz1, hjz2⟩ := info_parts Try.infoB
      have hown0 : (wr.alloc (.cells #[] 5)).ownsRow 0 5 1 (.slice (some ⟨wr.heap.size, 0, none⟩) 0 0) 0 [] := ⟨rfl, .inr ⟨wr.heap.size, 0, #[], rfl, Nat.zero_le _, heap_new _ _, Nat.le_refl _, by unfold maxLen; omega, rfl, rfl⟩⟩
      have hlr : RdC' (wr.alloc (.cells #[] 5)) (.slice ya l.length yc) l.length (bs l) := (ownsRow_rd (ownsRow_ext OR.out ((Ext.refl wr).alloc _))).weak
      have hlm : (0 + l.length) ≤ maxLen := by have := HLN.out; unfold maxLen; omega
      have hlm2 : (0 + l.length) * 1 ≤ 140737488355328 := by have := HLN.out; omega
      go_wp2_with (at_builtin; refine wpList_app' rfl _ _ 33 rfl 5 j0 (.int .u8 0) 1 1 Try.underlying33 hj hjz0 hjz1 hjz2 rfl (by decide) _ 0 [] rfl hown0 _ l.length (bs l) rfl hlr (by simp) (bs_one l) hlm hlm2 ?_)
      intro v7 w9 own9 hk9 hb9
      have hxw : Ext wr w9 := ((Ext.refl wr).alloc _).kp hk9 (fun k e => by
        have e2 : k = wr.heap.size := Option.some.inj e
        omega)
      obtain ⟨g, cc, rfl⟩ : ∃ g cc, v7 = .slice (some ⟨g, 0, none⟩) l.length cc := by
        rcases own9.2 with ⟨-, h0⟩ | ⟨g, cap, cur, h, -⟩
        · have := HLN.out; omega
        · exact ⟨g, cap, h⟩
      have HG : Hid (w.heap.size ≤ g) := hid (by
        have h1 := HXW.out.size
        rcases hb9 with e | e
        · have e2 : g = wr.heap.size := Option.some.inj e
          omega
        · have e2 : g = wr.heap.size + 1 := Option.some.inj e
          omega)
      have HNG : Hid (N ≠ g) := hid (by
        have h1 := heap_lt (HXR.out.heap_some HBN.out)
        rcases hb9 with e | e
        · have e2 : g = wr.heap.size := Option.some.inj e
          omega
        · have e2 : g = wr.heap.size + 1 := Option.some.inj e
          omega)
      have OY := hid own9
      have OL := hid (ownsRow_ext OR.out hxw)
      have X9 := hid (HXR.out.trans hxw)
      have XW9 := hid (HXW.out.trans hxw)
      have NGL : Hid (∀ k, blk (.slice ya l.length yc) = some k → k ≠ g) := hid fun k hk e => by
        have h1 := ownsRow_lt OR.out hk
        rcases hb9 with e3 | e3
        · have e2 : g = wr.heap.size := Option.some.inj e3
          omega
        · have e2 : g = wr.heap.size + 1 := Option.some.inj e3
          omega
      clear hk9 hb9 own9 hxw hlr hown0 hj hjz0 hjz1 hjz2 hlm hlm2 HXR HXW OR c0 c1 c2 c3 c4 c5
      obtain ⟨j, hj⟩ : ∃ j, j = at_ % l.length := ⟨_, rfl⟩
      have hjl : j < l.length := by rw [hj]; exact Nat.mod_lt _ (by have := HLN.out; omega)
      have HJT : Hid ((at_ : Int).tmod (l.length : Int) = (j : Int)) := hid (by rw [hj]; rfl)
      have hatI : (at_ : Int) < 65536 := by have := HAT.out; omega
      have hat0 : 0 ≤ (at_ : Int) := Int.natCast_nonneg _
      have HNE : Hid (((l.length : Int) ≠ 0)) := hid (by omega)
      have hjlI : (j : Int) < (l.length : Int) := by omega
      have hj0 : 0 ≤ (j : Int) := Int.natCast_nonneg _
      clear hj HAT hl0 hl00
      obtain ⟨-, -, ⟨d0, d1, d2⟩⟩ := HC.out _ X9.out
      go_upto_region 17 with (refine wpList_rem rfl 3 3 (.tmp 103) (.tmp 105) rfl .i64 (at_ : Int) (l.length : Int) (j : Int) rfl rfl HNE.out HJT.out ?_)
      clear HNE HJT d0 d1 d2 hatI hat0
      obtain ⟨-, -, ⟨d0, d1, d2⟩⟩ := HC.out _ X9.out
      have hcc : l.length ≤ cc := by
        obtain ⟨a', c', h1, h2, -⟩ := ownsRow_rd OY.out
        injection h1 with e1 e2 e3
        omega
      have hjc : (j : Int) ≤ (cc : Int) := by omega
      have hjc2 : j ≤ cc := by omega
      have hcz : ¬ (cc = 0) := by have := HLN.out; omega
      cases cut
      case' true =>
        go_upto_region 20 with fail
        obtain ⟨yl, hyl⟩ : ∃ yl, yl = l.take j := ⟨_, rfl⟩
        have hyn : yl.length = j := by rw [hyl, List.length_take]; omega
        have hoy : OwnB w9 (.slice (some ⟨g, 0, none⟩) j cc) yl := by rw [hyl]; exact own_take OY.out (by intro e; rw [e] at hjl; cases hjl) (by omega)
        have HYN : Hid (yl.length ≤ 10000) := hid (by omega)
        obtain ⟨wy, hwy⟩ : ∃ wy, wy = w9 := ⟨_, rfl⟩
        rw [← hwy]
        obtain ⟨yv, hyv⟩ : ∃ yv, yv = Value.slice (some ⟨g, 0, none⟩) j cc := ⟨_, rfl⟩
        rw [← hyv] at hoy ⊢
        have KY : Hid (Kp (fun i => i = g) w9 wy) := hid (by rw [hwy]; exact Kp.refl _ _)
        rw [← hwy] at hoy
        have HY := hid hoy
        clear hoy hwy hyv hyl hyn
      case' false =>
        have hg : ∃ d, l[j]? = some d := ⟨_, List.getElem?_eq_getElem hjl⟩
        obtain ⟨d, hd⟩ := hg
        obtain ⟨y, hy⟩ : ∃ y, y = d + UInt8.ofNat by_ := ⟨_, rfl⟩
        have hadd : ((d.toNat : Int) + (by_ : Int)) % 256 = (y.toNat : Int) := by
          rw [hy, UInt8.toNat_add, UInt8.toNat_ofNat']
          omega
        have HADD := hid hadd
        clear hadd
        have HCY : Hid (∀ v, Ext w9 v → (v.cell? ⟨g, j, none⟩ = some (.int .u8 (d.toNat : Int)) ∧ v.cell? ⟨N + 1, 1, none⟩ = some (.int .u8 (by_ : Int)))) := hid fun v k => ⟨by
          have h := (ownsRow_ext OY.out k).cells (g := g) rfl j (.int .u8 (d.toNat : Int)) (by unfold bs; rw [List.getElem?_map, hd]; rfl)
          rw [Addr.add_lit, Nat.zero_add] at h
          exact h, (HC.out v (X9.out.trans k)).2.2.2.1⟩
        clear d0 d1
        go_wp2_with fail
        refine wp_region_T (fun v => (v.cell? ⟨g, j, none⟩ = some (.int .u8 (d.toNat : Int)) ∧ v.cell? ⟨N + 1, 1, none⟩ = some (.int .u8 (by_ : Int))) ∧ Ext w9 v) 6 [(0, true), (1, true), (2, true), (3, true), (4, true), (5, true), (6, false), (7, false), (8, false)] (by kernel_rfl) (by kernel_rfl) (by intro c a d v w h; cases d <;> exact h) ?_
        intro ops hops
        have HSS := keep0 HCY.out
        iterate 6
          refine wpT_take (v := ?_) (by rw [hops, List.getElem?_toArray]; rfl) (by first | rfl | (rw [hops]; rfl)) ?_ HSS ?_
          rotate_left
          · intro v h; go_simp; with_reducible rfl
          simp only [Act.put, List.getElem_toArray, List.getElem_cons_zero, List.getElem_cons_succ, List.setIfInBounds_toArray, List.set_cons_zero, List.set_cons_succ]
        have h10 := ownsRow_ext OY.out HSS.2
        have HX10 := hid HSS.2
        have HSET : Hid (∀ x : UInt8, OwnB (w9.drew.setCell ⟨g, j, none⟩ (.int .u8 (x.toNat : Int))) (.slice (some ⟨g, 0, none⟩) (l.set j x).length cc) (l.set j x)) := hid fun x => own_set h10 j x
        obtain ⟨cur, hcur⟩ : ∃ cur, w9.drew.heap[g]? = some (.cells cur 5 (0, 0)) := by
          rcases h10.2 with ⟨h, -⟩ | ⟨g', cap, cur, h1, h2, h3, -⟩
          · cases h
          · injection h1 with e1
            injection e1 with e1
            injection e1 with e1
            subst e1
            exact ⟨cur, h3⟩
        have fz := frozen_of hcur
        have hcell := HSS.1.1
        clear HSS h10
        generalize w9.drew = w10 at *
        refine wpT_step (by rw [hops, List.getElem?_toArray]; rfl) (by first | rfl | (rw [hops]; rfl)) ?_
        intro K hK
        go_wp2_with fail
        try (with_reducible refine ⟨fun h => absurd h (by decide), ?_⟩)
        try rw [← hops]
        refine wpT_step (by rw [hops, List.getElem?_toArray]; rfl) (by first | rfl | (rw [hops]; rfl)) ?_
        intro K hK
        go_wp2_with fail
        try (with_reducible refine ⟨fun h => absurd h (by decide), ?_⟩)
        try rw [← hops]
        refine wpT_step (by rw [hops, List.getElem?_toArray]; rfl) (by first | rfl | (rw [hops]; rfl)) ?_
        intro K hK
        go_wp2_with fail
        try (with_reducible refine ⟨fun h => absurd h (by decide), ?_⟩)
        try rw [wpT_nil]
        try clear hops ops
        rw [HADD.out]
        obtain ⟨yl, hyl⟩ : ∃ yl, yl = l.set j y := ⟨_, rfl⟩
        have hyn : yl.length = l.length := by rw [hyl, List.length_set]
        have hoy := HSET.out y
        rw [← hyl, hyn] at hoy
        have HYN : Hid (yl.length ≤ 10000) := hid (by omega)
        have KY : Hid (Kp (fun i => i = g) w9 (w10.setCell ⟨g, j, none⟩ (.int .u8 (y.toNat : Int)))) := hid ((Kp.of_ext HX10.out).trans (kpP g w10 j _))
        obtain ⟨yv, hyv⟩ : ∃ yv, yv = Value.slice (some ⟨g, 0, none⟩) l.length cc := ⟨_, rfl⟩
        rw [← hyv] at hoy ⊢
        have HY := hid hoy
        clear HSET hoy hyl hyn hcell hcur fz hd hy HADD HX10 HCY hyv
        generalize w10.setCell ⟨g, j, none⟩ (.int .u8 (y.toNat : Int)) = wy at *
        go_upto_region 20 with fail
      all_goals
        clear hjl hjlI hj0 hcc hjc hjc2 hcz d2
        have HCN : Hid (∀ v, Ext wy v → (v.cell? ⟨N, 0, none⟩ = some (uv b.parent) ∧ v.cell? ⟨N, 1, none⟩ = some (.int .i64 b.height) ∧ v.cell? ⟨N, 2, none⟩ = some (uv b.miner) ∧ v.cell? ⟨N, 3, none⟩ = some (uv b.work) ∧ v.cell? ⟨N, 4, none⟩ = some (uv b.nonce) ∧ v.cell? ⟨N, 5, none⟩ = some (.slice ta b.txs.length tc))) := hid fun v k => six_cellsB (k.heap_some (KY.out.heap_some HNG.out (X9.out.heap_some HBN.out)))
        have XWY : Hid (Ext w wy) := hid (XW9.out.kp KY.out (fun k e => by subst e; exact HG.out))
        have OLY : Hid (OwnB wy (.slice ya l.length yc) l) := hid (ownsRow_kp OL.out KY.out (fun k hk e => NGL.out k hk e))
        have DECY : Hid (∀ v, Ext wy v → Calls Try.prog 15 #[yv] v (DecBO v yl)) := hid fun v k => blkDecode_any yv yl v (OwnB.weak (ownsRow_ext HY.out k)) HYN.out
        have hcy := run_str wy _ _ HY.out
        have hcl := run_str wy _ _ OLY.out
        obtain ⟨s, hs⟩ : ∃ s : ByteArray, s = ⟨yl.toArray⟩ := ⟨_, rfl⟩
        obtain ⟨t, ht⟩ : ∃ t : ByteArray, t = ⟨l.toArray⟩ := ⟨_, rfl⟩
        rw [← hs] at hcy
        rw [← ht] at hcl
        have HTS : Hid (yl = l → s = t) := hid fun h => by rw [hs, ht, h]
        have HSE := hid hs
        clear hs ht OL NGL HG HNG X9 XW9 KY HBN E8 OY
        by_cases hst : s = t
        · subst hst
          go_wp2_with fail
          go_ret
          exact ⟨rfl, XWY.out⟩
        · have hst2 : ¬ s.toList = t.toList := fun e => hst (toList_inj' e)
          have hst3 : (s.toList == t.toList) = false := by rw [beq_eq_false_iff_ne]; exact hst2
          have hst4 : decide (s.toList = t.toList) = false := decide_eq_false hst2
          have HNE : Hid (yl ≠ l) := hid fun h => hst (HTS.out h)
          clear hst HTS
          go_wp2_with fail
          refine (DECY.out _ (Ext.refl wy)).mono ?_
          intro e u1 hq
          clear DECY hcy hcl hst2 hst3 hst4
          rcases hq with ⟨d, tv, rfl, hx1, hsta, hbs, hv1, hb1, -⟩ | ⟨rfl, hx1, -⟩
          · have hr := hsta.now
            obtain ⟨da, dc, rfl, -⟩ := hr.shape
            go_upto_region 23 with fail
            obtain ⟨M, hM⟩ : ∃ M, M = u1.heap.size := ⟨_, rfl⟩
            obtain ⟨u2, hu2⟩ : ∃ u2, u2 = u1.alloc (.cells #[uv d.parent, .int .i64 d.height, uv d.miner, uv d.work, uv d.nonce, .slice da d.txs.length dc] 25) := ⟨_, rfl⟩
            rw [← hu2, ← hM]
            have hx2 : Ext u1 u2 := by rw [hu2]; exact (Ext.refl _).alloc _
            have hm2 : u2.heap[M]? = some (.cells #[uv d.parent, .int .i64 d.height, uv d.miner, uv d.work, uv d.nonce, .slice da d.txs.length dc] 25 (0, 0)) := by rw [hu2, hM]; exact heap_new _ _
            have X2 := hid (hx1.trans hx2)
            have HDM := hid hm2
            have HDR := hid (hr.ext hx2)
            have HBS := hid hbs
            have HV1 := hid hv1
            have HB1 := hid hb1
            have SNE : Hid (sameBlk b d = false) := hid (sameBlk_ne (by rw [hb1, ← HL.out]; exact HNE.out))
            clear hu2 hM hx1 hx2 hr hsta hm2 hbs hv1 hb1
            have ENC2 : Hid (∀ v, Ext u2 v → Calls Try.prog 14 #[blkVal d (.slice da d.txs.length dc)] v fun e w' => ∃ za zc, e = .returned (.tuple #[.slice za yl.length zc, .int .i64 0]) ∧ FrB v w' (.slice za yl.length zc) yl) := hid fun v k => by
              refine Calls.mono (blkEncode_any d _ v (HDR.out.ext k) HBS.out) ?_
              rintro e u' ⟨y, rfl, hf⟩
              rw [HV1.out, if_pos rfl, HB1.out] at hf
              obtain ⟨a, c, rfl⟩ := hf.sl
              rw [HV1.out]
              exact ⟨a, c, rfl, hf⟩
            obtain ⟨c0, c1, c2, c3, c4, c5⟩ := six_cellsB HDM.out
            go_wp2_with fail
            refine (ENC2.out _ (Ext.refl u2)).mono ?_
            rintro e u3 ⟨za, zc, rfl, hfr⟩
            have FR := hid hfr
            have X3 := hid (X2.out.trans hfr.2.1)
            have XW3 := hid (XWY.out.trans (X2.out.trans hfr.2.1))
            clear hfr ENC2 c0 c1 c2 c3 c4 c5
            have SAMEN : Hid (∀ v, Ext u3 v → Calls Try.prog 9 #[blkVal b (.slice ta b.txs.length tc), blkVal d (.slice da d.txs.length dc)] v fun e w' => e = .returned (.bool false) ∧ Ext v w') := hid fun v k => by
              have := sameBlk_any b d _ _ v (HB.out.ext (XW3.out.trans k)) (HDR.out.ext (FR.out.2.1.trans k)) HS.out HBS.out
              rwa [SNE.out] at this
            have IDB : Hid (∀ v, Ext u3 v → Calls Try.prog 8 #[blkVal b (.slice ta b.txs.length tc)] v fun e w' => e = .returned (uv (blkId b)) ∧ Ext v w') := hid fun v k => blkID_any b _ v (HB.out.ext (XW3.out.trans k)) HS.out
            have IDD : Hid (∀ v, Ext u3 v → Calls Try.prog 8 #[blkVal d (.slice da d.txs.length dc)] v fun e w' => e = .returned (uv (blkId d)) ∧ Ext v w') := hid fun v k => blkID_any d _ v (HDR.out.ext (FR.out.2.1.trans k)) HBS.out
            have TOP : Hid (∀ v, Ext u3 v → Calls Try.prog 3 #[blkVal b (.slice ta b.txs.length tc), blkVal d (.slice da d.txs.length dc)] v fun e w' => e = .returned (.bool true) ∧ Ext v w') := hid fun v k => topI_any awake_any b d _ _ v (HB.out.ext (XW3.out.trans k)) (HDR.out.ext (FR.out.2.1.trans k))
            generalize blkId b = ib at *
            generalize blkId d = id_ at *
            have HC26 : Hid (∀ v, Ext u3 v → ((v.cell? ⟨N, 0, none⟩ = some (uv b.parent) ∧ v.cell? ⟨N, 1, none⟩ = some (.int .i64 b.height) ∧ v.cell? ⟨N, 2, none⟩ = some (uv b.miner) ∧ v.cell? ⟨N, 3, none⟩ = some (uv b.work) ∧ v.cell? ⟨N, 4, none⟩ = some (uv b.nonce) ∧ v.cell? ⟨N, 5, none⟩ = some (.slice ta b.txs.length tc)) ∧ (v.cell? ⟨M, 0, none⟩ = some (uv d.parent) ∧ v.cell? ⟨M, 1, none⟩ = some (.int .i64 d.height) ∧ v.cell? ⟨M, 2, none⟩ = some (uv d.miner) ∧ v.cell? ⟨M, 3, none⟩ = some (uv d.work) ∧ v.cell? ⟨M, 4, none⟩ = some (uv d.nonce) ∧ v.cell? ⟨M, 5, none⟩ = some (.slice da d.txs.length dc)) ∧ (convert 33 9 yv).run Try.prog v = .ok (.string s) v ∧ (convert 33 9 (.slice za yl.length zc)).run Try.prog v = .ok (.string s) v)) := hid fun v k =>
              ⟨HCN.out v (X3.out.trans k), six_cellsB ((FR.out.2.1.trans k).heap_some HDM.out), by rw [HSE.out]; exact run_str v _ _ (ownsRow_ext HY.out (X3.out.trans k)), by rw [HSE.out]; exact run_str v _ _ (ownsRow_ext FR.out.1 k)⟩
            clear HSE HCN HY FR X3 X2 HDM
            go_wp2_with fail
            refine wp_region_T (fun v => ((v.cell? ⟨N, 0, none⟩ = some (uv b.parent) ∧ v.cell? ⟨N, 1, none⟩ = some (.int .i64 b.height) ∧ v.cell? ⟨N, 2, none⟩ = some (uv b.miner) ∧ v.cell? ⟨N, 3, none⟩ = some (uv b.work) ∧ v.cell? ⟨N, 4, none⟩ = some (uv b.nonce) ∧ v.cell? ⟨N, 5, none⟩ = some (.slice ta b.txs.length tc)) ∧ (v.cell? ⟨M, 0, none⟩ = some (uv d.parent) ∧ v.cell? ⟨M, 1, none⟩ = some (.int .i64 d.height) ∧ v.cell? ⟨M, 2, none⟩ = some (uv d.miner) ∧ v.cell? ⟨M, 3, none⟩ = some (uv d.work) ∧ v.cell? ⟨M, 4, none⟩ = some (uv d.nonce) ∧ v.cell? ⟨M, 5, none⟩ = some (.slice da d.txs.length dc)) ∧ (convert 33 9 yv).run Try.prog v = .ok (.string s) v ∧ (convert 33 9 (.slice za yl.length zc)).run Try.prog v = .ok (.string s) v) ∧ Ext u3 v) 24 [(0, true), (1, true), (2, true), (3, true), (4, true), (5, true), (6, true), (7, true), (8, true), (9, true), (10, true), (11, true), (12, false), (13, true), (14, true), (15, true), (16, true), (18, true), (17, false), (19, false), (20, true), (21, true), (22, true), (23, true), (24, false), (25, false), (26, false), (27, false)] (by kernel_rfl) (by kernel_rfl) (by intro c a d v w h; cases d <;> exact h) ?_
            intro ops hops
            have HSS := keep0 HC26.out
            iterate 12
              first
                | (refine wpT_take (v := ?_) (by rw [hops, List.getElem?_toArray]; rfl) (by first | rfl | (rw [hops]; rfl)) ?_ HSS ?_
                   rotate_left
                   · intro v h; go_simp; with_reducible rfl
                   simp only [Act.put, List.getElem_toArray, List.getElem_cons_zero, List.getElem_cons_succ, List.setIfInBounds_toArray, List.set_cons_zero, List.set_cons_succ])
                | (refine wpT_pass (by rw [hops, List.getElem?_toArray]; rfl) (by first | rfl | (rw [hops]; rfl)) HSS ?_
                   simp only [Act.put, List.getElem_toArray, List.getElem_cons_zero, List.getElem_cons_succ, List.setIfInBounds_toArray, List.set_cons_zero, List.set_cons_succ])
            refine wpT_step (by rw [hops, List.getElem?_toArray]; rfl) (by first | rfl | (rw [hops]; rfl)) ?_
            intro K hK
            go_wp2_with fail
            refine (SAMEN.out _ HSS.2).mono ?_
            rintro e x1 ⟨rfl, g1⟩
            have HS1 := keepE HC26.out HSS g1
            clear g1 HSS
            refine hK _ _ ⟨fun _ => HS1, ?_⟩
            clear hK K
            iterate 5
              first
                | (refine wpT_take (v := ?_) (by rw [hops, List.getElem?_toArray]; rfl) (by first | rfl | (rw [hops]; rfl)) ?_ HS1 ?_
                   rotate_left
                   · intro v h; go_simp; with_reducible rfl
                   simp only [Act.put, List.getElem_toArray, List.getElem_cons_zero, List.getElem_cons_succ, List.setIfInBounds_toArray, List.set_cons_zero, List.set_cons_succ])
                | (refine wpT_pass (by rw [hops, List.getElem?_toArray]; rfl) (by first | rfl | (rw [hops]; rfl)) HS1 ?_
                   simp only [Act.put, List.getElem_toArray, List.getElem_cons_zero, List.getElem_cons_succ, List.setIfInBounds_toArray, List.set_cons_zero, List.set_cons_succ])
            refine wpT_step (by rw [hops, List.getElem?_toArray]; rfl) (by first | rfl | (rw [hops]; rfl)) ?_
            intro K hK
            go_wp2_with fail
            refine (IDB.out _ HS1.2).mono ?_
            rintro e x2 ⟨rfl, g2⟩
            have HS2 := keepE HC26.out HS1 g2
            clear g2 HS1
            refine hK _ _ ⟨fun _ => HS2, ?_⟩
            clear hK K
            refine wpT_step (by rw [hops, List.getElem?_toArray]; rfl) (by first | rfl | (rw [hops]; rfl)) ?_
            intro K hK
            go_wp2_with fail
            refine (IDD.out _ HS2.2).mono ?_
            rintro e x3 ⟨rfl, g3⟩
            have HS3 := keepE HC26.out HS2 g3
            clear g3 HS2
            refine hK _ _ ⟨fun _ => HS3, ?_⟩
            clear hK K
            by_cases hxy : ib = id_
            · subst hxy
              iterate 4
                first
                  | (refine wpT_take (v := ?_) (by rw [hops, List.getElem?_toArray]; rfl) (by first | rfl | (rw [hops]; rfl)) ?_ HS3 ?_
                     rotate_left
                     · intro v h; go_simp; with_reducible rfl
                     simp only [Act.put, List.getElem_toArray, List.getElem_cons_zero, List.getElem_cons_succ, List.setIfInBounds_toArray, List.set_cons_zero, List.set_cons_succ])
                  | (refine wpT_pass (by rw [hops, List.getElem?_toArray]; rfl) (by first | rfl | (rw [hops]; rfl)) HS3 ?_
                     simp only [Act.put, List.getElem_toArray, List.getElem_cons_zero, List.getElem_cons_succ, List.setIfInBounds_toArray, List.set_cons_zero, List.set_cons_succ])
              refine wpT_step (by rw [hops, List.getElem?_toArray]; rfl) (by first | rfl | (rw [hops]; rfl)) ?_
              intro K hK
              go_wp2_with fail
              refine (TOP.out _ HS3.2).mono ?_
              rintro e x4 ⟨rfl, g4⟩
              have HX4 := hid (XW3.out.trans (HS3.2.trans g4))
              clear g4 HS3
              refine hK _ _ ⟨fun h => absurd h (by decide), ?_⟩
              clear hK K
              refine wpT_step (by rw [hops, List.getElem?_toArray]; rfl) (by first | rfl | (rw [hops]; rfl)) ?_
              intro K hK
              go_wp2_with fail
              try (with_reducible refine ⟨fun h => absurd h (by decide), ?_⟩)
              try rw [← hops]
              refine wpT_step (by rw [hops, List.getElem?_toArray]; rfl) (by first | rfl | (rw [hops]; rfl)) ?_
              intro K hK
              go_wp2_with fail
              try (with_reducible refine ⟨fun h => absurd h (by decide), ?_⟩)
              try rw [← hops]
              refine wpT_step (by rw [hops, List.getElem?_toArray]; rfl) (by first | rfl | (rw [hops]; rfl)) ?_
              intro K hK
              go_wp2_with fail
              try (with_reducible refine ⟨fun h => absurd h (by decide), ?_⟩)
              try rw [wpT_nil]
              try clear hops ops
              go_wp2_with fail
              go_ret
              exact ⟨rfl, HX4.out⟩
            · have hne2 : ((ib.toNat : Int) == (id_.toNat : Int)) = false := by rw [beq_eq_false_iff_ne]; exact fun h => hxy (UInt64.toNat_inj.1 (by omega))
              have hne4 : ((ib.toNat : Int) != (id_.toNat : Int)) = true := by rw [bne_iff_ne]; exact fun h => hxy (UInt64.toNat_inj.1 (by omega))
              iterate 4
                first
                  | (refine wpT_take (v := ?_) (by rw [hops, List.getElem?_toArray]; rfl) (by first | rfl | (rw [hops]; rfl)) ?_ HS3 ?_
                     rotate_left
                     · intro v h; go_simp; with_reducible rfl
                     simp only [Act.put, List.getElem_toArray, List.getElem_cons_zero, List.getElem_cons_succ, List.setIfInBounds_toArray, List.set_cons_zero, List.set_cons_succ])
                  | (refine wpT_pass (by rw [hops, List.getElem?_toArray]; rfl) (by first | rfl | (rw [hops]; rfl)) HS3 ?_
                     simp only [Act.put, List.getElem_toArray, List.getElem_cons_zero, List.getElem_cons_succ, List.setIfInBounds_toArray, List.set_cons_zero, List.set_cons_succ])
              have HX4 := hid (XW3.out.trans HS3.2)
              clear HS3
              refine wpT_none (by rw [hops, List.getElem?_toArray]; rfl) (by first | rfl | (rw [hops]; rfl)) ⟨fun h => absurd h (by decide), ?_⟩
              simp only [Act.put, List.getElem_toArray, List.getElem_cons_zero, List.getElem_cons_succ, List.setIfInBounds_toArray, List.set_cons_zero, List.set_cons_succ]
              refine wpT_step (by rw [hops, List.getElem?_toArray]; rfl) (by first | rfl | (rw [hops]; rfl)) ?_
              intro K hK
              go_wp2_with fail
              try (with_reducible refine ⟨fun h => absurd h (by decide), ?_⟩)
              try rw [← hops]
              refine wpT_step (by rw [hops, List.getElem?_toArray]; rfl) (by first | rfl | (rw [hops]; rfl)) ?_
              intro K hK
              go_wp2_with fail
              try (with_reducible refine ⟨fun h => absurd h (by decide), ?_⟩)
              try rw [← hops]
              refine wpT_step (by rw [hops, List.getElem?_toArray]; rfl) (by first | rfl | (rw [hops]; rfl)) ?_
              intro K hK
              go_wp2_with fail
              try (with_reducible refine ⟨fun h => absurd h (by decide), ?_⟩)
              try rw [wpT_nil]
              try clear hops ops
              go_wp2_with fail
              go_ret
              exact ⟨rfl, HX4.out⟩
          · have X1 := hid (XWY.out.trans hx1)
            clear hx1
            go_wp2_with fail
            go_ret
            exact ⟨rfl, X1.out.alloc _⟩
end Go.Proofs.Ytkdnnekdldomeaa
