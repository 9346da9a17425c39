/- Validity of blocks: block.Valid, moidoreref47.Valid. (Written by wip/tools/gen_blkv.py.) -/
import Derived.Test.YtkdnnekdldomeaaHdr
set_option linter.unusedSimpArgs false
namespace Go.Proofs.Ytkdnnekdldomeaa
open Go.RowKit
attribute [local irreducible] perm fAdd fMul fPow fSub fNeg fRed hashU
theorem lt_one (z : Int) : decide (z < 1) = !decide (1 ≤ z) := by
  by_cases h : 1 ≤ z
  · rw [show decide (1 ≤ z) = true by simpa using h]; simp; omega
  · rw [show decide (1 ≤ z) = false by simpa using h]; simp; omega
theorem gt_dec (z m : Int) : decide (m < z) = !decide (z ≤ m) := by
  by_cases h : z ≤ m
  · rw [show decide (z ≤ m) = true by simpa using h]; simp; omega
  · rw [show decide (z ≤ m) = false by simpa using h]; simp; omega
def hdrB7 (a1 a2 a3 a4 a5 a6 a7 : Bool) : Bool := a1 && a2 && a3 && a4 && a5 && a6 && a7
theorem hdrOk_B (b : BlkT) : hdrOk b = hdrB7 (decide (1 ≤ b.height)) (decide (b.height ≤ 1048576)) (decide (1 ≤ b.work.toNat)) (decide (b.work.toNat ≤ 65536)) (decide (b.parent < big)) (decide (b.miner < big)) (decide (b.txs.length ≤ 64)) := rfl
theorem weightB_snoc {l : List TxT} {i : Nat} {t : TxT} (h : l[i]? = some t) : weightB (l.take (i + 1)) = weightB (l.take i) + (txB t).length := by
  unfold weightB
  rw [List.take_add_one, h]; simp
theorem weightB_le {l : List TxT} (h : ∀ t ∈ l, TSm t ∧ t.proof.length ≤ 10000) : weightB l ≤ 100000000 * l.length := by
  induction l with
  | nil => simp [weightB]
  | cons t r ih =>
    have h1 := ih (fun t ht => h t (by simp [ht]))
    have h2 := h t (by simp)
    have h3 : (txB t).length ≤ 100000000 := by
      unfold txB txTail bytesB
      have h4 := outsB_le h2.1.c
      have h5 := h2.1.m
      have h6 := h2.1.o
      simp only [List.length_append, leB_length, lenB_length, listB_length]
      omega
    unfold weightB at h1 ⊢
    simp only [List.map_cons, List.sum_cons, List.length_cons]
    omega
set_option maxRecDepth 100000 in
set_option maxHeartbeats 6400000 in
theorem blkValid_any (b : BlkT) (tv : Value) (w : World) (h : RdTs w tv b.txs) (hs : BSm b) :
    Calls Try.prog 22 #[blkVal b tv] w fun e w' => e = .returned (.int .i64 (blkV b)) ∧ Ext w w' := by
  obtain ⟨ta, tc, rfl, -⟩ := h.shape
  have HH := hid h
  have HS := hid hs
  obtain ⟨R, hR⟩ : ∃ R, R = blkV b := ⟨_, rfl⟩
  rw [← hR]
  have HR := hid hR
  unfold blkV at HR
  rw [hdrOk_B] at HR
  have hn1 : (b.txs.length : Int) ≤ 100 := by have := hs.n; omega
  obtain ⟨N, hN⟩ : ∃ N, N = w.heap.size := ⟨_, rfl⟩
  obtain ⟨w0, hw0⟩ : ∃ w0, w0 = w.alloc (.cells #[uv b.parent, .int .i64 b.height, uv b.miner, uv b.work, uv b.nonce, .slice ta b.txs.length tc] 25) := ⟨_, rfl⟩
  have hx0 : Ext w w0 := by rw [hw0]; exact (Ext.refl w).alloc _
  have hb0 : w0.heap[N]? = some (.cells #[uv b.parent, .int .i64 b.height, uv b.miner, uv b.work, uv b.nonce, .slice ta b.txs.length tc] 25 (0, 0)) := by rw [hw0, hN]; exact heap_new _ _
  have HB := hid hb0
  have HW := hid hw0
  have HX0 := hid hx0
  clear hw0 hx0 hb0 h hs hR
  have a1 := lt_one b.height
  have a2 := gt_dec b.height 1048576
  have a3 : decide (b.work.toNat < 1) = !decide (1 ≤ b.work.toNat) := by
    by_cases h : 1 ≤ b.work.toNat
    · rw [show decide (1 ≤ b.work.toNat) = true by simpa using h]; simp; omega
    · rw [show decide (1 ≤ b.work.toNat) = false by simpa using h]; simp; omega
  have a3' : decide (b.work.toNat = 0) = !decide (1 ≤ b.work.toNat) := by
    by_cases h : 1 ≤ b.work.toNat
    · rw [show decide (1 ≤ b.work.toNat) = true by simpa using h]; simp; omega
    · rw [show decide (1 ≤ b.work.toNat) = false by simpa using h]; simp; omega
  have a3'' : decide ((b.work.toNat : Int) < 1) = !decide (1 ≤ b.work.toNat) := by
    by_cases h : 1 ≤ b.work.toNat
    · rw [show decide (1 ≤ b.work.toNat) = true by simpa using h]; simp; omega
    · rw [show decide (1 ≤ b.work.toNat) = false by simpa using h]; simp; omega
  have a4 : decide ((65536 : Int) < (b.work.toNat : Int)) = !decide (b.work.toNat ≤ 65536) := by
    by_cases h : b.work.toNat ≤ 65536
    · rw [show decide (b.work.toNat ≤ 65536) = true by simpa using h]; simp; omega
    · rw [show decide (b.work.toNat ≤ 65536) = false by simpa using h]; simp; omega
  have a5 := ge_big b.parent
  have a6 := ge_big b.miner
  have a7 : decide ((64 : Int) < (b.txs.length : Int)) = !decide (b.txs.length ≤ 64) := by
    by_cases h : b.txs.length ≤ 64
    · rw [show decide (b.txs.length ≤ 64) = true by simpa using h]; simp; omega
    · rw [show decide (b.txs.length ≤ 64) = false by simpa using h]; simp; omega
  obtain ⟨g3, hg3⟩ : ∃ g3, decide (1 ≤ b.work.toNat) = g3 := ⟨_, rfl⟩
  rw [hg3] at a3 a3' a3'' HR
  generalize decide (1 ≤ b.height) = g1 at *
  generalize decide (b.height ≤ 1048576) = g2 at *
  generalize decide (b.work.toNat ≤ 65536) = g4 at *
  generalize decide (b.parent < big) = g5 at *
  generalize decide (b.miner < big) = g6 at *
  generalize decide (b.txs.length ≤ 64) = g7 at *
  obtain ⟨c0, c1, c2, c3, c4, c5⟩ := six_cellsB HB.out
  go_enter Try.func22, Try.ntmps22
  go_upto_region 1 with fail
  rw [← HW.out, ← hN]
  clear hN
  cases g1 with
  | false =>
    have hr : R = 1 := HR.out
    subst hr
    go_wp2_with fail
    go_ret
    exact ⟨rfl, HX0.out⟩
  | true =>
  cases g2 with
  | false =>
    have hr : R = 1 := HR.out
    subst hr
    go_wp2_with fail
    go_ret
    exact ⟨rfl, HX0.out⟩
  | true =>
  cases g3 with
  | false =>
    have hr : R = 1 := HR.out
    subst hr
    go_wp2_with fail
    go_ret
    exact ⟨rfl, HX0.out⟩
  | true =>
  cases g4 with
  | false =>
    have hr : R = 1 := HR.out
    subst hr
    go_wp2_with fail
    go_ret
    exact ⟨rfl, HX0.out⟩
  | true =>
  cases g5 with
  | false =>
    have hr : R = 1 := HR.out
    subst hr
    go_wp2_with fail
    go_ret
    exact ⟨rfl, HX0.out⟩
  | true =>
  cases g6 with
  | false =>
    have hr : R = 1 := HR.out
    subst hr
    go_wp2_with fail
    go_ret
    exact ⟨rfl, HX0.out⟩
  | true =>
  cases g7 with
  | false =>
    have hr : R = 1 := HR.out
    subst hr
    go_wp2_with fail
    go_ret
    exact ⟨rfl, HX0.out⟩
  | true =>
  have HR2 : Hid (R = if b.txs.all (fun t => decide (txV t = 0)) then (if weightB b.txs ≤ 2097152 then 0 else 3) else 1) := hid (by rw [HR.out]; rfl)
  have HWL : Hid (∀ i, weightB (b.txs.take i) ≤ 100000000 * 100) := hid fun i => by
    have h1 := weightB_le (l := b.txs.take i) (fun t ht => HS.out.t t (List.mem_of_mem_take ht))
    have h2 : (b.txs.take i).length ≤ 100 := by rw [List.length_take]; have := HS.out.n; omega
    omega
  clear HR
  go_wp2_with fail
  clear c0 c1 c2 c3 c4 c5
  go_loopw [3, 38] (fun nv iv wr => ∃ (i n : Nat), i ≤ b.txs.length ∧ iv = .int .i64 i ∧ nv = .int .i64 n ∧ Hid ((b.txs.take i).all (fun t => decide (txV t = 0)) = true ∧ n = weightB (b.txs.take i)) ∧ Hid (Ext w0 wr)) (fun _ iv _ => b.txs.length - (intOf iv).toNat)
  case atStart => exact ⟨0, 0, by omega, rfl, rfl, hid ⟨rfl, rfl⟩, hid (Ext.refl _)⟩
  case round =>
    obtain ⟨i, n, hi, rfl, rfl, HI, HXR⟩ := hrel
    skip
    by_cases hlt : i < b.txs.length
    · have hltB : decide ((i : Int) < (b.txs.length : Int)) = true := by simp; omega
      have hi0 : (0 : Int) ≤ (i : Int) := Int.natCast_nonneg _
      have hil : (i : Int) < (b.txs.length : Int) := by omega
      obtain ⟨t, hti⟩ : ∃ t, b.txs[i]? = some t := ⟨_, List.getElem?_eq_getElem hlt⟩
      obtain ⟨q, o, ma, mc, oa, oc, pa, pc, rfl, hrt, e0, e1, e2, e3, e4, e5, e6, e7, e8, e9⟩ := HH.out.at hti
      have HTS := hid (HS.out.t t (List.mem_of_getElem? hti))
      have HRT := hid hrt
      have HTI := hid hti
      have HWS := hid (weightB_snoc hti)
      have hnb : (n : Int) ≤ 10000000000 := by have := HWL.out i; rw [← HI.out.2] at this; omega
      have hn0 : (0 : Int) ≤ (n : Int) := Int.natCast_nonneg _
      have htl : (txB t).length ≤ 10000000000 := by have := HWL.out (i + 1); rw [HWS.out] at this; omega
      have htl' : ((txB t).length : Int) ≤ 10000000000 := by omega
      replace e0 := (HX0.out.trans HXR.out).cell_some e0
      replace e1 := (HX0.out.trans HXR.out).cell_some e1
      replace e2 := (HX0.out.trans HXR.out).cell_some e2
      replace e3 := (HX0.out.trans HXR.out).cell_some e3
      replace e4 := (HX0.out.trans HXR.out).cell_some e4
      replace e5 := (HX0.out.trans HXR.out).cell_some e5
      replace e6 := (HX0.out.trans HXR.out).cell_some e6
      replace e7 := (HX0.out.trans HXR.out).cell_some e7
      replace e8 := (HX0.out.trans HXR.out).cell_some e8
      replace e9 := (HX0.out.trans HXR.out).cell_some e9
      clear hti hrt htl
      go_upto_region 10 with fail
      clear e0 e1 e2 e3 e4 e5 e6 e7 e8 e9
      obtain ⟨P, hP⟩ : ∃ P, P = wr.heap.size := ⟨_, rfl⟩
      obtain ⟨x1, hx1⟩ : ∃ x1, x1 = wr.alloc (.cells #[uv t.anchor, .slice ma t.marks.length mc, .slice oa t.outs.length oc, uv t.deposit, uv t.withdraw, uv t.fee, uv t.account, uv t.nonce, .int .i64 t.expiry, .slice pa t.proof.length pc] 39) := ⟨_, rfl⟩
      have hy1 : Ext wr x1 := by rw [hx1]; exact (Ext.refl wr).alloc _
      have hb1 : x1.heap[P]? = some (.cells #[uv t.anchor, .slice ma t.marks.length mc, .slice oa t.outs.length oc, uv t.deposit, uv t.withdraw, uv t.fee, uv t.account, uv t.nonce, .int .i64 t.expiry, .slice pa t.proof.length pc] 39 (0, 0)) := by rw [hx1, hP]; exact heap_new _ _
      rw [← hx1, ← hP]
      obtain ⟨t0, t1, t2, t3, t4, t5, t6, t7, t8, t9⟩ := ten_cells hb1
      have HY1 := hid hy1
      have HB1 := hid hb1
      have HVV := hid (txValid_any t _ _ _ x1 (HRT.out.ext ((HX0.out.trans HXR.out).trans hy1)) HTS.out.1)
      clear hx1 hy1 hb1 hP
      go_wp2_with fail
      refine (HVV.out).mono ?_
      rintro e x2 ⟨rfl, hx⟩
      have HY2 := hid (HY1.out.trans hx)
      have HB2 := hid (hx.heap_some HB1.out)
      clear hx t0 t1 t2 t3 t4 t5 t6 t7 t8 t9 HVV
      by_cases hv : txV t = 0
      · have hvB : (txV t != 0) = false := by simpa using hv
        have HALL : Hid ((b.txs.take (i + 1)).all (fun t => decide (txV t = 0)) = true) := hid (all_snoc HTI.out HI.out.1 (by simpa using hv))
        have hww := txWeight_any t _ _ _ x2 (HRT.out.ext ((HX0.out.trans HXR.out).trans HY2.out)) HTS.out.1
        rw [if_pos hv] at hww
        have HWW := hid hww
        obtain ⟨t0, t1, t2, t3, t4, t5, t6, t7, t8, t9⟩ := ten_cells HB2.out
        clear hv hww
        go_wp2_with fail
        refine (HWW.out).mono ?_
        rintro e x3 ⟨rfl, hx⟩
        have HX3 := hid (HXR.out.trans (HY2.out.trans hx))
        have hsum : (0 : Int) ≤ ((txB t).length : Int) := Int.natCast_nonneg _
        clear hx t0 t1 t2 t3 t4 t5 t6 t7 t8 t9 HWW
        go_wp2_with fail
        go_roundw
        case rel => exact ⟨i + 1, n + (txB t).length, by omega, by go_num, by go_num, hid ⟨HALL.out, by rw [HWS.out, HI.out.2]⟩, HX3⟩
        case measure => simp [intOf]; omega
      · have hvB : (txV t != 0) = true := by simpa using hv
        have hr : R = 1 := by rw [HR2.out, all_bad HTI.out (by simpa using hv)]; rfl
        subst hr
        clear hv
        go_wp2_with fail
        go_ret
        exact ⟨rfl, (HX0.out.trans HXR.out).trans HY2.out⟩
    · have hie : i = b.txs.length := by omega
      subst hie
      have hltB : decide ((b.txs.length : Int) < (b.txs.length : Int)) = false := by simp
      have HR3 : Hid (R = if n ≤ 2097152 then 0 else 3) := hid (by
        have h1 := HI.out
        rw [List.take_length] at h1
        rw [HR2.out, h1.1, h1.2]; rfl)
      by_cases hw : n ≤ 2097152
      · have hwB : decide ((2097152 : Int) < (n : Int)) = false := by simp; omega
        have hr : R = 0 := by rw [HR3.out, if_pos hw]
        subst hr
        clear hw
        go_wp2_with fail
        go_ret
        exact ⟨rfl, HX0.out.trans HXR.out⟩
      · have hwB : decide ((2097152 : Int) < (n : Int)) = true := by simp; omega
        have hr : R = 3 := by rw [HR3.out, if_neg hw]
        subst hr
        clear hw
        go_wp2_with fail
        go_ret
        exact ⟨rfl, HX0.out.trans HXR.out⟩
set_option maxRecDepth 100000 in
set_option maxHeartbeats 6400000 in
theorem rBlkValid_any (b : BlkT) (tv : Value) (w : World) (h : RdTs w tv b.txs) (hs : BSm b) :
    Calls Try.prog 7 #[blkVal b tv] w fun e w' => e = .returned (.int .i64 (blkV b)) ∧ Ext w w' := by
  obtain ⟨ta, tc, rfl, -⟩ := h.shape
  have HH := hid h
  have HS := hid hs
  obtain ⟨R, hR⟩ : ∃ R, R = blkV b := ⟨_, rfl⟩
  rw [← hR]
  have HR := hid hR
  unfold blkV at HR
  rw [hdrOk_B] at HR
  have hn1 : (b.txs.length : Int) ≤ 100 := by have := hs.n; omega
  obtain ⟨N, hN⟩ : ∃ N, N = w.heap.size := ⟨_, rfl⟩
  obtain ⟨w0, hw0⟩ : ∃ w0, w0 = w.alloc (.cells #[uv b.parent, .int .i64 b.height, uv b.miner, uv b.work, uv b.nonce, .slice ta b.txs.length tc] 25) := ⟨_, rfl⟩
  have hx0 : Ext w w0 := by rw [hw0]; exact (Ext.refl w).alloc _
  have hb0 : w0.heap[N]? = some (.cells #[uv b.parent, .int .i64 b.height, uv b.miner, uv b.work, uv b.nonce, .slice ta b.txs.length tc] 25 (0, 0)) := by rw [hw0, hN]; exact heap_new _ _
  have HB := hid hb0
  have HW := hid hw0
  have HX0 := hid hx0
  clear hw0 hx0 hb0 h hs hR
  have a1 := lt_one b.height
  have a2 := gt_dec b.height 1048576
  have a3 : decide (b.work.toNat < 1) = !decide (1 ≤ b.work.toNat) := by
    by_cases h : 1 ≤ b.work.toNat
    · rw [show decide (1 ≤ b.work.toNat) = true by simpa using h]; simp; omega
    · rw [show decide (1 ≤ b.work.toNat) = false by simpa using h]; simp; omega
  have a3' : decide (b.work.toNat = 0) = !decide (1 ≤ b.work.toNat) := by
    by_cases h : 1 ≤ b.work.toNat
    · rw [show decide (1 ≤ b.work.toNat) = true by simpa using h]; simp; omega
    · rw [show decide (1 ≤ b.work.toNat) = false by simpa using h]; simp; omega
  have a3'' : decide ((b.work.toNat : Int) < 1) = !decide (1 ≤ b.work.toNat) := by
    by_cases h : 1 ≤ b.work.toNat
    · rw [show decide (1 ≤ b.work.toNat) = true by simpa using h]; simp; omega
    · rw [show decide (1 ≤ b.work.toNat) = false by simpa using h]; simp; omega
  have a4 : decide ((65536 : Int) < (b.work.toNat : Int)) = !decide (b.work.toNat ≤ 65536) := by
    by_cases h : b.work.toNat ≤ 65536
    · rw [show decide (b.work.toNat ≤ 65536) = true by simpa using h]; simp; omega
    · rw [show decide (b.work.toNat ≤ 65536) = false by simpa using h]; simp; omega
  have a5 := ge_big b.parent
  have a6 := ge_big b.miner
  have a7 : decide ((64 : Int) < (b.txs.length : Int)) = !decide (b.txs.length ≤ 64) := by
    by_cases h : b.txs.length ≤ 64
    · rw [show decide (b.txs.length ≤ 64) = true by simpa using h]; simp; omega
    · rw [show decide (b.txs.length ≤ 64) = false by simpa using h]; simp; omega
  obtain ⟨g3, hg3⟩ : ∃ g3, decide (1 ≤ b.work.toNat) = g3 := ⟨_, rfl⟩
  rw [hg3] at a3 a3' a3'' HR
  generalize decide (1 ≤ b.height) = g1 at *
  generalize decide (b.height ≤ 1048576) = g2 at *
  generalize decide (b.work.toNat ≤ 65536) = g4 at *
  generalize decide (b.parent < big) = g5 at *
  generalize decide (b.miner < big) = g6 at *
  generalize decide (b.txs.length ≤ 64) = g7 at *
  obtain ⟨c0, c1, c2, c3, c4, c5⟩ := six_cellsB HB.out
  go_enter Try.func7, Try.ntmps7
  go_upto_region 1 with fail
  rw [← HW.out, ← hN]
  clear hN
  cases g1 with
  | false =>
    have hr : R = 1 := HR.out
    subst hr
    go_wp2_with fail
    go_ret
    exact ⟨rfl, HX0.out⟩
  | true =>
  cases g2 with
  | false =>
    have hr : R = 1 := HR.out
    subst hr
    go_wp2_with fail
    go_ret
    exact ⟨rfl, HX0.out⟩
  | true =>
  cases g3 with
  | false =>
    have hr : R = 1 := HR.out
    subst hr
    go_wp2_with fail
    go_ret
    exact ⟨rfl, HX0.out⟩
  | true =>
  cases g4 with
  | false =>
    have hr : R = 1 := HR.out
    subst hr
    go_wp2_with fail
    go_ret
    exact ⟨rfl, HX0.out⟩
  | true =>
  cases g5 with
  | false =>
    have hr : R = 1 := HR.out
    subst hr
    go_wp2_with fail
    go_ret
    exact ⟨rfl, HX0.out⟩
  | true =>
  cases g6 with
  | false =>
    have hr : R = 1 := HR.out
    subst hr
    go_wp2_with fail
    go_ret
    exact ⟨rfl, HX0.out⟩
  | true =>
  cases g7 with
  | false =>
    have hr : R = 1 := HR.out
    subst hr
    go_wp2_with fail
    go_ret
    exact ⟨rfl, HX0.out⟩
  | true =>
  have HR2 : Hid (R = if b.txs.all (fun t => decide (txV t = 0)) then (if weightB b.txs ≤ 2097152 then 0 else 3) else 1) := hid (by rw [HR.out]; rfl)
  have HWL : Hid (∀ i, weightB (b.txs.take i) ≤ 100000000 * 100) := hid fun i => by
    have h1 := weightB_le (l := b.txs.take i) (fun t ht => HS.out.t t (List.mem_of_mem_take ht))
    have h2 : (b.txs.take i).length ≤ 100 := by rw [List.length_take]; have := HS.out.n; omega
    omega
  clear HR
  go_wp2_with fail
  clear c0 c1 c2 c3 c4 c5
  go_loopw [3, 4] (fun nv iv wr => ∃ (i n : Nat), i ≤ b.txs.length ∧ iv = .int .i64 i ∧ nv = .int .i64 n ∧ Hid ((b.txs.take i).all (fun t => decide (txV t = 0)) = true ∧ n = weightB (b.txs.take i)) ∧ Hid (Ext w0 wr)) (fun _ iv _ => b.txs.length - (intOf iv).toNat)
  case atStart => exact ⟨0, 0, by omega, rfl, rfl, hid ⟨rfl, rfl⟩, hid (Ext.refl _)⟩
  case round =>
    obtain ⟨i, n, hi, rfl, rfl, HI, HXR⟩ := hrel
    obtain ⟨c0, c1, c2, c3, c4, c5⟩ := six_cellsB (HXR.out.heap_some HB.out)
    by_cases hlt : i < b.txs.length
    · have hltB : decide ((i : Int) < (b.txs.length : Int)) = true := by simp; omega
      have hi0 : (0 : Int) ≤ (i : Int) := Int.natCast_nonneg _
      have hil : (i : Int) < (b.txs.length : Int) := by omega
      obtain ⟨t, hti⟩ : ∃ t, b.txs[i]? = some t := ⟨_, List.getElem?_eq_getElem hlt⟩
      obtain ⟨q, o, ma, mc, oa, oc, pa, pc, rfl, hrt, e0, e1, e2, e3, e4, e5, e6, e7, e8, e9⟩ := HH.out.at hti
      have HTS := hid (HS.out.t t (List.mem_of_getElem? hti))
      have HRT := hid hrt
      have HTI := hid hti
      have HWS := hid (weightB_snoc hti)
      have hnb : (n : Int) ≤ 10000000000 := by have := HWL.out i; rw [← HI.out.2] at this; omega
      have hn0 : (0 : Int) ≤ (n : Int) := Int.natCast_nonneg _
      have htl : (txB t).length ≤ 10000000000 := by have := HWL.out (i + 1); rw [HWS.out] at this; omega
      have htl' : ((txB t).length : Int) ≤ 10000000000 := by omega
      clear hti hrt htl
      have HE10 : Hid (∀ v, Ext wr v → (v.cell? ⟨q, o + i * 10, none⟩ = some (uv t.anchor) ∧ v.cell? ⟨q, o + i * 10 + 1, none⟩ = some (.slice ma t.marks.length mc) ∧ v.cell? ⟨q, o + i * 10 + 2, none⟩ = some (.slice oa t.outs.length oc) ∧ v.cell? ⟨q, o + i * 10 + 3, none⟩ = some (uv t.deposit) ∧ v.cell? ⟨q, o + i * 10 + 4, none⟩ = some (uv t.withdraw) ∧ v.cell? ⟨q, o + i * 10 + 5, none⟩ = some (uv t.fee) ∧ v.cell? ⟨q, o + i * 10 + 6, none⟩ = some (uv t.account) ∧ v.cell? ⟨q, o + i * 10 + 7, none⟩ = some (uv t.nonce) ∧ v.cell? ⟨q, o + i * 10 + 8, none⟩ = some (.int .i64 t.expiry) ∧ v.cell? ⟨q, o + i * 10 + 9, none⟩ = some (.slice pa t.proof.length pc)) ∧ v.cell? ⟨N, 5, none⟩ = some (.slice (some ⟨q, o, none⟩) b.txs.length tc)) := hid fun v k => by
        have kk := (HX0.out.trans HXR.out).trans k
        exact ⟨⟨kk.cell_some e0, kk.cell_some e1, kk.cell_some e2, kk.cell_some e3, kk.cell_some e4, kk.cell_some e5, kk.cell_some e6, kk.cell_some e7, kk.cell_some e8, kk.cell_some e9⟩, k.cell_some c5⟩
      clear e0 e1 e2 e3 e4 e5 e6 e7 e8 e9 c0 c1 c2 c3 c4 c5
      obtain ⟨⟨e0, e1, e2, e3, e4, e5, e6, e7, e8, e9⟩, c5⟩ := HE10.out wr (Ext.refl _)
      have HVV := hid (rTxValid_any t _ _ _ wr (HRT.out.ext (HX0.out.trans HXR.out)) HTS.out.1)
      go_wp2_with fail
      refine (HVV.out).mono ?_
      rintro e x2 ⟨rfl, hx⟩
      have HY2 := hid hx
      clear hx e0 e1 e2 e3 e4 e5 e6 e7 e8 e9 c5 HVV
      by_cases hv : txV t = 0
      · have hvB : (txV t != 0) = false := by simpa using hv
        have HALL : Hid ((b.txs.take (i + 1)).all (fun t => decide (txV t = 0)) = true) := hid (all_snoc HTI.out HI.out.1 (by simpa using hv))
        have HWW := hid (rTxB_any t _ _ _ x2 (HRT.out.ext ((HX0.out.trans HXR.out).trans HY2.out)) HTS.out.1)
        obtain ⟨⟨e0, e1, e2, e3, e4, e5, e6, e7, e8, e9⟩, c5⟩ := HE10.out x2 HY2.out
        clear hv
        go_wp2_with fail
        refine (HWW.out).mono ?_
        rintro e x3 ⟨v3, rfl, h1, h2, -⟩
        have HX3 := hid (HXR.out.trans (HY2.out.trans h2))
        obtain ⟨sa, sc, rfl, -⟩ := ownsRow_rd h1
        have hsum : (0 : Int) ≤ ((txB t).length : Int) := Int.natCast_nonneg _
        clear h1 h2 e0 e1 e2 e3 e4 e5 e6 e7 e8 e9 c5 HWW
        go_wp2_with fail
        go_roundw
        case rel => exact ⟨i + 1, n + (txB t).length, by omega, by go_num, by go_num, hid ⟨HALL.out, by rw [HWS.out, HI.out.2]⟩, HX3⟩
        case measure => simp [intOf]; omega
      · have hvB : (txV t != 0) = true := by simpa using hv
        have hr : R = 1 := by rw [HR2.out, all_bad HTI.out (by simpa using hv)]; rfl
        subst hr
        clear hv
        go_wp2_with fail
        go_ret
        exact ⟨rfl, (HX0.out.trans HXR.out).trans HY2.out⟩
    · have hie : i = b.txs.length := by omega
      subst hie
      have hltB : decide ((b.txs.length : Int) < (b.txs.length : Int)) = false := by simp
      have HR3 : Hid (R = if n ≤ 2097152 then 0 else 3) := hid (by
        have h1 := HI.out
        rw [List.take_length] at h1
        rw [HR2.out, h1.1, h1.2]; rfl)
      by_cases hw : n ≤ 2097152
      · have hwB : decide ((2097152 : Int) < (n : Int)) = false := by simp; omega
        have hr : R = 0 := by rw [HR3.out, if_pos hw]
        subst hr
        clear hw
        go_wp2_with fail
        go_ret
        exact ⟨rfl, HX0.out.trans HXR.out⟩
      · have hwB : decide ((2097152 : Int) < (n : Int)) = true := by simp; omega
        have hr : R = 3 := by rw [HR3.out, if_neg hw]
        subst hr
        clear hw
        go_wp2_with fail
        go_ret
        exact ⟨rfl, HX0.out.trans HXR.out⟩
end Go.Proofs.Ytkdnnekdldomeaa
