/- Blocks by the reference: moidoreref47.Named, Same, Small; the law's codecClash. (Written by wip/tools/gen_blkr.py.) -/
import Derived.Test.YtkdnnekdldomeaaBlkI
set_option linter.unusedSimpArgs false
namespace Go.Proofs.Ytkdnnekdldomeaa
open Go.RowKit
attribute [local irreducible] perm fAdd fMul fPow fSub fNeg fRed hashU
theorem idsB_snoc {l : List TxT} {i : Nat} {t : TxT} (h : l[i]? = some t) : ((l.take (i + 1)).flatMap fun t => leB 8 (txId t)) = ((l.take i).flatMap fun t => leB 8 (txId t)) ++ leB 8 (txId t) := by
  rw [List.take_add_one, h]; simp
theorem idsB_len (l : List TxT) : (l.flatMap fun t => leB 8 (txId t)).length = 8 * l.length := by
  rw [← cat_map, cat_length, List.length_map]
set_option maxRecDepth 100000 in
set_option maxHeartbeats 6400000 in
theorem rNamed_any (b : BlkT) (tv : Value) (w : World) (h : RdTs w tv b.txs) (hs : BSm b) :
    Calls Try.prog 11 #[blkVal b tv] w (NewB w (named b)) := by
  obtain ⟨i0, hi, hz0, hz1, hz2⟩ := info_parts Try.infoB
  have HI0 := hid (And.intro hi (And.intro hz0 (And.intro hz1 hz2)))
  have HH := hid h
  have HS := hid hs
  obtain ⟨ta, tc, rfl, -⟩ := h.shape
  have hn1 : (b.txs.length : Int) ≤ 100 := by have := hs.n; omega
  clear h hs hi hz0 hz1 hz2
  obtain ⟨N, hN⟩ : ∃ N, N = w.heap.size := ⟨_, rfl⟩
  obtain ⟨w0, hw0⟩ : ∃ w0, w0 = w.alloc (.cells #[uv b.parent, .int .i64 b.height, uv b.miner, uv b.work, uv b.nonce, .slice ta b.txs.length tc] 25) := ⟨_, rfl⟩
  have hx0 : Ext w w0 := by rw [hw0]; exact (Ext.refl w).alloc _
  have hb0 : w0.heap[N]? = some (.cells #[uv b.parent, .int .i64 b.height, uv b.miner, uv b.work, uv b.nonce, .slice ta b.txs.length tc] 25 (0, 0)) := by rw [hw0, hN]; exact heap_new _ _
  have HB := hid hb0
  have HW := hid hw0
  have HX0 := hid hx0
  clear hw0 hx0 hb0
  obtain ⟨c0, c1, c2, c3, c4, c5⟩ := six_cellsB HB.out
  go_enter Try.func11, Try.ntmps11
  go_upto_region 1 with fail
  rw [← HW.out, ← hN]
  clear hN
  go_wp2_with fail
  refine (rHdr_any b ta tc _).mono ?_
  rintro e w2 ⟨v2, rfl, g1, g2, g3⟩
  have F2 : Hid (FrB w0 w2 v2 (hdrB b)) := hid ⟨g1, g2, g3⟩
  obtain ⟨sa2, sc2, rfl⟩ := F2.out.sl
  clear g1 g2 g3 c0 c1 c2 c3 c4 c5
  go_wp2_with fail
  go_loopw [3, 4] (fun bv iv wr => ∃ i : Nat, i ≤ b.txs.length ∧ iv = .int .i64 i ∧ Hid (FrB w0 wr bv (hdrB b ++ (b.txs.take i).flatMap fun t => leB 8 (txId t)))) (fun _ iv _ => b.txs.length - (intOf iv).toNat)
  case atStart => exact ⟨0, by omega, rfl, hid (by simpa using F2.out)⟩
  case round =>
    clear F2
    obtain ⟨i, hi, rfl, HI⟩ := hrel
    obtain ⟨c0, c1, c2, c3, c4, c5⟩ := six_cellsB (HI.out.2.1.heap_some HB.out)
    by_cases hlt : i < b.txs.length
    · have hltB : decide ((i : Int) < (b.txs.length : Int)) = true := by simp; omega
      have hi0 : (0 : Int) ≤ (i : Int) := Int.natCast_nonneg _
      have hil : (i : Int) < (b.txs.length : Int) := by omega
      obtain ⟨t, hti⟩ : ∃ t, b.txs[i]? = some t := ⟨_, List.getElem?_eq_getElem hlt⟩
      obtain ⟨q, o, ma, mc, oa, oc, pa, pc, rfl, hrt, e0, e1, e2, e3, e4, e5, e6, e7, e8, e9⟩ := (HH.out.ext (HX0.out.trans HI.out.2.1)).at hti
      have HTS := hid (HS.out.t t (List.mem_of_getElem? hti))
      obtain ⟨D, hD⟩ : ∃ D, D = hdrB b ++ (b.txs.take i).flatMap fun t => leB 8 (txId t) := ⟨_, rfl⟩
      have HD : Hid (hdrB b ++ ((b.txs.take (i + 1)).flatMap fun t => leB 8 (txId t)) = D ++ leB 8 (txId t)) := hid (by rw [idsB_snoc hti, ← List.append_assoc, hD])
      have BD : Hid (D.length ≤ 100000) := hid (by
        rw [hD, List.length_append, hdrB_length, idsB_len, List.length_take]
        have := HS.out.n
        omega)
      have HID := hid (rTxID_any t _ _ _ wr hrt HTS.out.1 HTS.out.2)
      rw [← hD] at HI
      obtain ⟨ka, kc, rfl⟩ := HI.out.sl
      generalize txId t = y at *
      clear hti hD hrt
      go_wp2_with fail
      refine (HID.out).mono ?_
      rintro e x1 ⟨rfl, hx⟩
      have G1 := hid (HI.out.ext hx)
      clear hx e0 e1 e2 e3 e4 e5 e6 e7 e8 e9 c0 c1 c2 c3 c4 c5 HID
      go_wp2_with fail
      refine (rDigits_any y 8 _ (by omega)).mono ?_
      rintro e x2 ⟨v3, rfl, g1, g2, g3⟩
      have EK := hid (G1.out.ext g2)
      obtain ⟨M, hM⟩ : ∃ M : List UInt8, M = leB 8 y := ⟨_, rfl⟩
      rw [← hM] at g1 HD
      have BM : Hid (M.length ≤ 8) := hid (by rw [hM, leB_length]; omega)
      have OK := hid g1
      obtain ⟨za, zc, rfl, -⟩ := ownsRow_rd g1
      clear g1 g2 g3 hM
      go_wp2_with (at_builtin; refine wpList_app rfl _ _ 33 rfl 5 i0 (.int .u8 0) 1 1 Try.underlying33 HI0.out.1 HI0.out.2.1 HI0.out.2.2.1 HI0.out.2.2.2 rfl (by decide) _ D.length (bs D) rfl EK.out.1 _ M.length (bs M) rfl (ownsRow_rd OK.out) (by rw [List.length_map, Nat.mul_one]) (bs_one _) (by have := BD.out; have := BM.out; unfold maxLen; omega) (by have := BD.out; have := BM.out; omega) ?_)
      intro v u2 hown hkk hb
      have H2 := hid (EK.out.app (m := M) hown hkk hb rfl rfl)
      clear hown hkk hb
      go_wp2_with fail
      go_roundw
      case rel => exact ⟨i + 1, by omega, by go_num, hid (by rw [HD.out]; exact H2.out)⟩
      case measure => simp [intOf]; omega
    · have hie : i = b.txs.length := by omega
      subst hie
      have hltB : decide ((b.txs.length : Int) < (b.txs.length : Int)) = false := by simp
      have hf := HI.out
      rw [List.take_length] at hf
      have HF := hid hf
      clear hf
      go_wp2_with fail
      go_ret
      exact ⟨_, rfl, HF.out.1, HX0.out.trans HF.out.2.1, fun k hk => Nat.le_trans HX0.out.size (HF.out.2.2 k hk)⟩
/-! ## Small -/
def smBlk (b : BlkT) : Bool := decide (b.txs.length ≤ 6) && b.txs.all fun t => smTx t 100
theorem smBlk_sm {b : BlkT} (h : smBlk b = true) : BSm b ∧ b.txs.length ≤ 6 := by
  unfold smBlk at h
  rw [Bool.and_eq_true, decide_eq_true_eq, List.all_eq_true] at h
  exact ⟨⟨by omega, fun t ht => smTx_sm (n := 100) (by omega) (h.2 t ht)⟩, h.1⟩
set_option maxRecDepth 100000 in
set_option maxHeartbeats 6400000 in
theorem smBlk_any (b : BlkT) (tv : Value) (w : World) (h : RdTs w tv b.txs) :
    Calls Try.prog 6 #[blkVal b tv] w fun e w' => e = .returned (.bool (smBlk b)) ∧ Ext w w' := by
  have HH := hid h
  obtain ⟨ta, tc, rfl, -⟩ := h.shape
  obtain ⟨R, hR⟩ : ∃ R, R = smBlk b := ⟨_, rfl⟩
  rw [← hR]
  have HR := hid hR
  clear h hR
  obtain ⟨N, hN⟩ : ∃ N, N = w.heap.size := ⟨_, rfl⟩
  obtain ⟨w0, hw0⟩ : ∃ w0, w0 = w.alloc (.cells #[uv b.parent, .int .i64 b.height, uv b.miner, uv b.work, uv b.nonce, .slice ta b.txs.length tc] 25) := ⟨_, rfl⟩
  have hx0 : Ext w w0 := by rw [hw0]; exact (Ext.refl w).alloc _
  have hb0 : w0.heap[N]? = some (.cells #[uv b.parent, .int .i64 b.height, uv b.miner, uv b.work, uv b.nonce, .slice ta b.txs.length tc] 25 (0, 0)) := by rw [hw0, hN]; exact heap_new _ _
  have HB := hid hb0
  have HW := hid hw0
  have HX0 := hid hx0
  clear hw0 hx0 hb0
  obtain ⟨c0, c1, c2, c3, c4, c5⟩ := six_cellsB HB.out
  go_enter Try.func6, Try.ntmps6
  go_upto_region 1 with fail
  rw [← HW.out, ← hN]
  clear hN
  by_cases h6 : b.txs.length ≤ 6
  case neg =>
    have h6B : decide ((6 : Int) < (b.txs.length : Int)) = true := by simp; omega
    have hr : R = false := by rw [HR.out]; unfold smBlk; rw [show decide (b.txs.length ≤ 6) = false by simpa using h6]; rfl
    subst hr
    clear h6
    go_wp2_with fail
    go_ret
    exact ⟨rfl, HX0.out⟩
  have h6B : decide ((6 : Int) < (b.txs.length : Int)) = false := by simp; omega
  have hn1 : (b.txs.length : Int) ≤ 6 := by omega
  have HR2 : Hid (R = b.txs.all fun t => smTx t 100) := hid (by rw [HR.out]; unfold smBlk; rw [show decide (b.txs.length ≤ 6) = true by simpa using h6, Bool.true_and])
  clear HR h6
  go_wp2_with fail
  clear c0 c1 c2 c3 c4 c5
  go_loopw [3] (fun iv wr => ∃ i : Nat, i ≤ b.txs.length ∧ iv = .int .i64 i ∧ Hid ((b.txs.take i).all (fun t => smTx t 100) = true) ∧ Hid (Ext w0 wr)) (fun iv _ => b.txs.length - (intOf iv).toNat)
  case atStart => exact ⟨0, by omega, rfl, hid rfl, hid (Ext.refl _)⟩
  case round =>
    obtain ⟨i, hi, rfl, HI, HXR⟩ := hrel
    obtain ⟨c0, c1, c2, c3, c4, c5⟩ := six_cellsB (HXR.out.heap_some HB.out)
    by_cases hlt : i < b.txs.length
    · have hltB : decide ((i : Int) < (b.txs.length : Int)) = true := by simp; omega
      have hi0 : (0 : Int) ≤ (i : Int) := Int.natCast_nonneg _
      have hil : (i : Int) < (b.txs.length : Int) := by omega
      obtain ⟨t, hti⟩ : ∃ t, b.txs[i]? = some t := ⟨_, List.getElem?_eq_getElem hlt⟩
      obtain ⟨q, o, ma, mc, oa, oc, pa, pc, rfl, hrt, e0, e1, e2, e3, e4, e5, e6, e7, e8, e9⟩ := (HH.out.ext (HX0.out.trans HXR.out)).at hti
      have HTI := hid hti
      have HSM := hid (smTx_any t _ _ _ 100 wr hrt)
      obtain ⟨sb, hsb⟩ : ∃ sb, sb = smTx t 100 := ⟨_, rfl⟩
      rw [← hsb] at HSM
      have HSB := hid hsb
      clear hti hrt hsb
      go_wp2_with fail
      refine (HSM.out).mono ?_
      rintro e x1 ⟨rfl, hx⟩
      have HX1 := hid (HXR.out.trans hx)
      clear hx e0 e1 e2 e3 e4 e5 e6 e7 e8 e9 c0 c1 c2 c3 c4 c5 HSM
      cases sb with
      | true =>
        have HN : Hid ((b.txs.take (i + 1)).all (fun t => smTx t 100) = true) := hid (all_snoc (p := fun t => smTx t 100) HTI.out HI.out HSB.out.symm)
        go_wp2_with fail
        go_roundw
        case rel => exact ⟨i + 1, by omega, by go_num, HN, HX1⟩
        case measure => simp [intOf]; omega
      | false =>
        have hr : R = false := by rw [HR2.out]; exact all_bad (p := fun t => smTx t 100) HTI.out HSB.out.symm
        subst hr
        go_wp2_with fail
        go_ret
        exact ⟨rfl, HX0.out.trans HX1.out⟩
    · have hie : i = b.txs.length := by omega
      subst hie
      have hltB : decide ((b.txs.length : Int) < (b.txs.length : Int)) = false := by simp
      have hr : R = true := by
        have h1 := HI.out
        rw [List.take_length] at h1
        rw [HR2.out, h1]
      subst hr
      go_wp2_with fail
      go_ret
      exact ⟨rfl, HX0.out.trans HXR.out⟩
/-! ## Same -/
theorem sameTxs_at : ∀ {a b : List TxT} {i : Nat} {x y : TxT}, a[i]? = some x → b[i]? = some y → sameTx x y = false → sameTxs a b = false
  | [], _, _, _, _, h, _, _ => by simp at h
  | _ :: _, [], _, _, _, _, h, _ => by simp at h
  | u :: r, v :: s, 0, x, y, hx, hy, hn => by
    simp at hx hy
    subst hx hy
    unfold sameTxs
    rw [hn, Bool.false_and]
  | u :: r, v :: s, i + 1, x, y, hx, hy, hn => by
    unfold sameTxs
    rw [sameTxs_at (i := i) (by simpa using hx) (by simpa using hy) hn, Bool.and_false]
theorem sameTxs_all : ∀ {a b : List TxT}, a.length = b.length → (∀ (i : Nat) (x y : TxT), a[i]? = some x → b[i]? = some y → sameTx x y = true) → sameTxs a b = true
  | [], _, _, _ => by unfold sameTxs; rfl
  | _ :: _, [], h, _ => by simp at h
  | u :: r, v :: s, hl, h => by
    unfold sameTxs
    rw [sameTxs_all (by simpa using hl) (fun i x y hx hy => h (i + 1) x y (by simpa using hx) (by simpa using hy)), Bool.and_true]
    exact h 0 u v rfl rfl
theorem u_bne (x y : UInt64) : ((x.toNat : Int) != (y.toNat : Int)) = !decide (x = y) := by
  by_cases h : x = y
  · subst h; simp
  · have : x.toNat ≠ y.toNat := fun h' => h (UInt64.toNat_inj.1 h')
    rw [show decide (x = y) = false by simpa using h]
    simp; omega
theorem i_bne (x y : Int) : (x != y) = !decide (x = y) := by
  by_cases h : x = y
  · subst h; simp
  · rw [show decide (x = y) = false by simpa using h]; simpa using h
theorem l_bne (x y : Nat) : ((x : Int) != (y : Int)) = !decide (x = y) := by
  by_cases h : x = y
  · subst h; simp
  · rw [show decide (x = y) = false by simpa using h]; simp; omega
theorem l_bneN (x y : Nat) : (x != y) = !decide (x = y) := by
  by_cases h : x = y
  · subst h; simp
  · rw [show decide (x = y) = false by simpa using h]; simpa using h
def hd6 (a1 a2 a3 a4 a5 a6 : Bool) : Bool := a1 && a2 && a3 && a4 && a5 && a6
set_option maxRecDepth 100000 in
set_option maxHeartbeats 6400000 in
theorem sameBlk_any (a b : BlkT) (av bv : Value) (w : World) (ha : RdTs w av a.txs) (hb : RdTs w bv b.txs) (sa : BSm a) (sb : BSm b) :
    Calls Try.prog 9 #[blkVal a av, blkVal b bv] w fun e w' => e = .returned (.bool (sameBlk a b)) ∧ Ext w w' := by
  have HA := hid ha
  have HB' := hid hb
  have SA := hid sa
  have SB := hid sb
  obtain ⟨sa, sc, rfl, -⟩ := ha.shape
  obtain ⟨ta, tc, rfl, -⟩ := hb.shape
  obtain ⟨R, hR⟩ : ∃ R, R = sameBlk a b := ⟨_, rfl⟩
  rw [← hR]
  have HR : Hid (R = (hd6 (decide (a.parent = b.parent)) (decide (a.height = b.height)) (decide (a.miner = b.miner)) (decide (a.work = b.work)) (decide (a.nonce = b.nonce)) (decide (a.txs.length = b.txs.length)) && sameTxs a.txs b.txs)) := hid (by rw [hR]; rfl)
  have hn1 : (a.txs.length : Int) ≤ 100 := by have := SA.out.n; omega
  obtain ⟨N, hN⟩ : ∃ N, N = w.heap.size := ⟨_, rfl⟩
  obtain ⟨w0, hw0⟩ : ∃ w0, w0 = (w.alloc (.cells #[uv a.parent, .int .i64 a.height, uv a.miner, uv a.work, uv a.nonce, .slice sa a.txs.length sc] 25)).alloc (.cells #[uv b.parent, .int .i64 b.height, uv b.miner, uv b.work, uv b.nonce, .slice ta b.txs.length tc] 25) := ⟨_, rfl⟩
  have hx0 : Ext w w0 := by rw [hw0]; exact ((Ext.refl w).alloc _).alloc _
  have hb0 : w0.heap[N]? = some (.cells #[uv a.parent, .int .i64 a.height, uv a.miner, uv a.work, uv a.nonce, .slice sa a.txs.length sc] 25 (0, 0)) := by rw [hw0, hN]; exact heap_alloc_some (heap_new _ _)
  have hb1 : w0.heap[N + 1]? = some (.cells #[uv b.parent, .int .i64 b.height, uv b.miner, uv b.work, uv b.nonce, .slice ta b.txs.length tc] 25 (0, 0)) := by
    rw [hw0, hN]
    have := heap_new (w.alloc (.cells #[uv a.parent, .int .i64 a.height, uv a.miner, uv a.work, uv a.nonce, .slice sa a.txs.length sc] 25)) (.cells #[uv b.parent, .int .i64 b.height, uv b.miner, uv b.work, uv b.nonce, .slice ta b.txs.length tc] 25)
    simpa using this
  have HB0 := hid hb0
  have HB1 := hid hb1
  have HW := hid hw0
  have HX0 := hid hx0
  have a1 := u_bne a.parent b.parent
  have a2 := i_bne a.height b.height
  have a3 := u_bne a.miner b.miner
  have a4 := u_bne a.work b.work
  have a5 := u_bne a.nonce b.nonce
  have a6 := l_bne a.txs.length b.txs.length
  have HLL : Hid (decide (a.txs.length = b.txs.length) = true → a.txs.length = b.txs.length) := hid (by simp)
  clear hw0 hx0 hb0 hb1 ha hb hR
  obtain ⟨c0, c1, c2, c3, c4, c5⟩ := six_cellsB HB0.out
  obtain ⟨d0, d1, d2, d3, d4, d5⟩ := six_cellsB HB1.out
  generalize decide (a.parent = b.parent) = g1 at *
  generalize decide (a.height = b.height) = g2 at *
  generalize decide (a.miner = b.miner) = g3 at *
  generalize decide (a.work = b.work) = g4 at *
  generalize decide (a.nonce = b.nonce) = g5 at *
  generalize decide (a.txs.length = b.txs.length) = g6 at *
  go_enter Try.func9, Try.ntmps9
  go_upto_region 1 with fail
  rw [← HW.out, ← hN]
  clear hN
  cases g1 with
  | false =>
    have hr : R = false := by rw [HR.out]; rfl
    subst hr
    go_wp2_with fail
    go_ret
    exact ⟨rfl, HX0.out⟩
  | true =>
  cases g2 with
  | false =>
    have hr : R = false := by rw [HR.out]; rfl
    subst hr
    go_wp2_with fail
    go_ret
    exact ⟨rfl, HX0.out⟩
  | true =>
  cases g3 with
  | false =>
    have hr : R = false := by rw [HR.out]; rfl
    subst hr
    go_wp2_with fail
    go_ret
    exact ⟨rfl, HX0.out⟩
  | true =>
  cases g4 with
  | false =>
    have hr : R = false := by rw [HR.out]; rfl
    subst hr
    go_wp2_with fail
    go_ret
    exact ⟨rfl, HX0.out⟩
  | true =>
  cases g5 with
  | false =>
    have hr : R = false := by rw [HR.out]; rfl
    subst hr
    go_wp2_with fail
    go_ret
    exact ⟨rfl, HX0.out⟩
  | true =>
  cases g6 with
  | false =>
    have hr : R = false := by rw [HR.out]; rfl
    subst hr
    go_wp2_with fail
    go_ret
    exact ⟨rfl, HX0.out⟩
  | true =>
  have HL := hid (HLL.out rfl)
  have HR2 : Hid (R = sameTxs a.txs b.txs) := hid (by rw [HR.out]; rfl)
  clear HR HLL
  go_wp2_with fail
  clear c0 c1 c2 c3 c4 c5 d0 d1 d2 d3 d4 d5
  go_loopw [5] (fun iv wr => ∃ i : Nat, i ≤ a.txs.length ∧ iv = .int .i64 i ∧ Hid (∀ (j : Nat) (u v : TxT), j < i → a.txs[j]? = some u → b.txs[j]? = some v → sameTx u v = true) ∧ Hid (Ext w0 wr)) (fun iv _ => a.txs.length - (intOf iv).toNat)
  case atStart => exact ⟨0, by omega, rfl, hid (fun j u v h => by omega), hid (Ext.refl _)⟩
  case round =>
    obtain ⟨i, hi, rfl, HI, HXR⟩ := hrel
    obtain ⟨c0, c1, c2, c3, c4, c5⟩ := six_cellsB (HXR.out.heap_some HB0.out)
    obtain ⟨d0, d1, d2, d3, d4, d5⟩ := six_cellsB (HXR.out.heap_some HB1.out)
    by_cases hlt : i < a.txs.length
    · have hltB : decide ((i : Int) < (a.txs.length : Int)) = true := by simp; omega
      have hi0 : (0 : Int) ≤ (i : Int) := Int.natCast_nonneg _
      have hil : (i : Int) < (a.txs.length : Int) := by omega
      have hil2 : (i : Int) < (b.txs.length : Int) := by have := HL.out; omega
      obtain ⟨x, hxi⟩ : ∃ x, a.txs[i]? = some x := ⟨_, List.getElem?_eq_getElem hlt⟩
      obtain ⟨y, hyi⟩ : ∃ y, b.txs[i]? = some y := ⟨_, List.getElem?_eq_getElem (by have := HL.out; omega)⟩
      obtain ⟨q, o, ma, mc, oa, oc, pa, pc, rfl, hrx, e0, e1, e2, e3, e4, e5, e6, e7, e8, e9⟩ := (HA.out.ext (HX0.out.trans HXR.out)).at hxi
      obtain ⟨q', o', na, nc, ua, uc, ra, rc, rfl, hry, f0, f1, f2, f3, f4, f5, f6, f7, f8, f9⟩ := (HB'.out.ext (HX0.out.trans HXR.out)).at hyi
      have HXY := hid (And.intro hxi hyi)
      have HSX := hid (SA.out.t x (List.mem_of_getElem? hxi))
      have HSY := hid (SB.out.t y (List.mem_of_getElem? hyi))
      have HCC : Hid (∀ v, Ext wr v → (v.cell? ⟨N, 5, none⟩ = some (.slice (some ⟨q, o, none⟩) a.txs.length sc) ∧ v.cell? ⟨N + 1, 5, none⟩ = some (.slice (some ⟨q', o', none⟩) b.txs.length tc)) ∧ (v.cell? ⟨q, o + i * 10, none⟩ = some (uv x.anchor) ∧ v.cell? ⟨q, o + i * 10 + 1, none⟩ = some (.slice ma x.marks.length mc) ∧ v.cell? ⟨q, o + i * 10 + 2, none⟩ = some (.slice oa x.outs.length oc) ∧ v.cell? ⟨q, o + i * 10 + 3, none⟩ = some (uv x.deposit) ∧ v.cell? ⟨q, o + i * 10 + 4, none⟩ = some (uv x.withdraw) ∧ v.cell? ⟨q, o + i * 10 + 5, none⟩ = some (uv x.fee) ∧ v.cell? ⟨q, o + i * 10 + 6, none⟩ = some (uv x.account) ∧ v.cell? ⟨q, o + i * 10 + 7, none⟩ = some (uv x.nonce) ∧ v.cell? ⟨q, o + i * 10 + 8, none⟩ = some (.int .i64 x.expiry) ∧ v.cell? ⟨q, o + i * 10 + 9, none⟩ = some (.slice pa x.proof.length pc)) ∧ (v.cell? ⟨q', o' + i * 10, none⟩ = some (uv y.anchor) ∧ v.cell? ⟨q', o' + i * 10 + 1, none⟩ = some (.slice na y.marks.length nc) ∧ v.cell? ⟨q', o' + i * 10 + 2, none⟩ = some (.slice ua y.outs.length uc) ∧ v.cell? ⟨q', o' + i * 10 + 3, none⟩ = some (uv y.deposit) ∧ v.cell? ⟨q', o' + i * 10 + 4, none⟩ = some (uv y.withdraw) ∧ v.cell? ⟨q', o' + i * 10 + 5, none⟩ = some (uv y.fee) ∧ v.cell? ⟨q', o' + i * 10 + 6, none⟩ = some (uv y.account) ∧ v.cell? ⟨q', o' + i * 10 + 7, none⟩ = some (uv y.nonce) ∧ v.cell? ⟨q', o' + i * 10 + 8, none⟩ = some (.int .i64 y.expiry) ∧ v.cell? ⟨q', o' + i * 10 + 9, none⟩ = some (.slice ra y.proof.length rc))) := hid fun v k => ⟨⟨k.cell_some c5, k.cell_some d5⟩, ⟨k.cell_some e0, k.cell_some e1, k.cell_some e2, k.cell_some e3, k.cell_some e4, k.cell_some e5, k.cell_some e6, k.cell_some e7, k.cell_some e8, k.cell_some e9⟩, ⟨k.cell_some f0, k.cell_some f1, k.cell_some f2, k.cell_some f3, k.cell_some f4, k.cell_some f5, k.cell_some f6, k.cell_some f7, k.cell_some f8, k.cell_some f9⟩⟩
      have HSAME := hid (fun (v : World) (k : Ext wr v) => sameTx_any x y _ _ _ _ _ _ v (hrx.ext k) (hry.ext k) HSX.out.1 HSY.out.1)
      obtain ⟨sb, hsb⟩ : ∃ sb, sb = sameTx x y := ⟨_, rfl⟩
      rw [← hsb] at HSAME
      have HSB := hid hsb
      clear hxi hyi hrx hry e0 e1 e2 e3 e4 e5 e6 e7 e8 e9 f0 f1 f2 f3 f4 f5 f6 f7 f8 f9 hsb
      go_wp2_with fail
      clear c0 c1 c2 c3 c4 c5 d0 d1 d2 d3 d4 d5
      refine wp_region_T (fun v => ((v.cell? ⟨N, 5, none⟩ = some (.slice (some ⟨q, o, none⟩) a.txs.length sc) ∧ v.cell? ⟨N + 1, 5, none⟩ = some (.slice (some ⟨q', o', none⟩) b.txs.length tc)) ∧ (v.cell? ⟨q, o + i * 10, none⟩ = some (uv x.anchor) ∧ v.cell? ⟨q, o + i * 10 + 1, none⟩ = some (.slice ma x.marks.length mc) ∧ v.cell? ⟨q, o + i * 10 + 2, none⟩ = some (.slice oa x.outs.length oc) ∧ v.cell? ⟨q, o + i * 10 + 3, none⟩ = some (uv x.deposit) ∧ v.cell? ⟨q, o + i * 10 + 4, none⟩ = some (uv x.withdraw) ∧ v.cell? ⟨q, o + i * 10 + 5, none⟩ = some (uv x.fee) ∧ v.cell? ⟨q, o + i * 10 + 6, none⟩ = some (uv x.account) ∧ v.cell? ⟨q, o + i * 10 + 7, none⟩ = some (uv x.nonce) ∧ v.cell? ⟨q, o + i * 10 + 8, none⟩ = some (.int .i64 x.expiry) ∧ v.cell? ⟨q, o + i * 10 + 9, none⟩ = some (.slice pa x.proof.length pc)) ∧ (v.cell? ⟨q', o' + i * 10, none⟩ = some (uv y.anchor) ∧ v.cell? ⟨q', o' + i * 10 + 1, none⟩ = some (.slice na y.marks.length nc) ∧ v.cell? ⟨q', o' + i * 10 + 2, none⟩ = some (.slice ua y.outs.length uc) ∧ v.cell? ⟨q', o' + i * 10 + 3, none⟩ = some (uv y.deposit) ∧ v.cell? ⟨q', o' + i * 10 + 4, none⟩ = some (uv y.withdraw) ∧ v.cell? ⟨q', o' + i * 10 + 5, none⟩ = some (uv y.fee) ∧ v.cell? ⟨q', o' + i * 10 + 6, none⟩ = some (uv y.account) ∧ v.cell? ⟨q', o' + i * 10 + 7, none⟩ = some (uv y.nonce) ∧ v.cell? ⟨q', o' + i * 10 + 8, none⟩ = some (.int .i64 y.expiry) ∧ v.cell? ⟨q', o' + i * 10 + 9, none⟩ = some (.slice ra y.proof.length rc))) ∧ Ext wr v) 10 [(0, true), (1, true), (2, true), (3, true), (4, true), (5, true), (6, true), (7, true), (8, true), (9, true), (10, false), (11, false)] (by kernel_rfl) (by kernel_rfl) (by intro c a d v w h; cases d <;> exact h) ?_
      intro ops hops
      have HSS := keep0 HCC.out
      iterate 10
        refine wpT_take (v := ?_) (by rw [hops, List.getElem?_toArray]; rfl) (by first | rfl | (rw [hops]; rfl)) ?_ HSS ?_
        rotate_left
        · intro v h; go_simp; with_reducible rfl
        simp only [Act.put, List.getElem_toArray, List.getElem_cons_zero, List.getElem_cons_succ, List.setIfInBounds_toArray, List.set_cons_zero, List.set_cons_succ]
      clear HSS
      refine wpT_step (by rw [hops, List.getElem?_toArray]; rfl) (by first | rfl | (rw [hops]; rfl)) ?_
      intro K hK
      go_wp2_with fail
      refine (HSAME.out _ (Ext.refl wr).drew).mono ?_
      rintro e x1 ⟨rfl, hx⟩
      have HX1 := hid (HXR.out.drew.trans hx)
      clear hx HSAME
      refine hK _ _ ⟨fun h => absurd h (by decide), ?_⟩
      clear hK K
      refine wpT_step (by rw [hops, List.getElem?_toArray]; rfl) (by first | rfl | (rw [hops]; rfl)) ?_
      intro K hK
      go_wp2_with fail
      try (with_reducible refine ⟨fun h => absurd h (by decide), ?_⟩)
      try rw [wpT_nil]
      try clear hops ops
      cases sb with
      | true =>
        have HN : Hid (∀ (j : Nat) (u v : TxT), j < i + 1 → a.txs[j]? = some u → b.txs[j]? = some v → sameTx u v = true) := hid fun j u' v' hj hu' hv' => by
          by_cases hji : j = i
          · subst hji
            rw [HXY.out.1] at hu'
            rw [HXY.out.2] at hv'
            injection hu' with hu'
            injection hv' with hv'
            rw [← hu', ← hv']; exact HSB.out.symm
          · exact HI.out j u' v' (by omega) hu' hv'
        go_wp2_with fail
        go_roundw
        case rel => exact ⟨i + 1, by omega, by go_num, HN, HX1⟩
        case measure => simp [intOf]; omega
      | false =>
        have hr : R = false := by rw [HR2.out]; exact sameTxs_at HXY.out.1 HXY.out.2 HSB.out.symm
        subst hr
        go_wp2_with fail
        go_ret
        exact ⟨rfl, HX0.out.trans HX1.out⟩
    · have hie : i = a.txs.length := by omega
      subst hie
      have hltB : decide ((a.txs.length : Int) < (a.txs.length : Int)) = false := by simp
      have hr : R = true := by
        rw [HR2.out]
        exact sameTxs_all HL.out (fun j u v hu hv => HI.out j u v (List.getElem?_eq_some_iff.1 hu).1 hu hv)
      subst hr
      go_wp2_with fail
      go_ret
      exact ⟨rfl, HX0.out.trans HXR.out⟩
end Go.Proofs.Ytkdnnekdldomeaa
