/- The head of a block: block.header, moidoreref47.header; block.identifiers, identifier. (Written by wip/tools/gen_hdr.py.) -/
import Derived.Test.YtkdnnekdldomeaaTxSmall
set_option linter.unusedSimpArgs false
namespace Go.Proofs.Ytkdnnekdldomeaa
open Go.RowKit
attribute [local irreducible] perm fAdd fMul fPow fSub fNeg fRed hashU
/-- Few and small transactions. -/
structure BSm (b : BlkT) : Prop where
  n : b.txs.length ≤ 100
  t : ∀ t ∈ b.txs, TSm t ∧ t.proof.length ≤ 10000
theorem hdrB_length (b : BlkT) : (hdrB b).length = 40 := by unfold hdrB; simp [leB_length, lenB_length]
set_option maxRecDepth 100000 in
set_option maxHeartbeats 3200000 in
theorem hdr_any (b : BlkT) (ta : Option Addr) (tc : Nat) (w : World) :
    Calls Try.prog 32 #[blkVal b (.slice ta b.txs.length tc)] w (NewB w (hdrB b)) := by
  obtain ⟨N, hN⟩ : ∃ N, N = w.heap.size := ⟨_, rfl⟩
  obtain ⟨w0, hw0⟩ : ∃ w0, w0 = w.alloc (.cells #[uv b.parent, .int .i64 b.height, uv b.miner, uv b.work, uv b.nonce, .slice ta b.txs.length tc] 25) := ⟨_, rfl⟩
  have hx0 : Ext w w0 := by rw [hw0]; exact (Ext.refl w).alloc _
  have hb0 : w0.heap[N]? = some (.cells #[uv b.parent, .int .i64 b.height, uv b.miner, uv b.work, uv b.nonce, .slice ta b.txs.length tc] 25 (0, 0)) := by rw [hw0, hN]; exact heap_new _ _
  have HB := hid hb0
  have HW := hid hw0
  have HX0 := hid hx0
  clear hw0 hx0 hb0
  obtain ⟨c0, c1, c2, c3, c4, c5⟩ := six_cellsB HB.out
  have F0 : Hid (FrB w0 w0 (.slice none 0 0) []) := hid ⟨World.ownsRow_nil _ _ _ _, Ext.refl _, fun k h => by cases h⟩
  go_enter Try.func32, Try.ntmps32
  go_upto_region 1 with fail
  rw [← HW.out, ← hN]
  clear hN
  go_wp2_with fail
  refine (wUint_fr b.parent F0.out (by simp)).mono ?_
  rintro e w1 ⟨v1, rfl, hf, -⟩
  obtain ⟨sa1, sc1, rfl⟩ := hf.sl
  obtain ⟨L1, hL1⟩ : ∃ L, L = ([] ++ leB 8 b.parent : List UInt8) := ⟨_, rfl⟩
  rw [← hL1] at hf ⊢
  have F1 := hid hf
  have HL1 := hid hL1
  have B1 : Hid (L1.length ≤ 8) := hid (by rw [hL1]; simp [leB_length])
  clear c0 c1 c2 c3 c4 c5
  clear hf hL1
  obtain ⟨c0, c1, c2, c3, c4, c5⟩ := six_cellsB ((F1.out.2.1).heap_some HB.out)
  go_wp2_with fail
  refine (wInt_fr b.height F1.out (by have := B1.out; omega)).mono ?_
  rintro e w2 ⟨v2, rfl, hf, -⟩
  obtain ⟨sa2, sc2, rfl⟩ := hf.sl
  obtain ⟨L2, hL2⟩ : ∃ L, L = L1 ++ lenB b.height := ⟨_, rfl⟩
  rw [← hL2] at hf ⊢
  have F2 := hid hf
  have HL2 := hid hL2
  have B2 : Hid (L2.length ≤ 12) := hid (by rw [hL2]; rw [List.length_append, lenB_length]; have := B1.out; omega)
  clear c0 c1 c2 c3 c4 c5
  clear hf hL2
  obtain ⟨c0, c1, c2, c3, c4, c5⟩ := six_cellsB ((F2.out.2.1).heap_some HB.out)
  go_wp2_with fail
  refine (wUint_fr b.miner F2.out (by have := B2.out; omega)).mono ?_
  rintro e w3 ⟨v3, rfl, hf, -⟩
  obtain ⟨sa3, sc3, rfl⟩ := hf.sl
  obtain ⟨L3, hL3⟩ : ∃ L, L = L2 ++ leB 8 b.miner := ⟨_, rfl⟩
  rw [← hL3] at hf ⊢
  have F3 := hid hf
  have HL3 := hid hL3
  have B3 : Hid (L3.length ≤ 20) := hid (by rw [hL3]; rw [List.length_append, leB_length]; have := B2.out; omega)
  clear c0 c1 c2 c3 c4 c5
  clear hf hL3
  obtain ⟨c0, c1, c2, c3, c4, c5⟩ := six_cellsB ((F3.out.2.1).heap_some HB.out)
  go_wp2_with fail
  refine (wUint_fr b.work F3.out (by have := B3.out; omega)).mono ?_
  rintro e w4 ⟨v4, rfl, hf, -⟩
  obtain ⟨sa4, sc4, rfl⟩ := hf.sl
  obtain ⟨L4, hL4⟩ : ∃ L, L = L3 ++ leB 8 b.work := ⟨_, rfl⟩
  rw [← hL4] at hf ⊢
  have F4 := hid hf
  have HL4 := hid hL4
  have B4 : Hid (L4.length ≤ 28) := hid (by rw [hL4]; rw [List.length_append, leB_length]; have := B3.out; omega)
  clear c0 c1 c2 c3 c4 c5
  clear hf hL4
  obtain ⟨c0, c1, c2, c3, c4, c5⟩ := six_cellsB ((F4.out.2.1).heap_some HB.out)
  go_wp2_with fail
  refine (wUint_fr b.nonce F4.out (by have := B4.out; omega)).mono ?_
  rintro e w5 ⟨v5, rfl, hf, -⟩
  obtain ⟨sa5, sc5, rfl⟩ := hf.sl
  obtain ⟨L5, hL5⟩ : ∃ L, L = L4 ++ leB 8 b.nonce := ⟨_, rfl⟩
  rw [← hL5] at hf ⊢
  have F5 := hid hf
  have HL5 := hid hL5
  have B5 : Hid (L5.length ≤ 36) := hid (by rw [hL5]; rw [List.length_append, leB_length]; have := B4.out; omega)
  clear c0 c1 c2 c3 c4 c5
  clear hf hL5
  obtain ⟨c0, c1, c2, c3, c4, c5⟩ := six_cellsB ((F5.out.2.1).heap_some HB.out)
  go_wp2_with fail
  refine (wInt_fr (b.txs.length : Int) F5.out (by have := B5.out; omega)).mono ?_
  rintro e w6 ⟨v6, rfl, hf, -⟩
  have F6 := hid hf
  clear hf
  go_wp2_with fail
  go_ret
  have hb : L5 ++ lenB (b.txs.length : Int) = hdrB b := by
    rw [HL5.out, HL4.out, HL3.out, HL2.out, HL1.out]
    unfold hdrB
    simp [List.append_assoc]
  rw [← hb]
  exact ⟨_, rfl, F6.out.1, HX0.out.trans F6.out.2.1, fun k hk => Nat.le_trans HX0.out.size (F6.out.2.2 k hk)⟩
set_option maxRecDepth 100000 in
set_option maxHeartbeats 3200000 in
theorem rHdr_any (b : BlkT) (ta : Option Addr) (tc : Nat) (w : World) :
    Calls Try.prog 26 #[blkVal b (.slice ta b.txs.length tc)] w (NewB w (hdrB b)) := by
  obtain ⟨i0, hi, hz0, hz1, hz2⟩ := info_parts Try.infoB
  have HI0 := hid (And.intro hi (And.intro hz0 (And.intro hz1 hz2)))
  clear hi hz0 hz1 hz2
  obtain ⟨N, hN⟩ : ∃ N, N = w.heap.size := ⟨_, rfl⟩
  obtain ⟨w0, hw0⟩ : ∃ w0, w0 = w.alloc (.cells #[uv b.parent, .int .i64 b.height, uv b.miner, uv b.work, uv b.nonce, .slice ta b.txs.length tc] 25) := ⟨_, rfl⟩
  have hx0 : Ext w w0 := by rw [hw0]; exact (Ext.refl w).alloc _
  have hb0 : w0.heap[N]? = some (.cells #[uv b.parent, .int .i64 b.height, uv b.miner, uv b.work, uv b.nonce, .slice ta b.txs.length tc] 25 (0, 0)) := by rw [hw0, hN]; exact heap_new _ _
  have HB := hid hb0
  have HW := hid hw0
  have HX0 := hid hx0
  clear hw0 hx0 hb0
  obtain ⟨c0, c1, c2, c3, c4, c5⟩ := six_cellsB HB.out
  go_enter Try.func26, Try.ntmps26
  go_upto_region 1 with fail
  rw [← HW.out, ← hN]
  clear hN
  go_wp2_with fail
  refine (rDigits_any b.parent 8 w0 (by omega)).mono ?_
  rintro e w1 ⟨v1, rfl, g1, g2, g3⟩
  obtain ⟨L1, hL1⟩ : ∃ L : List UInt8, L = leB 8 b.parent := ⟨_, rfl⟩
  rw [← hL1] at g1
  have F1 : Hid (FrB w0 w1 v1 L1) := hid ⟨g1, g2, g3⟩
  have HL1 := hid hL1
  have B1 : Hid (L1.length ≤ 8) := hid (by rw [hL1, leB_length]; omega)
  obtain ⟨sa1, sc1, rfl⟩ := F1.out.sl
  clear c0 c1 c2 c3 c4 c5
  clear g1 g2 g3 hL1
  obtain ⟨c0, c1, c2, c3, c4, c5⟩ := six_cellsB ((F1.out.2.1).heap_some HB.out)
  go_wp2_with fail
  refine (rLen_any b.height _).mono ?_
  rintro e u2 ⟨y2, rfl, g1, g2, g3⟩
  obtain ⟨M2, hM2⟩ : ∃ M : List UInt8, M = lenB b.height := ⟨_, rfl⟩
  rw [← hM2] at g1
  have HM2 := hid hM2
  have BM2 : Hid (M2.length ≤ 8) := hid (by rw [hM2]; rw [lenB_length]; omega)
  have E2 := hid (F1.out.ext g2)
  have O2 := hid g1
  obtain ⟨ya2, yc2, rfl, -⟩ := ownsRow_rd g1
  clear c0 c1 c2 c3 c4 c5
  clear g1 g2 g3 hM2
  go_wp2_with (at_builtin; refine wpList_app rfl _ _ 33 rfl 5 i0 (.int .u8 0) 1 1 Try.underlying33 HI0.out.1 HI0.out.2.1 HI0.out.2.2.1 HI0.out.2.2.2 rfl (by decide) _ L1.length (bs L1) rfl E2.out.1 _ M2.length (bs M2) rfl (ownsRow_rd O2.out) (by rw [List.length_map, Nat.mul_one]) (bs_one _) (by have := B1.out; have := BM2.out; unfold maxLen; omega) (by have := B1.out; have := BM2.out; omega) ?_)
  intro v2 w2 hown hk hb
  have hf := E2.out.app (m := M2) hown hk hb rfl rfl
  obtain ⟨L2, hL2⟩ : ∃ L, L = L1 ++ M2 := ⟨_, rfl⟩
  rw [← hL2] at hf
  have F2 := hid hf
  have HL2 := hid hL2
  have B2 : Hid (L2.length ≤ 20) := hid (by rw [hL2, List.length_append]; have := B1.out; have := BM2.out; omega)
  obtain ⟨sa2, sc2, rfl⟩ := hf.sl
  clear hown hk hb hf hL2
  obtain ⟨c0, c1, c2, c3, c4, c5⟩ := six_cellsB ((F2.out.2.1).heap_some HB.out)
  go_wp2_with fail
  refine (rDigits_any b.miner 8 _ (by omega)).mono ?_
  rintro e u3 ⟨y3, rfl, g1, g2, g3⟩
  obtain ⟨M3, hM3⟩ : ∃ M : List UInt8, M = leB 8 b.miner := ⟨_, rfl⟩
  rw [← hM3] at g1
  have HM3 := hid hM3
  have BM3 : Hid (M3.length ≤ 8) := hid (by rw [hM3]; rw [leB_length]; omega)
  have E3 := hid (F2.out.ext g2)
  have O3 := hid g1
  obtain ⟨ya3, yc3, rfl, -⟩ := ownsRow_rd g1
  clear c0 c1 c2 c3 c4 c5
  clear g1 g2 g3 hM3
  go_wp2_with (at_builtin; refine wpList_app rfl _ _ 33 rfl 5 i0 (.int .u8 0) 1 1 Try.underlying33 HI0.out.1 HI0.out.2.1 HI0.out.2.2.1 HI0.out.2.2.2 rfl (by decide) _ L2.length (bs L2) rfl E3.out.1 _ M3.length (bs M3) rfl (ownsRow_rd O3.out) (by rw [List.length_map, Nat.mul_one]) (bs_one _) (by have := B2.out; have := BM3.out; unfold maxLen; omega) (by have := B2.out; have := BM3.out; omega) ?_)
  intro v3 w3 hown hk hb
  have hf := E3.out.app (m := M3) hown hk hb rfl rfl
  obtain ⟨L3, hL3⟩ : ∃ L, L = L2 ++ M3 := ⟨_, rfl⟩
  rw [← hL3] at hf
  have F3 := hid hf
  have HL3 := hid hL3
  have B3 : Hid (L3.length ≤ 30) := hid (by rw [hL3, List.length_append]; have := B2.out; have := BM3.out; omega)
  obtain ⟨sa3, sc3, rfl⟩ := hf.sl
  clear hown hk hb hf hL3
  obtain ⟨c0, c1, c2, c3, c4, c5⟩ := six_cellsB ((F3.out.2.1).heap_some HB.out)
  go_wp2_with fail
  refine (rDigits_any b.work 8 _ (by omega)).mono ?_
  rintro e u4 ⟨y4, rfl, g1, g2, g3⟩
  obtain ⟨M4, hM4⟩ : ∃ M : List UInt8, M = leB 8 b.work := ⟨_, rfl⟩
  rw [← hM4] at g1
  have HM4 := hid hM4
  have BM4 : Hid (M4.length ≤ 8) := hid (by rw [hM4]; rw [leB_length]; omega)
  have E4 := hid (F3.out.ext g2)
  have O4 := hid g1
  obtain ⟨ya4, yc4, rfl, -⟩ := ownsRow_rd g1
  clear c0 c1 c2 c3 c4 c5
  clear g1 g2 g3 hM4
  go_wp2_with (at_builtin; refine wpList_app rfl _ _ 33 rfl 5 i0 (.int .u8 0) 1 1 Try.underlying33 HI0.out.1 HI0.out.2.1 HI0.out.2.2.1 HI0.out.2.2.2 rfl (by decide) _ L3.length (bs L3) rfl E4.out.1 _ M4.length (bs M4) rfl (ownsRow_rd O4.out) (by rw [List.length_map, Nat.mul_one]) (bs_one _) (by have := B3.out; have := BM4.out; unfold maxLen; omega) (by have := B3.out; have := BM4.out; omega) ?_)
  intro v4 w4 hown hk hb
  have hf := E4.out.app (m := M4) hown hk hb rfl rfl
  obtain ⟨L4, hL4⟩ : ∃ L, L = L3 ++ M4 := ⟨_, rfl⟩
  rw [← hL4] at hf
  have F4 := hid hf
  have HL4 := hid hL4
  have B4 : Hid (L4.length ≤ 40) := hid (by rw [hL4, List.length_append]; have := B3.out; have := BM4.out; omega)
  obtain ⟨sa4, sc4, rfl⟩ := hf.sl
  clear hown hk hb hf hL4
  obtain ⟨c0, c1, c2, c3, c4, c5⟩ := six_cellsB ((F4.out.2.1).heap_some HB.out)
  go_wp2_with fail
  refine (rDigits_any b.nonce 8 _ (by omega)).mono ?_
  rintro e u5 ⟨y5, rfl, g1, g2, g3⟩
  obtain ⟨M5, hM5⟩ : ∃ M : List UInt8, M = leB 8 b.nonce := ⟨_, rfl⟩
  rw [← hM5] at g1
  have HM5 := hid hM5
  have BM5 : Hid (M5.length ≤ 8) := hid (by rw [hM5]; rw [leB_length]; omega)
  have E5 := hid (F4.out.ext g2)
  have O5 := hid g1
  obtain ⟨ya5, yc5, rfl, -⟩ := ownsRow_rd g1
  clear c0 c1 c2 c3 c4 c5
  clear g1 g2 g3 hM5
  go_wp2_with (at_builtin; refine wpList_app rfl _ _ 33 rfl 5 i0 (.int .u8 0) 1 1 Try.underlying33 HI0.out.1 HI0.out.2.1 HI0.out.2.2.1 HI0.out.2.2.2 rfl (by decide) _ L4.length (bs L4) rfl E5.out.1 _ M5.length (bs M5) rfl (ownsRow_rd O5.out) (by rw [List.length_map, Nat.mul_one]) (bs_one _) (by have := B4.out; have := BM5.out; unfold maxLen; omega) (by have := B4.out; have := BM5.out; omega) ?_)
  intro v5 w5 hown hk hb
  have hf := E5.out.app (m := M5) hown hk hb rfl rfl
  obtain ⟨L5, hL5⟩ : ∃ L, L = L4 ++ M5 := ⟨_, rfl⟩
  rw [← hL5] at hf
  have F5 := hid hf
  have HL5 := hid hL5
  have B5 : Hid (L5.length ≤ 50) := hid (by rw [hL5, List.length_append]; have := B4.out; have := BM5.out; omega)
  obtain ⟨sa5, sc5, rfl⟩ := hf.sl
  clear hown hk hb hf hL5
  obtain ⟨c0, c1, c2, c3, c4, c5⟩ := six_cellsB ((F5.out.2.1).heap_some HB.out)
  go_wp2_with fail
  refine (rLen_any (b.txs.length : Int) _).mono ?_
  rintro e u6 ⟨y6, rfl, g1, g2, g3⟩
  obtain ⟨M6, hM6⟩ : ∃ M : List UInt8, M = lenB (b.txs.length : Int) := ⟨_, rfl⟩
  rw [← hM6] at g1
  have HM6 := hid hM6
  have BM6 : Hid (M6.length ≤ 8) := hid (by rw [hM6]; rw [lenB_length]; omega)
  have E6 := hid (F5.out.ext g2)
  have O6 := hid g1
  obtain ⟨ya6, yc6, rfl, -⟩ := ownsRow_rd g1
  clear c0 c1 c2 c3 c4 c5
  clear g1 g2 g3 hM6
  go_wp2_with (at_builtin; refine wpList_app rfl _ _ 33 rfl 5 i0 (.int .u8 0) 1 1 Try.underlying33 HI0.out.1 HI0.out.2.1 HI0.out.2.2.1 HI0.out.2.2.2 rfl (by decide) _ L5.length (bs L5) rfl E6.out.1 _ M6.length (bs M6) rfl (ownsRow_rd O6.out) (by rw [List.length_map, Nat.mul_one]) (bs_one _) (by have := B5.out; have := BM6.out; unfold maxLen; omega) (by have := B5.out; have := BM6.out; omega) ?_)
  intro v6 w6 hown hk hb
  have hf := E6.out.app (m := M6) hown hk hb rfl rfl
  obtain ⟨L6, hL6⟩ : ∃ L, L = L5 ++ M6 := ⟨_, rfl⟩
  rw [← hL6] at hf
  have F6 := hid hf
  have HL6 := hid hL6
  have B6 : Hid (L6.length ≤ 60) := hid (by rw [hL6, List.length_append]; have := B5.out; have := BM6.out; omega)
  obtain ⟨sa6, sc6, rfl⟩ := hf.sl
  clear hown hk hb hf hL6
  go_wp2_with fail
  go_ret
  have hb : L6 = hdrB b := by
    rw [HL6.out, HM6.out, HL5.out, HM5.out, HL4.out, HM4.out, HL3.out, HM3.out, HL2.out, HM2.out, HL1.out]
    unfold hdrB
    simp [List.append_assoc]
  rw [← hb]
  exact ⟨_, rfl, F6.out.1, HX0.out.trans F6.out.2.1, fun k hk => Nat.le_trans HX0.out.size (F6.out.2.2 k hk)⟩
/-! ## identifiers -/
set_option maxRecDepth 100000 in
set_option maxHeartbeats 3200000 in
theorem ids_any (b : BlkT) (tv : Value) (w : World) (h : RdTs w tv b.txs) (hs : BSm b) :
    Calls Try.prog 24 #[blkVal b tv] w (NewU w (b.txs.map txId)) := by
  obtain ⟨i0, hi, hz0, hz1, hz2⟩ := info_parts Try.infoU
  have HI0 := hid (And.intro hi (And.intro hz0 (And.intro hz1 hz2)))
  obtain ⟨ta, tc, rfl, -⟩ := h.shape
  have HH := hid h
  have HS := hid hs
  have hn1 : (b.txs.length : Int) ≤ 100 := by have := hs.n; omega
  clear hi hz0 hz1 hz2 h hs
  obtain ⟨N, hN⟩ : ∃ N, N = w.heap.size := ⟨_, rfl⟩
  obtain ⟨w0, hw0⟩ : ∃ w0, w0 = w.alloc (.cells #[uv b.parent, .int .i64 b.height, uv b.miner, uv b.work, uv b.nonce, .slice ta b.txs.length tc] 25) := ⟨_, rfl⟩
  have hx0 : Ext w w0 := by rw [hw0]; exact (Ext.refl w).alloc _
  have hb0 : w0.heap[N]? = some (.cells #[uv b.parent, .int .i64 b.height, uv b.miner, uv b.work, uv b.nonce, .slice ta b.txs.length tc] 25 (0, 0)) := by rw [hw0, hN]; exact heap_new _ _
  have HB := hid hb0
  have HW := hid hw0
  have HX0 := hid hx0
  clear hw0 hx0 hb0
  obtain ⟨c0, c1, c2, c3, c4, c5⟩ := six_cellsB HB.out
  go_enter Try.func24, Try.ntmps24
  go_upto_region 1 with fail
  rw [← HW.out, ← hN]
  clear hN
  go_wp2_with (at_make; refine wpList_make_own _ rfl _ _ 36 rfl 0 22 i0 (.int .u64 0) 1 Try.underlying36 HI0.out.1 HI0.out.2.1 HI0.out.2.2.1 _ _ _ b.txs.length rfl rfl rfl (by rw [HI0.out.2.2.2]; omega) (by unfold maxLen; omega) (Nat.zero_le _) ?_)
  intro w1 hown0 hg
  have hE : Ext w0 w1 := (grown_kp hg).toExt (by intro k h; cases h)
  have H1 : Hid (OwnU w1 (.slice (some ⟨w0.heap.size, 0, none⟩) 0 b.txs.length) [] ∧ Ext w0 w1 ∧ ∀ k, blk (.slice (some ⟨w0.heap.size, 0, none⟩) 0 b.txs.length) = some k → w0.heap.size ≤ k) := hid ⟨hown0, hE, fun k e => by
    change some w0.heap.size = some k at e
    have := Option.some.inj e
    omega⟩
  clear hown0 hg hE c0 c1 c2 c3 c4 c5
  obtain ⟨c0, c1, c2, c3, c4, c5⟩ := six_cellsB (H1.out.2.1.heap_some HB.out)
  go_wp2_with fail
  clear c0 c1 c2 c3 c4 c5
  go_loopw [3, 13] (fun bv iv wr => ∃ i : Nat, i ≤ b.txs.length ∧ iv = .int .i64 i ∧ Hid (OwnU wr bv ((b.txs.take i).map txId) ∧ Ext w0 wr ∧ ∀ k, blk bv = some k → w0.heap.size ≤ k)) (fun _ iv _ => b.txs.length - (intOf iv).toNat)
  case atStart => exact ⟨0, by omega, rfl, H1⟩
  case round =>
    clear H1
    obtain ⟨i, hi, rfl, HI⟩ := hrel
    by_cases hlt : i < b.txs.length
    · have hltB : decide ((i : Int) < (b.txs.length : Int)) = true := by simp; omega
      have hi0 : (0 : Int) ≤ (i : Int) := Int.natCast_nonneg _
      have hil : (i : Int) < (b.txs.length : Int) := by omega
      obtain ⟨t, hti⟩ : ∃ t, b.txs[i]? = some t := ⟨_, List.getElem?_eq_getElem hlt⟩
      obtain ⟨q, o, ma, mc, oa, oc, pa, pc, rfl, hrt, e0, e1, e2, e3, e4, e5, e6, e7, e8, e9⟩ := (HH.out.ext (HX0.out.trans HI.out.2.1)).at hti
      have HTS := hid (HS.out.t t (List.mem_of_getElem? hti))
      have HTI : Hid ((b.txs.take (i + 1)).map txId = (b.txs.take i).map txId ++ [txId t]) := hid (by rw [List.take_add_one, hti]; simp)
      clear hti
      go_upto_region 5 with fail
      clear e0 e1 e2 e3 e4 e5 e6 e7 e8 e9
      obtain ⟨P, hP⟩ : ∃ P, P = wr.heap.size := ⟨_, rfl⟩
      obtain ⟨x1, hx1⟩ : ∃ x1, x1 = wr.alloc (.cells #[uv t.anchor, .slice ma t.marks.length mc, .slice oa t.outs.length oc, uv t.deposit, uv t.withdraw, uv t.fee, uv t.account, uv t.nonce, .int .i64 t.expiry, .slice pa t.proof.length pc] 39) := ⟨_, rfl⟩
      have hy1 : Ext wr x1 := by rw [hx1]; exact (Ext.refl wr).alloc _
      have hb1 : x1.heap[P]? = some (.cells #[uv t.anchor, .slice ma t.marks.length mc, .slice oa t.outs.length oc, uv t.deposit, uv t.withdraw, uv t.fee, uv t.account, uv t.nonce, .int .i64 t.expiry, .slice pa t.proof.length pc] 39 (0, 0)) := by rw [hx1, hP]; exact heap_new _ _
      rw [← hx1, ← hP]
      obtain ⟨t0, t1, t2, t3, t4, t5, t6, t7, t8, t9⟩ := ten_cells hb1
      have HID := hid (txID_any t _ _ _ x1 (hrt.ext hy1) HTS.out.1)
      have HY1 := hid hy1
      clear hx1 hy1 hb1 hP hrt
      go_wp2_with fail
      refine (HID.out).mono ?_
      rintro e x2 ⟨rfl, hx⟩
      have HY2 := hid (HY1.out.trans hx)
      obtain ⟨cur, hcur⟩ : ∃ cur, cur = (b.txs.take i).map txId := ⟨_, rfl⟩
      rw [← hcur] at HI HTI
      have HCL : Hid (cur.length ≤ 1000) := hid (by rw [hcur, List.length_map, List.length_take]; omega)
      have HOX := hid (ownsRow_ext HI.out.1 HY2.out)
      generalize txId t = y at *
      clear hx t0 t1 t2 t3 t4 t5 t6 t7 t8 t9 HID hcur
      go_wp2_with (at_builtin; refine wpList_app rfl _ _ 36 rfl 22 i0 (.int .u64 0) 1 8 Try.underlying36 HI0.out.1 HI0.out.2.1 HI0.out.2.2.1 HI0.out.2.2.2 rfl (by decide) _ cur.length (us cur) rfl (ownsRow_ext HOX.out ((Ext.refl _).alloc _)) _ 1 [.int .u64 y.toNat] rfl (RdC.new1 _ _ _) rfl (us_one [y]) (by have := HCL.out; unfold maxLen; omega) (by have := HCL.out; omega) ?_)
      intro v' w3 hown hk2 hb
      have G : Hid (OwnU w3 v' (cur ++ [y]) ∧ Ext w0 w3 ∧ ∀ k, blk v' = some k → w0.heap.size ≤ k) := hid (by
        refine ⟨?_, ((HI.out.2.1.trans HY2.out).alloc _).kp hk2 (fun k e => HI.out.2.2 k e.symm), fun k e => ?_⟩
        · show w3.ownsRow 0 22 1 v' (cur ++ [y]).length (us (cur ++ [y]))
          rw [show (cur ++ [y]).length = cur.length + 1 from by simp, show us (cur ++ [y]) = us cur ++ [.int .u64 y.toNat] from by simp]
          exact hown
        · rcases hb with hb | hb
          · exact HI.out.2.2 k (hb ▸ e)
          · rw [hb] at e; injection e with e; have := (HI.out.2.1.trans HY2.out).size; have := ((Ext.refl x2).alloc (.cells #[.int .u64 y.toNat] 22)).size; simp only [World.size_alloc] at *; omega)
      clear hown hk2 hb
      go_wp2_with fail
      go_roundw
      case rel => exact ⟨i + 1, by omega, by go_num, hid (by rw [HTI.out]; exact G.out)⟩
      case measure => simp [intOf]; omega
    · have hie : i = b.txs.length := by omega
      subst hie
      have hltB : decide ((b.txs.length : Int) < (b.txs.length : Int)) = false := by simp
      have hf := HI.out
      rw [List.take_length] at hf
      have HF := hid hf
      clear hf
      go_wp2_with fail
      go_ret
      exact ⟨_, rfl, HF.out.1, HX0.out.trans HF.out.2.1, fun k hk => Nat.le_trans HX0.out.size (HF.out.2.2 k hk)⟩
set_option maxRecDepth 100000 in
set_option maxHeartbeats 3200000 in
theorem identifier_any (b : BlkT) (ta : Option Addr) (tc : Nat) (iv : Value) (ids : List UInt64) (w : World) (hi : RdU' w iv ids) (hn : ids.length ≤ 1000) :
    Calls Try.prog 23 #[blkVal b (.slice ta b.txs.length tc), iv] w fun e w' => e = .returned (uv (hashB 15 (hdrB b ++ cat ids))) ∧ Ext w w' := by
  obtain ⟨ia, ic, rfl, -⟩ := id hi
  have HH : Hid (∀ v x, RdB' v x (hdrB b ++ cat ids) → Calls Try.prog 25 #[.int .u64 15, x] v fun e w' => e = .returned (uv (hashB 15 (hdrB b ++ cat ids))) ∧ Ext v w') := hid fun v x hx => HashB_any 15 x _ v hx (by rw [List.length_append, hdrB_length, cat_length]; omega)
  obtain ⟨DD, hDD⟩ : ∃ D, D = hdrB b ++ cat ids := ⟨_, rfl⟩
  rw [← hDD] at HH ⊢
  have HDD := hid hDD
  generalize hashB 15 DD = r at *
  have HIR := hid hi
  clear hDD
  have hn1 : (ids.length : Int) ≤ 1000 := by omega
  clear hi
  obtain ⟨N, hN⟩ : ∃ N, N = w.heap.size := ⟨_, rfl⟩
  obtain ⟨w0, hw0⟩ : ∃ w0, w0 = w.alloc (.cells #[uv b.parent, .int .i64 b.height, uv b.miner, uv b.work, uv b.nonce, .slice ta b.txs.length tc] 25) := ⟨_, rfl⟩
  have hx0 : Ext w w0 := by rw [hw0]; exact (Ext.refl w).alloc _
  have hb0 : w0.heap[N]? = some (.cells #[uv b.parent, .int .i64 b.height, uv b.miner, uv b.work, uv b.nonce, .slice ta b.txs.length tc] 25 (0, 0)) := by rw [hw0, hN]; exact heap_new _ _
  have HB := hid hb0
  have HW := hid hw0
  have HX0 := hid hx0
  clear hw0 hx0 hb0
  obtain ⟨c0, c1, c2, c3, c4, c5⟩ := six_cellsB HB.out
  go_enter Try.func23, Try.ntmps23
  go_upto_region 1 with fail
  rw [← HW.out, ← hN]
  clear hN
  go_wp2_with fail
  refine (hdr_any b ta tc _).mono ?_
  rintro e w1 ⟨v1, rfl, g1, g2, g3⟩
  have F1 : Hid (FrB w0 w1 v1 (hdrB b)) := hid ⟨g1, g2, g3⟩
  obtain ⟨sa1, sc1, rfl⟩ := F1.out.sl
  clear g1 g2 g3 c0 c1 c2 c3 c4 c5
  go_wp2_with fail
  go_loopw [5, 12] (fun bv kv wr => ∃ i : Nat, i ≤ ids.length ∧ kv = .int .i64 i ∧ Hid (FrB w0 wr bv (hdrB b ++ cat (ids.take i)))) (fun _ kv _ => ids.length - (intOf kv).toNat)
  case atStart => exact ⟨0, by omega, rfl, hid (by simpa [cat] using F1.out)⟩
  case round =>
    clear F1
    obtain ⟨i, hi, rfl, HI⟩ := hrel
    by_cases hlt : i < ids.length
    · have hltB : decide ((i : Int) < (ids.length : Int)) = true := by simp; omega
      have hi0 : (0 : Int) ≤ (i : Int) := Int.natCast_nonneg _
      have hil : (i : Int) < (ids.length : Int) := by omega
      obtain ⟨x, hx⟩ : ∃ x, ids[i]? = some x := ⟨_, List.getElem?_eq_getElem hlt⟩
      obtain ⟨xb, xo, rfl, hcx⟩ := (HIR.out.ext (HX0.out.trans HI.out.2.1)).uat hx
      obtain ⟨D, hD⟩ : ∃ D, D = hdrB b ++ cat (ids.take i) := ⟨_, rfl⟩
      have HD : Hid (hdrB b ++ cat (ids.take (i + 1)) = D ++ leB 8 x) := hid (by rw [cat_take hx, ← List.append_assoc, hD])
      have BD : Hid (D.length ≤ 10000) := hid (by rw [hD, List.length_append, hdrB_length, cat_length, List.length_take]; omega)
      rw [← hD] at HI
      obtain ⟨ka, kc, rfl⟩ := HI.out.sl
      clear hx hD
      go_wp2_with fail
      refine (wUint_fr x HI.out (by have := BD.out; omega)).mono ?_
      rintro e w2 ⟨v2, rfl, hf, -⟩
      have F2 := hid hf
      clear hf hcx
      go_wp2_with fail
      go_roundw
      case rel => exact ⟨i + 1, by omega, by go_num, hid (by rw [HD.out]; exact F2.out)⟩
      case measure => simp [intOf]; omega
    · have hie : i = ids.length := by omega
      subst hie
      have hltB : decide ((ids.length : Int) < (ids.length : Int)) = false := by simp
      have hf := HI.out
      rw [List.take_length, ← HDD.out] at hf
      have HF := hid hf
      obtain ⟨ka, kc, rfl⟩ := hf.sl
      clear hf
      go_wp2_with fail
      refine (HH.out _ _ HF.out.1.weak).mono ?_
      rintro e w2 ⟨rfl, hx⟩
      have HX2 := hid ((HX0.out.trans HF.out.2.1).trans hx)
      clear hx
      go_wp2_with fail
      go_ret
      exact ⟨rfl, HX2.out⟩
end Go.Proofs.Ytkdnnekdldomeaa
