/- block.Decode of a block without transactions: what was encoded is read. -/
import Derived.Test.YtkdnnekdldomeaaRead
import Derived.Test.YtkdnnekdldomeaaBlkI
set_option linter.unusedSimpArgs false
namespace Go.Proofs.Ytkdnnekdldomeaa
open Go.RowKit
attribute [local irreducible] perm fAdd fMul fPow fSub fNeg fRed hashU
def setSixB (w : World) (b : Nat) (d0 d1 d2 d3 d4 d5 : Value) : World :=
  (((((w.setCell ⟨b, 0, none⟩ d0).setCell ⟨b, 1, none⟩ d1).setCell ⟨b, 2, none⟩ d2).setCell ⟨b, 3, none⟩ d3).setCell ⟨b, 4, none⟩ d4).setCell ⟨b, 5, none⟩ d5
theorem six_setB {w : World} {b : Nat} {c0 c1 c2 c3 c4 c5 d0 d1 d2 d3 d4 d5 : Value} {T : TypeId} (h : w.heap[b]? = some (.cells #[c0, c1, c2, c3, c4, c5] T (0, 0))) :
    (setSixB w b d0 d1 d2 d3 d4 d5).heap[b]? = some (.cells #[d0, d1, d2, d3, d4, d5] T (0, 0)) ∧ Kp (fun k => k = b) w (setSixB w b d0 d1 d2 d3 d4 d5) := by
  refine ⟨?_, ?_⟩
  · unfold setSixB
    have h1 := heap_setCell_same h 0 d0
    have h2 := heap_setCell_same h1 1 d1
    have h3 := heap_setCell_same h2 2 d2
    have h4 := heap_setCell_same h3 3 d3
    have h5 := heap_setCell_same h4 4 d4
    have h6 := heap_setCell_same h5 5 d5
    simpa using h6
  · unfold setSixB
    exact ((((((Kp.refl (fun k => k = b) w).setCell (p := ⟨b, 0, none⟩) (.inl rfl) d0).setCell (p := ⟨b, 1, none⟩) (.inl rfl) d1).setCell (p := ⟨b, 2, none⟩) (.inl rfl) d2).setCell (p := ⟨b, 3, none⟩) (.inl rfl) d3).setCell (p := ⟨b, 4, none⟩) (.inl rfl) d4).setCell (p := ⟨b, 5, none⟩) (.inl rfl) d5
/-- The head of a block is read as it was written. -/
theorem hdr_read {b : BlkT} {l m : List UInt8} {h : Nat} (hl : l = hdrB b ++ m) (hb : hdrOk b = true) (hh : b.height = (h : Int)) :
    uintR l 18446744069414584320 (0, false) = (b.parent, (8, false)) ∧ intR l 1048576 (8, false) = (h, (12, false)) ∧ uintR l 18446744069414584320 (12, false) = (b.miner, (20, false)) ∧
      uintR l 65536 (20, false) = (b.work, (28, false)) ∧ uintR l 18446744073709551615 (28, false) = (b.nonce, (36, false)) ∧ intR l 64 (36, false) = (b.txs.length, (40, false)) := by
  unfold hdrOk at hb
  simp only [Bool.and_eq_true, decide_eq_true_eq] at hb
  obtain ⟨⟨⟨⟨⟨⟨h1, h2⟩, h3⟩, h4⟩, h5⟩, h6⟩, h7⟩ := hb
  have hlen : 40 ≤ l.length := by rw [hl, List.length_append, hdrB_length]; omega
  have e0 : l.drop 0 = leB 8 b.parent ++ (lenB (h : Int) ++ (leB 8 b.miner ++ (leB 8 b.work ++ (leB 8 b.nonce ++ (lenB b.txs.length ++ m))))) := by
    rw [List.drop_zero, hl, hdrB, hh]
    simp only [List.append_assoc]
  have e1 := drop_leB e0
  have e2 := drop_leB (n := 4) (x := lenU (h : Int)) (by rw [← lenB_U]; exact e1)
  have e3 := drop_leB e2
  have e4 := drop_leB e3
  have e5 := drop_leB e4
  rw [lt_big_iff] at h5 h6
  refine ⟨uintR_leB e0 (by omega) ?_, intR_lenB e1 (by omega) (by omega) (by omega), uintR_leB e2 (by omega) ?_, uintR_leB e3 (by omega) ?_, uintR_leB e4 (by omega) ?_, intR_lenB e5 (by omega) (by omega) h7⟩
  · show b.parent.toNat ≤ 18446744069414584320; omega
  · show b.miner.toNat ≤ 18446744069414584320; omega
  · show b.work.toNat ≤ 65536; omega
  · show b.nonce.toNat ≤ 18446744073709551615; have := b.nonce.toNat_lt; omega
set_option maxRecDepth 100000 in
set_option maxHeartbeats 3200000 in
theorem blkDecode0_any (v : Value) (b : BlkT) (w : World) (h : RdB' w v (blkB b)) (hb : b.txs = []) (hv : blkV b = 0) :
    Calls Try.prog 15 #[v] w fun e w' => e = .returned (.tuple #[blkVal b (.slice none 0 0), .int .i64 0]) ∧ Ext w w' := by
  obtain ⟨hH, -⟩ := blkV_parts hv
  obtain ⟨hn, hhn⟩ : ∃ n : Nat, b.height = (n : Int) := ⟨b.height.toNat, by unfold hdrOk at hH; simp only [Bool.and_eq_true, decide_eq_true_eq] at hH; omega⟩
  obtain ⟨l, hl⟩ : ∃ l, l = blkB b := ⟨_, rfl⟩
  have hl2 : l = hdrB b ++ [] := by rw [hl, blkB, hb]; rfl
  have hlen : l.length = 40 := by rw [hl2, List.append_nil, hdrB_length]
  obtain ⟨r1, r2, r3, r4, r5, r6⟩ := hdr_read hl2 hH hhn
  rw [hb] at r6
  have VAL : Hid (∀ u, Calls Try.prog 22 #[blkVal b (.slice none 0 0)] u fun e w' => e = .returned (.int .i64 0) ∧ Ext u w') := hid fun u => by
    have := blkValid_any b (.slice none 0 0) u ⟨[], by rw [hb]; rfl, by rw [hb]; exact (RdC.nil u).weak, by simp⟩ ⟨by rw [hb]; simp, by rw [hb]; simp⟩
    rwa [hv] at this
  rw [← hl] at h
  obtain ⟨par, hei, min, wor, non, txs⟩ := b
  simp only at hhn hb r1 r2 r3 r4 r5 r6
  subst hhn hb
  have R1 : Hid (∀ u g x, Rdr u g x l (0, false) → Calls Try.prog 35 #[.pointer (some ⟨g, 0, none⟩), .int .u64 18446744069414584320] u (UintO u g x l (par, (8, false)))) := hid fun u g x k => by
    rw [← r1]; exact rdUint_any g x l _ 18446744069414584320 u k
  have R2 : Hid (∀ u g x, Rdr u g x l (8, false) → Calls Try.prog 36 #[.pointer (some ⟨g, 0, none⟩), .int .i64 1048576] u (IntO u g x l (hn, (12, false)))) := hid fun u g x k => by
    rw [← r2]; exact rdInt_any g x l _ 1048576 u k
  have R3 : Hid (∀ u g x, Rdr u g x l (12, false) → Calls Try.prog 35 #[.pointer (some ⟨g, 0, none⟩), .int .u64 18446744069414584320] u (UintO u g x l (min, (20, false)))) := hid fun u g x k => by
    rw [← r3]; exact rdUint_any g x l _ 18446744069414584320 u k
  have R4 : Hid (∀ u g x, Rdr u g x l (20, false) → Calls Try.prog 35 #[.pointer (some ⟨g, 0, none⟩), .int .u64 65536] u (UintO u g x l (wor, (28, false)))) := hid fun u g x k => by
    rw [← r4]; exact rdUint_any g x l _ 65536 u k
  have R5 : Hid (∀ u g x, Rdr u g x l (28, false) → Calls Try.prog 35 #[.pointer (some ⟨g, 0, none⟩), .int .u64 18446744073709551615] u (UintO u g x l (non, (36, false)))) := hid fun u g x k => by
    rw [← r5]; exact rdUint_any g x l _ 18446744073709551615 u k
  have R6 : Hid (∀ u g x, Rdr u g x l (36, false) → Calls Try.prog 36 #[.pointer (some ⟨g, 0, none⟩), .int .i64 64] u (IntO u g x l (0, (40, false)))) := hid fun u g x k => by
    rw [← show intR l 64 (36, false) = (0, (40, false)) from r6]; exact rdInt_any g x l _ 64 u k
  have R7 : Hid (∀ u g x, Rdr u g x l (40, false) → Calls Try.prog 39 #[.pointer (some ⟨g, 0, none⟩)] u fun e w' => e = .returned (.bool true) ∧ Ext u w') := hid fun u g x k => by
    have := rdDone_any g x l (40, false) u k
    rwa [show (!(40, false).2 && decide ((40, false).1 = l.length)) = true by simp [hlen]] at this
  have HNR : Hid (∀ u, Ext w u → Calls Try.prog 34 #[v] u (NewR u l)) := hid fun u k => newReader_any v l u (h.ext k) (by omega)
  have HLL := hid hlen
  clear r1 r2 r3 r4 r5 r6 hl hl2 hlen hH hv
  obtain ⟨a, c, rfl, -⟩ := h.shape
  clear h
  obtain ⟨N, hN⟩ : ∃ N, N = w.heap.size := ⟨_, rfl⟩
  obtain ⟨w0, hw0⟩ : ∃ w0, w0 = w.alloc (.cells #[.int .u64 0, .int .i64 0, .int .u64 0, .int .u64 0, .int .u64 0, .slice none 0 0] 25) := ⟨_, rfl⟩
  have hx0 : Ext w w0 := by rw [hw0]; exact (Ext.refl w).alloc _
  have hb0 : w0.heap[N]? = some (.cells #[.int .u64 0, .int .i64 0, .int .u64 0, .int .u64 0, .int .u64 0, .slice none 0 0] 25 (0, 0)) := by rw [hw0, hN]; exact heap_new _ _
  have hN0 : N < w0.heap.size := heap_lt hb0
  have HB0 := hid hb0
  have HX0 := hid hx0
  have HWW := hid hw0
  clear hw0 hx0 hb0
  go_enter Try.func15, Try.ntmps15
  go_upto_region 1 with fail
  rw [← hN]
  rw [← HWW.out]
  have HN := hid hN
  clear hN
  go_wp2_with fail
  refine (HNR.out _ HX0.out).mono ?_
  intro e w1 hq
  obtain ⟨g, x, rfl, q1, q2, q3, -⟩ := NewR.rdr (by have := HLL.out; omega) hq
  have HNG : Hid (N < g) := hid (by omega)
  have Q1 := hid q1
  have E1 := hid q2
  have HG : Hid (w0.heap.size ≤ g) := hid q3
  clear hq q1 q2 q3 HNR
  go_wp2_with fail
  refine (R1.out _ _ _ Q1.out).mono ?_
  rintro e w2 ⟨rfl, q1, k1⟩
  have Q2 := hid q1
  have K2 := hid k1
  clear q1 k1 R1
  go_wp2_with fail
  refine (R2.out _ _ _ Q2.out).mono ?_
  rintro e w3 ⟨rfl, q1, k1⟩
  have Q3 := hid q1
  have K3 := hid (K2.out.trans k1)
  clear q1 k1 R2
  go_wp2_with fail
  refine (R3.out _ _ _ Q3.out).mono ?_
  rintro e w4 ⟨rfl, q1, k1⟩
  have Q4 := hid q1
  have K4 := hid (K3.out.trans k1)
  clear q1 k1 R3
  go_wp2_with fail
  refine (R4.out _ _ _ Q4.out).mono ?_
  rintro e w5 ⟨rfl, q1, k1⟩
  have Q5 := hid q1
  have K5 := hid (K4.out.trans k1)
  clear q1 k1 R4
  go_wp2_with fail
  refine (R5.out _ _ _ Q5.out).mono ?_
  rintro e w6 ⟨rfl, q1, k1⟩
  have Q6 := hid q1
  have K6 := hid (K5.out.trans k1)
  clear q1 k1 R5 Q1 Q2 Q3 Q4 Q5 K2 K3 K4 K5
  go_upto_region 3 with fail
  obtain ⟨B, hB⟩ : ∃ B, B = w6.heap.size := ⟨_, rfl⟩
  obtain ⟨w7, hw7⟩ : ∃ w7, w7 = w6.alloc (.cells #[uv par, .int .i64 (hn : Int), uv min, uv wor, uv non, .slice none 0 0] 25) := ⟨_, rfl⟩
  rw [← hw7, ← hB]
  have hx7 : Ext w6 w7 := by rw [hw7]; exact (Ext.refl _).alloc _
  have hb7 : w7.heap[B]? = some (.cells #[uv par, .int .i64 (hn : Int), uv min, uv wor, uv non, .slice none 0 0] 25 (0, 0)) := by rw [hw7, hB]; exact heap_new _ _
  have HBG : Hid (B ≠ g) := hid (by have := Q6.out.lt; omega)
  have HNB : Hid (N < B) := hid (by have := K6.out.size; have := E1.out.size; have := heap_lt HB0.out; omega)
  have HB7 := hid hb7
  have Q7 := hid (Q6.out.ext hx7)
  have K7 := hid (K6.out.ext hx7)
  clear hw7 hB hx7 hb7 Q6 K6 HWW
  go_wp2_with fail
  refine (R6.out _ _ _ Q7.out).mono ?_
  rintro e w8 ⟨rfl, q1, k1⟩
  have Q8 := hid q1
  have K8 := hid (K7.out.trans k1)
  have HB8 := hid (k1.heap_some HBG.out HB7.out)
  clear q1 k1 R6 Q7 K7 HB7
  go_wp2_with fail
  go_loopw [26] (fun iv wr => iv = .int .i64 0 ∧ wr = w8) (fun _ _ => 0)
  case atStart => exact ⟨rfl, rfl⟩
  case round =>
    obtain ⟨rfl, rfl⟩ := hrel
    go_wp2_with fail
    refine (R7.out _ _ _ Q8.out).mono ?_
    rintro e w9 ⟨rfl, hx9⟩
    have HX9 := hid hx9
    obtain ⟨c0, c1, c2, c3, c4, c5⟩ := six_cellsB (hx9.heap_some HB8.out)
    clear hx9
    go_wp2_with fail
    refine (VAL.out _).mono ?_
    rintro e w10 ⟨rfl, hx10⟩
    have HX10 := hid (HX9.out.trans hx10)
    clear hx10 c0 c1 c2 c3 c4 c5
    obtain ⟨c0, c1, c2, c3, c4, c5⟩ := six_cellsB (HX10.out.heap_some HB8.out)
    have K10 := hid (K8.out.ext HX10.out)
    have hbN : w10.heap[N]? = some (.cells #[.int .u64 0, .int .i64 0, .int .u64 0, .int .u64 0, .int .u64 0, .slice none 0 0] 25 (0, 0)) := K10.out.heap_some (by have := HNG.out; omega) (E1.out.heap_some HB0.out)
    have HBN := hid hbN
    obtain ⟨d0, d1, d2, d3, d4, d5⟩ := six_cellsB hbN
    have fz := frozen_of hbN
    clear hbN
    go_wp2_with fail
    have HP0 := six_setB (d0 := uv par) (d1 := .int .i64 (hn : Int)) (d2 := uv min) (d3 := uv wor) (d4 := uv non) (d5 := .slice none 0 0) HBN.out
    change ((((((w10.setCell ⟨N, 0, none⟩ (uv par)).setCell ⟨N, 1, none⟩ (.int .i64 (hn : Int))).setCell ⟨N, 2, none⟩ (uv min)).setCell ⟨N, 3, none⟩ (uv wor)).setCell ⟨N, 4, none⟩ (uv non)).setCell ⟨N, 5, none⟩ (.slice none 0 0)).heap[N]? = _ ∧ Kp _ _ ((((((w10.setCell ⟨N, 0, none⟩ (uv par)).setCell ⟨N, 1, none⟩ (.int .i64 (hn : Int))).setCell ⟨N, 2, none⟩ (uv min)).setCell ⟨N, 3, none⟩ (uv wor)).setCell ⟨N, 4, none⟩ (uv non)).setCell ⟨N, 5, none⟩ (.slice none 0 0)) at HP0
    generalize ((((((w10.setCell ⟨N, 0, none⟩ (uv par)).setCell ⟨N, 1, none⟩ (.int .i64 (hn : Int))).setCell ⟨N, 2, none⟩ (uv min)).setCell ⟨N, 3, none⟩ (uv wor)).setCell ⟨N, 4, none⟩ (uv non)).setCell ⟨N, 5, none⟩ (.slice none 0 0)) = w11 at *
    obtain ⟨r0, r1, r2, r3, r4, r5⟩ := six_cellsB HP0.1
    refine bodyPost_ret (v := .tuple #[.agg #[uv par, .int .i64 (hn : Int), uv min, uv wor, uv non, .slice none 0 0], .int .i64 0]) (by simp [results, Try.results15, go_sem, r0, r1, r2, r3, r4, r5]) rfl ⟨rfl, ?_⟩
    refine (HX0.out.trans E1.out).kp (F := fun k => k = N ∨ k = g) ?_ ?_
    · exact (K10.out.mono fun k _ e => .inr e).trans (HP0.2.mono fun k _ e => .inl e)
    · rintro k (e | e)
      · rw [e, HN.out]; exact Nat.le_refl _
      · rw [e]; have := HG.out; have := HX0.out.size; omega
end Go.Proofs.Ytkdnnekdldomeaa
