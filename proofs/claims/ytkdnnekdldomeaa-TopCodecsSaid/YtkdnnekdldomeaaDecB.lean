/- block.Decode. (Written by wip/tools/gen_decb.py.) -/
import Derived.Test.YtkdnnekdldomeaaDecTx
import Derived.Test.YtkdnnekdldomeaaBlkRd
import Derived.Test.YtkdnnekdldomeaaDec0
set_option linter.unusedSimpArgs false
namespace Go.Proofs.Ytkdnnekdldomeaa
open Go.RowKit
attribute [local irreducible] perm fAdd fMul fPow fSub fNeg fRed hashU
theorem Try.infoTx : (Try.prog.info? 39).map (fun i => (i.zero, i.size, i.bytes)) = some (some (.agg #[.int .u64 0, .slice none 0 0, .slice none 0 0, .int .u64 0, .int .u64 0, .int .u64 0, .int .u64 0, .int .u64 0, .int .i64 0, .slice none 0 0]), 10, 128) := by kernel_rfl
/-- The call's own boxes: the result, the block, the reader. -/
structure TB (w u : World) (N P g : Nat) (x : Value) (cs : Array Value) : Prop where
  ext : Ext w u
  box : u.heap[P]? = some (.cells cs 25 (0, 0))
  res : u.heap[N]? = some (.cells #[.int .u64 0, .int .i64 0, .int .u64 0, .int .u64 0, .int .u64 0, .slice none 0 0] 25 (0, 0))
  pg : P ≠ g
  ng : N ≠ g
  np : N ≠ P
  xb : ∀ k, blk x = some k → k ≠ P ∧ k ≠ N ∧ k ≠ g ∧ w.heap.size ≤ k
  n0 : w.heap.size ≤ N
  p0 : w.heap.size ≤ P
  g0 : w.heap.size ≤ g
theorem TB.kp {F : Nat → Prop} {w u u' : World} {N P g : Nat} {x : Value} {cs : Array Value} (h : TB w u N P g x cs) (k : Kp F u u') (hF : ∀ i, i < u.heap.size → F i → i ≠ P ∧ i ≠ N ∧ w.heap.size ≤ i) : TB w u' N P g x cs := by
  have hp := heap_lt h.box
  have hn := heap_lt h.res
  exact { h with
    ext := h.ext.kp (k.mono (G := fun i => F i ∧ i < u.heap.size) fun i hi hf => ⟨hf, hi⟩) (fun i hi => (hF i hi.2 hi.1).2.2)
    box := k.heap_some (fun hf => (hF P hp hf).1 rfl) h.box
    res := k.heap_some (fun hf => (hF N hn hf).2.1 rfl) h.res }
theorem TB.call {w u u' : World} {N P g : Nat} {x : Value} {cs : Array Value} (h : TB w u N P g x cs) (k : Kp (fun k => k = g) u u') : TB w u' N P g x cs :=
  h.kp k fun i _ e => by subst e; exact ⟨h.pg.symm, h.ng.symm, h.g0⟩
theorem TB.put {w u : World} {N P g : Nat} {x : Value} {cs cs' : Array Value} (h : TB w u N P g x cs) (k : Nat) (v : Value) (hc : cs.setIfInBounds k v = cs') : TB w (u.setCell ⟨P, k, none⟩ v) N P g x cs' := by
  subst hc
  exact { h with
    ext := h.ext.setCell (p := ⟨P, k, none⟩) h.p0 v
    box := heap_setCell_same h.box k v
    res := by rw [heap_setCell_ne h.np]; exact h.res }
theorem TB.rdr {w u : World} {N P g : Nat} {x : Value} {cs : Array Value} {l : List UInt8} {s : Nat × Bool} (h : TB w u N P g x cs) (r : Rdr u g x l s) (k : Nat) (v : Value) : Rdr (u.setCell ⟨P, k, none⟩ v) g x l s :=
  r.kp (kpP P u k v) (fun e => h.pg e.symm) (fun b hb e => (h.xb b hb).1 e)
structure BS (w u : World) (N P g : Nat) (x : Value) (l : List UInt8) (par : UInt64) (hei : Nat) (min wor non : UInt64) (n i : Nat) (X : List TxM) (tv : Value) (s : Nat × Bool) : Prop where
  ts : TB w u N P g x #[uv par, .int .i64 (hei : Int), uv min, uv wor, uv non, tv]
  rr : Rdr u g x l s
  own : u.ownsRow 0 39 10 tv X.length (X.flatMap txCells)
  el : ∀ z ∈ X, Sta (AT w.heap.size g P N tv) u fun u => RdT u z.1 z.2.1 z.2.2.1 z.2.2.2
  ob : ∀ k, blk tv = some k → w.heap.size ≤ k ∧ k ≠ g ∧ k ≠ P ∧ k ≠ N ∧ blk x ≠ some k
  bi : BI l par hei min wor non n i (X.map (·.1)) s
  xl : X.length = i
/-- The next transaction appended. -/
theorem BS.next {w wr u4 w6 w7 : World} {N P g m0 : Nat} {x : Value} {l : List UInt8} {par : UInt64} {hei : Nat} {min wor non : UInt64} {n i : Nat} {X : List TxM} {tv tv' : Value} {s s4 : Nat × Bool} {t : TxT} {mv ov pv : Value}
    (h : BS w wr N P g x l par hei min wor non n i X tv s) (k4 : Kp (fun i => i = g) wr u4) (r4 : Rdr u4 g x l s4) (st : Sta (fun i => i < m0) u4 fun u => RdT u t mv ov pv) (hm : wr.heap.size ≤ m0)
    (k6 : Ext u4 w6) (k7 : Kp (fun k => some k = blk tv) w6 w7) (hb : blk tv' = blk tv ∨ blk tv' = some w6.heap.size) (h46 : u4.heap.size ≤ w6.heap.size)
    (own : w7.ownsRow 0 39 10 tv' (X.length + 1) (X.flatMap txCells ++ txCells (t, mv, ov, pv))) (hbi : BI l par hei min wor non n (i + 1) (X.map (·.1) ++ [t]) s4) :
    BS w (w7.setCell ⟨P, 5, none⟩ tv') N P g x l par hei min wor non n (i + 1) (X ++ [(t, mv, ov, pv)]) tv' s4 := by
  have hP := heap_lt h.ts.box
  have hN := heap_lt h.ts.res
  have hg := h.rr.lt
  have sz4 := k4.size
  have hov : ∀ k, blk tv = some k → k < wr.heap.size := fun k hk => ownsRow_lt h.own hk
  have hov' : ∀ k, blk tv' = some k → blk tv = some k ∨ k = w6.heap.size := fun k hk => by
    rcases hb with e | e
    · exact .inl (e ▸ hk)
    · rw [e] at hk; exact .inr (Option.some.inj hk).symm
  have k47 : Kp (fun i => blk tv = some i) u4 w7 := (Kp.of_ext k6).trans (k7.mono fun _ _ e => e.symm)
  have k47P : Kp (fun i => blk tv = some i ∨ i = P) u4 (w7.setCell ⟨P, 5, none⟩ tv') := (k47.mono fun _ _ e => .inl e).trans ((kpP P w7 5 tv').mono fun _ _ e => .inr e)
  have kr : Kp (fun i => i = g ∨ blk tv = some i ∨ i = P) wr (w7.setCell ⟨P, 5, none⟩ tv') := (k4.mono fun _ _ e => .inl e).trans (k47P.mono fun _ _ e => .inr e)
  have goA : ∀ C : World → Prop, Sta (AT w.heap.size g P N tv) wr C → Sta (AT w.heap.size g P N tv') (w7.setCell ⟨P, 5, none⟩ tv') C := fun C hC => hC.go kr (fun j hj e => by
      rcases e with e | e | e
      · exact .inr (.inl e)
      · exact .inr (.inr (.inr (.inr e)))
      · exact .inr (.inr (.inl e))) (fun j hj e => by
      rcases e with e | e | e | e | e
      · exact .inl e
      · exact .inr (.inl e)
      · exact .inr (.inr (.inl e))
      · exact .inr (.inr (.inr (.inl e)))
      · rcases hov' j e with e | e
        · exact .inr (.inr (.inr (.inr e)))
        · omega)
  have t7 : TB w w7 N P g x #[uv par, .int .i64 (hei : Int), uv min, uv wor, uv non, tv] := h.ts.kp (F := fun i => i = g ∨ blk tv = some i) ((k4.mono fun _ _ e => .inl e).trans (k47.mono fun _ _ e => .inr e)) (fun j hj e => by
    rcases e with e | e
    · subst e; exact ⟨h.ts.pg.symm, h.ts.ng.symm, h.ts.g0⟩
    · have := h.ob j e; exact ⟨this.2.2.1, this.2.2.2.1, this.1⟩)
  have r7 : Rdr w7 g x l s4 := r4.kp k47 (fun e => (h.ob g e).2.1 rfl) (fun b hb' e => (h.ob b e).2.2.2.2 hb')
  refine ⟨t7.put 5 tv' rfl, t7.rdr r7 5 tv', ?_, fun z hz => ?_, fun k hk => ?_, ?_, by rw [List.length_append, h.xl]; rfl⟩
  · rw [List.length_append, List.flatMap_append]
    have := ownsRow_kp own (kpP P w7 5 tv') (fun k hk e => by
      rcases hov' k hk with e' | e'
      · exact (h.ob k e').2.2.1 e
      · omega)
    simpa using this
  · rw [List.mem_append, List.mem_singleton] at hz
    rcases hz with hz | rfl
    · exact goA _ (h.el z hz)
    · have h0 := h.ts.n0
      refine st.go k47P (fun j hj e => ?_) (fun j hj e => ?_)
      · rcases e with e | e
        · have := hov j e; omega
        · omega
      · rcases e with e | e | e | e | e
        · omega
        · omega
        · omega
        · omega
        · rcases hov' j e with e | e
          · have := hov j e; omega
          · omega
  · rcases hov' k hk with e | e
    · exact h.ob k e
    · have h0 := h.ts.n0
      refine ⟨by omega, by omega, by omega, by omega, fun e' => ?_⟩
      have := ownsRow_lt h.rr.own e'
      omega
  · rw [List.map_append]
    exact hbi
/-- Decoded: a valid block whose bytes they are; or there is none. -/
def DecBO (w : World) (l : List UInt8) (e : Ending) (w' : World) : Prop :=
  (∃ (b : BlkT) (tv : Value), e = .returned (.tuple #[blkVal b tv, .int .i64 0]) ∧ Ext w w' ∧ Sta (fun i => i < w.heap.size) w' (fun u => RdTs u tv b.txs) ∧ BSm b ∧ blkV b = 0 ∧ blkB b = l ∧ ∀ y, blkV y = 0 → blkB y = l → b = y) ∨
    (e = .returned (.tuple #[.agg #[.int .u64 0, .int .i64 0, .int .u64 0, .int .u64 0, .int .u64 0, .slice none 0 0], .int .i64 2]) ∧ Ext w w' ∧ ∀ y, blkV y = 0 → blkB y ≠ l)
set_option maxRecDepth 100000 in
set_option maxHeartbeats 12800000 in
theorem blkDecode_any (v : Value) (l : List UInt8) (w : World) (h : RdB' w v l) (hL : l.length ≤ 10000) :
    Calls Try.prog 15 #[v] w (DecBO w l) := by
  have HNR : Hid (∀ u, Ext w u → Calls Try.prog 34 #[v] u (NewR u l)) := hid fun u k => newReader_any v l u (h.ext k) (by omega)
  have UB : Hid (∀ u g x s, Rdr u g x l s → Calls Try.prog 35 #[.pointer (some ⟨g, 0, none⟩), .int .u64 18446744069414584320] u (URel u g x l s 18446744069414584320)) := hid fun u g x s k => rdUint_rel g x l s 18446744069414584320 u k
  have UW : Hid (∀ u g x s, Rdr u g x l s → Calls Try.prog 35 #[.pointer (some ⟨g, 0, none⟩), .int .u64 65536] u (URel u g x l s 65536)) := hid fun u g x s k => rdUint_rel g x l s 65536 u k
  have UN : Hid (∀ u g x s, Rdr u g x l s → Calls Try.prog 35 #[.pointer (some ⟨g, 0, none⟩), .int .u64 18446744073709551615] u (URel u g x l s 18446744073709551615)) := hid fun u g x s k => rdUint_rel g x l s 18446744073709551615 u k
  have IH : Hid (∀ u g x s, Rdr u g x l s → Calls Try.prog 36 #[.pointer (some ⟨g, 0, none⟩), .int .i64 1048576] u (IRel u g x l s 1048576)) := hid fun u g x s k => rdInt_rel g x l s 1048576 u k (by omega)
  have IT : Hid (∀ u g x s, Rdr u g x l s → Calls Try.prog 36 #[.pointer (some ⟨g, 0, none⟩), .int .i64 64] u (IRel u g x l s 64)) := hid fun u g x s k => rdInt_rel g x l s 64 u k (by omega)
  have BY : Hid (∀ u g x s, Rdr u g x l s → Calls Try.prog 37 #[.pointer (some ⟨g, 0, none⟩), .int .i64 2097152] u (BytesO u g x l s 2097152)) := hid fun u g x s k => rdBytes_any g x l s 2097152 u k (by omega)
  have FA : Hid (∀ u g x s, Rdr u g x l s → Calls Try.prog 38 #[.pointer (some ⟨g, 0, none⟩)] u fun e w' => e = .returned (.bool s.2) ∧ Ext u w') := hid fun u g x s k => rdFailed_any g x s.1 s.2 u k.box
  have DO : Hid (∀ u g x s, Rdr u g x l s → Calls Try.prog 39 #[.pointer (some ⟨g, 0, none⟩)] u fun e w' => e = .returned (.bool (!s.2 && decide (s.1 = l.length))) ∧ Ext u w') := hid fun u g x s k => rdDone_any g x l s u k
  have DT : Hid (∀ u y c, RdB' u y c → c.length ≤ 10000 → Calls Try.prog 17 #[y] u (DecTO u c)) := hid fun u y c hy hc => txDecode_any y c u hy (by omega)
  have HLL := hid hL
  obtain ⟨va, vc, rfl, -⟩ := h.shape
  clear h hL
  obtain ⟨j0, hj, hjz0, hjz1, hjz2⟩ := info_parts Try.infoTx
  have HJ := hid (And.intro hj (And.intro hjz0 (And.intro hjz1 hjz2)))
  clear hj hjz0 hjz1 hjz2
  obtain ⟨N, hN⟩ : ∃ N, N = w.heap.size := ⟨_, rfl⟩
  obtain ⟨w0, hw0⟩ : ∃ w0, w0 = w.alloc (.cells #[.int .u64 0, .int .i64 0, .int .u64 0, .int .u64 0, .int .u64 0, .slice none 0 0] 25) := ⟨_, rfl⟩
  have hx0 : Ext w w0 := by rw [hw0]; exact (Ext.refl w).alloc _
  have hb0 : w0.heap[N]? = some (.cells #[.int .u64 0, .int .i64 0, .int .u64 0, .int .u64 0, .int .u64 0, .slice none 0 0] 25 (0, 0)) := by rw [hw0, hN]; exact heap_new _ _
  have HB0 := hid hb0
  have HX0 := hid hx0
  have HWW := hid hw0
  clear hw0 hx0 hb0
  go_enter Try.func15, Try.ntmps15
  go_upto_region 1 with fail
  rw [← hN]
  rw [← HWW.out]
  have HN := hid hN
  clear hN
  go_wp2_with fail
  refine (HNR.out _ HX0.out).mono ?_
  intro e w1 hq
  obtain ⟨g, x, rfl, q1, q2, q3, q4⟩ := NewR.rdr (by have := HLL.out; omega) hq
  have hN0 := heap_lt HB0.out
  have Q1 := hid q1
  have E1 := hid q2
  have NG : Hid (w.heap.size ≤ N ∧ N < g ∧ ∀ k, blk x = some k → N < k) := hid ⟨by have := HN.out; omega, by omega, fun k hk => by have := q4 k hk; omega⟩
  have RX : Hid (w1.heap[N]? = some (.cells #[.int .u64 0, .int .i64 0, .int .u64 0, .int .u64 0, .int .u64 0, .slice none 0 0] 25 (0, 0)) ∧ Ext w w1) := hid ⟨q2.heap_some HB0.out, HX0.out.trans q2⟩
  clear hq q1 q2 q3 q4 HNR hN0 HB0 HX0 HWW E1 HN
  have K1 : Hid (Kp (fun i => i = g) w1 w1) := hid (Kp.refl _ _)
  go_wp2_with fail
  refine (UB.out _ _ _ _ Q1.out).mono ?_
  rintro e w2 ⟨par, s1, rfl, q1, k1, q5⟩
  have Q2 := hid q1
  have K2 := hid (K1.out.trans k1)
  have D1 := hid q5
  clear q1 k1 q5 Q1 K1
  go_wp2_with fail
  refine (IH.out _ _ _ _ Q2.out).mono ?_
  rintro e w3 ⟨hei, s2, rfl, q1, k1, -, q5⟩
  have Q3 := hid q1
  have K3 := hid (K2.out.trans k1)
  have D2 := hid q5
  clear q1 k1 q5 Q2 K2
  go_wp2_with fail
  refine (UB.out _ _ _ _ Q3.out).mono ?_
  rintro e w4 ⟨min, s3, rfl, q1, k1, q5⟩
  have Q4 := hid q1
  have K4 := hid (K3.out.trans k1)
  have D3 := hid q5
  clear q1 k1 q5 Q3 K3
  go_wp2_with fail
  refine (UW.out _ _ _ _ Q4.out).mono ?_
  rintro e w5 ⟨wor, s4, rfl, q1, k1, q5⟩
  have Q5 := hid q1
  have K5 := hid (K4.out.trans k1)
  have D4 := hid q5
  clear q1 k1 q5 Q4 K4
  go_wp2_with fail
  refine (UN.out _ _ _ _ Q5.out).mono ?_
  rintro e w6 ⟨non, s5, rfl, q1, k1, q5⟩
  have Q6 := hid q1
  have K6 := hid (K5.out.trans k1)
  have D5 := hid q5
  clear q1 k1 q5 Q5 K5
  go_upto_region 3 with fail
  obtain ⟨P, hP⟩ : ∃ P, P = w6.heap.size := ⟨_, rfl⟩
  obtain ⟨w7, hw7⟩ : ∃ w7, w7 = w6.alloc (.cells #[uv par, .int .i64 (hei : Int), uv min, uv wor, uv non, .slice none 0 0] 25) := ⟨_, rfl⟩
  rw [← hw7, ← hP]
  have hx7 : Ext w6 w7 := by rw [hw7]; exact (Ext.refl _).alloc _
  have hb7 : w7.heap[P]? = some (.cells #[uv par, .int .i64 (hei : Int), uv min, uv wor, uv non, .slice none 0 0] 25 (0, 0)) := by rw [hw7, hP]; exact heap_new _ _
  have T7 : Hid (TB w w7 N P g x #[uv par, .int .i64 (hei : Int), uv min, uv wor, uv non, .slice none 0 0]) := hid (by
    have hg := Q6.out.lt
    have h1 := K6.out.size
    have h2 := heap_lt RX.out.1
    have h3 := NG.out.1
    have h4 := NG.out.2.1
    have h5 := RX.out.2.size
    refine ⟨(RX.out.2.kp K6.out (fun k e => by omega)).trans hx7, hb7, hx7.heap_some (K6.out.heap_some (by omega) RX.out.1), by omega, by omega, by omega, fun k hk => ?_, by omega, by omega, by omega⟩
    have h6 := ownsRow_lt Q6.out.own hk
    have h7 := NG.out.2.2 k hk
    have h8 := Q6.out.ne k hk
    exact ⟨by omega, by omega, h8, by omega⟩)
  have Q7 := hid (Q6.out.ext hx7)
  clear hw7 hP hx7 hb7 Q6 K6 NG RX
  go_wp2_with fail
  refine (IT.out _ _ _ _ Q7.out).mono ?_
  rintro e w8 ⟨n, s6, rfl, q1, k1, hn, D6⟩
  have B8 : Hid (BS w w8 N P g x l par hei min wor non n 0 [] (.slice none 0 0) s6) := hid
    ⟨T7.out.call k1, q1, World.ownsRow_nil _ _ _ _, (fun z hz => by cases hz), (fun k hk => by cases hk), bi_start D1.out D2.out D3.out D4.out D5.out D6, rfl⟩
  have HNL := hid hn
  have hnI : (n : Int) ≤ 64 := by omega
  clear q1 k1 T7 Q7 hn D1 D2 D3 D4 D5 D6 UB UW UN IH IT
  go_wp2_with fail
  go_loopw [26] (fun iv wr => ∃ (i : Nat) (X : List TxM) (tv : Value) (s : Nat × Bool), i ≤ n ∧ iv = .int .i64 i ∧ Hid (BS w wr N P g x l par hei min wor non n i X tv s)) (fun iv _ => n - (intOf iv).toNat)
  case atStart => exact ⟨0, [], _, s6, by omega, rfl, B8⟩
  case round =>
    obtain ⟨i, X, tv, s, hi, rfl, HBS⟩ := hrel
    clear B8
    have hi0 : (0 : Int) ≤ (i : Int) := Int.natCast_nonneg _
    by_cases hlti : i < n
    · have hltI : decide ((i : Int) < (n : Int)) = true := by simp; omega
      have hiI : (i : Int) < (n : Int) := by omega
      have HIL := hid hlti
      obtain ⟨sa, sc, rfl, -⟩ := ownsRow_rd HBS.out.own
      obtain ⟨c0, c1, c2, c3, c4, c5⟩ := six_cellsB HBS.out.ts.box
      go_wp2_with fail
      refine (BY.out _ _ _ _ HBS.out.rr).mono ?_
      rintro e u1 ⟨y, c, s', rfl, q1, k1, q2, q3, q4, q5⟩
      obtain ⟨ya, yc, rfl, -⟩ := q2.shape
      have R1 := hid q1
      have K1 := hid k1
      have Y1 := hid q2
      have D1 := hid q5
      have T1 := hid (HBS.out.ts.call k1)
      clear q1 q2 q3 q4 q5 k1 c0 c1 c2 c3 c4 c5
      go_wp2_with fail
      refine (FA.out _ _ _ _ R1.out).mono ?_
      rintro e u2 ⟨rfl, hx2⟩
      have X2 := hid hx2
      clear hx2
      generalize hF : s'.2 = Fl
      have HF := hid hF
      clear hF
      cases Fl with
      | true =>
        have hbN : u2.heap[N]? = some (.cells #[.int .u64 0, .int .i64 0, .int .u64 0, .int .u64 0, .int .u64 0, .slice none 0 0] 25 (0, 0)) := X2.out.heap_some T1.out.res
        obtain ⟨d0, d1, d2, d3, d4, d5⟩ := six_cellsB hbN
        have fz := frozen_of hbN
        have HBN := hid hbN
        clear hbN
        go_wp2_with fail
        have HP0 := six_setB (d0 := .int .u64 0) (d1 := .int .i64 0) (d2 := .int .u64 0) (d3 := .int .u64 0) (d4 := .int .u64 0) (d5 := .slice none 0 0) HBN.out
        unfold setSixB at HP0
        generalize ((((((u2.setCell ⟨N, 0, none⟩ (.int .u64 0)).setCell ⟨N, 1, none⟩ (.int .i64 0)).setCell ⟨N, 2, none⟩ (.int .u64 0)).setCell ⟨N, 3, none⟩ (.int .u64 0)).setCell ⟨N, 4, none⟩ (.int .u64 0)).setCell ⟨N, 5, none⟩ (.slice none 0 0)) = w11 at *
        obtain ⟨r0, r1, r2, r3, r4, r5⟩ := six_cellsB HP0.1
        have hXT : Ext w w11 := (T1.out.ext.trans X2.out).kp HP0.2 (fun k e => e ▸ T1.out.n0)
        refine bodyPost_ret (v := .tuple #[.agg #[.int .u64 0, .int .i64 0, .int .u64 0, .int .u64 0, .int .u64 0, .slice none 0 0], .int .i64 2]) (by simp [results, Try.results15, go_sem, r0, r1, r2, r3, r4, r5]) rfl (.inr ⟨rfl, hXT, HBS.out.bi.bad1 HIL.out D1.out HF.out⟩)
      | false =>
        go_wp2_with fail
        refine (DT.out _ _ _ (Y1.out.ext X2.out) (BI.len HLL.out D1.out HF.out)).mono ?_
        intro e u3 hq
        rcases hq with ⟨t, mv, ov, pv, rfl, hx3, hst, ht1, ht2, ht3⟩ | ⟨rfl, hx3, hno⟩
        · obtain ⟨ma, mc, oa, oc, pa, pc, rfl, rfl, rfl⟩ := hst.now.shape
          have X3 := hid (X2.out.trans hx3)
          have R3 := hid (R1.out.ext X3.out)
          have T3 := hid (T1.out.kp (F := fun _ => False) (.of_ext X3.out) (fun _ _ e => e.elim))
          have ST := hid hst
          have HTB := hid (HBS.out.bi.next HIL.out HLL.out D1.out HF.out ht1 ht2 ht3)
          clear hx3 hst ht1 ht2 ht3
          have hc5 : (u3.alloc (.cells #[uv t.anchor, .slice ma t.marks.length mc, .slice oa t.outs.length oc, uv t.deposit, uv t.withdraw, uv t.fee, uv t.account, uv t.nonce, .int .i64 t.expiry, .slice pa t.proof.length pc] 39)).heap[u3.heap.size]? = some (.cells #[uv t.anchor, .slice ma t.marks.length mc, .slice oa t.outs.length oc, uv t.deposit, uv t.withdraw, uv t.fee, uv t.account, uv t.nonce, .int .i64 t.expiry, .slice pa t.proof.length pc] 39 (0, 0)) := heap_new _ _
          have hcP : (u3.alloc (.cells #[uv t.anchor, .slice ma t.marks.length mc, .slice oa t.outs.length oc, uv t.deposit, uv t.withdraw, uv t.fee, uv t.account, uv t.nonce, .int .i64 t.expiry, .slice pa t.proof.length pc] 39)).heap[P]? = some (.cells #[uv par, .int .i64 (hei : Int), uv min, uv wor, uv non, .slice sa X.length sc] 25 (0, 0)) := heap_alloc_some T3.out.box
          go_upto_region 10 with fail
          have hx4 : Ext u3 (u3.alloc (.cells #[uv t.anchor, .slice ma t.marks.length mc, .slice oa t.outs.length oc, uv t.deposit, uv t.withdraw, uv t.fee, uv t.account, uv t.nonce, .int .i64 t.expiry, .slice pa t.proof.length pc] 39)) := (Ext.refl _).alloc _
          obtain ⟨Q, hQ⟩ : ∃ Q, Q = u3.heap.size := ⟨_, rfl⟩
          rw [← hQ] at hc5 ⊢
          generalize u3.alloc (.cells #[uv t.anchor, .slice ma t.marks.length mc, .slice oa t.outs.length oc, uv t.deposit, uv t.withdraw, uv t.fee, uv t.account, uv t.nonce, .int .i64 t.expiry, .slice pa t.proof.length pc] 39) = u4 at *
          have X4 := hid (X3.out.trans hx4)
          have R4 := hid (R3.out.ext hx4)
          have ST4 : Hid (Sta (fun i => i < u2.heap.size) u4 (fun u => RdT u t (.slice ma t.marks.length mc) (.slice oa t.outs.length oc) (.slice pa t.proof.length pc))) := hid (ST.out.go (.of_ext hx4 (F := fun _ => False)) (fun _ _ e => e.elim) (fun _ _ e => e))
          have S2 := hid X2.out.size
          clear hx4 hQ R3 ST
          obtain ⟨d0, d1, d2, d3, d4, d5, d6, d7, d8, d9⟩ := ten_cells hc5
          obtain ⟨c0, c1, c2, c3, c4, c5⟩ := six_cellsB hcP
          have HP4 := hid hcP
          clear hc5 hcP
          have K4 : Hid (Kp (fun i => i = g) wr u4) := hid (K1.out.ext X4.out)
          have O6 := ownsRow_ext (ownsRow_kp HBS.out.own K4.out (fun k hk e => (HBS.out.ob k hk).2.1 e)) ((Ext.refl u4).alloc (.cells #[uv t.anchor, .slice ma t.marks.length mc, .slice oa t.outs.length oc, uv t.deposit, uv t.withdraw, uv t.fee, uv t.account, uv t.nonce, .int .i64 t.expiry, .slice pa t.proof.length pc] 39))
          have hrd : RdC' (u4.alloc (.cells #[uv t.anchor, .slice ma t.marks.length mc, .slice oa t.outs.length oc, uv t.deposit, uv t.withdraw, uv t.fee, uv t.account, uv t.nonce, .int .i64 t.expiry, .slice pa t.proof.length pc] 39)) (.slice (some ⟨u4.heap.size, 0, none⟩) 1 1) 1 [uv t.anchor, .slice ma t.marks.length mc, .slice oa t.outs.length oc, uv t.deposit, uv t.withdraw, uv t.fee, uv t.account, uv t.nonce, .int .i64 t.expiry, .slice pa t.proof.length pc] := (rdC_block (heap_new _ _) (by unfold maxLen; omega)).weak
          have hXl : X.length ≤ 64 := by have := HBS.out.xl; omega
          have HO6 := hid O6
          have HRD := hid hrd
          clear O6 hrd
          go_wp2_with (at_builtin; refine wpList_app' rfl _ _ 23 rfl 39 j0 (.agg #[.int .u64 0, .slice none 0 0, .slice none 0 0, .int .u64 0, .int .u64 0, .int .u64 0, .int .u64 0, .int .u64 0, .int .i64 0, .slice none 0 0]) 10 128 (by kernel_rfl) HJ.out.1 HJ.out.2.1 HJ.out.2.2.1 HJ.out.2.2.2 rfl (by decide) (.slice sa X.length sc) X.length (X.flatMap txCells) rfl HO6.out (.slice (some ⟨u4.heap.size, 0, none⟩) 1 1) 1 [uv t.anchor, .slice ma t.marks.length mc, .slice oa t.outs.length oc, uv t.deposit, uv t.withdraw, uv t.fee, uv t.account, uv t.nonce, .int .i64 t.expiry, .slice pa t.proof.length pc] rfl HRD.out rfl (by intro u hu; simp only [List.mem_cons, List.not_mem_nil, or_false] at hu; rcases hu with rfl | rfl | rfl | rfl | rfl | rfl | rfl | rfl | rfl | rfl <;> rfl) (by unfold maxLen; omega) (by omega) ?_)
          intro v7 w7 own7 hk7 hb7
          obtain ⟨sa7, sc7, rfl, -⟩ := ownsRow_rd own7
          have OWN7 := hid own7
          have HK7 := hid hk7
          have HB7 := hid hb7
          have hbP : w7.heap[P]? = some (.cells #[uv par, .int .i64 (hei : Int), uv min, uv wor, uv non, .slice sa X.length sc] 25 (0, 0)) := hk7.heap_some (fun e => (HBS.out.ob P e.symm).2.2.1 rfl) (heap_alloc_some HP4.out)
          clear own7 hk7 hb7 c0 c1 c2 c3 c4 c5 d0 d1 d2 d3 d4 d5 d6 d7 d8 d9
          obtain ⟨c0, c1, c2, c3, c4, c5⟩ := six_cellsB hbP
          have fz := frozen_of hbP
          clear hbP
          go_wp2_with fail
          go_roundw
          case rel =>
            refine ⟨i + 1, X ++ [(t, .slice ma t.marks.length mc, .slice oa t.outs.length oc, .slice pa t.proof.length pc)], _, s', by omega, by go_num, hid (BS.next (t := t) (mv := .slice ma t.marks.length mc) (ov := .slice oa t.outs.length oc) (pv := .slice pa t.proof.length pc) HBS.out K4.out R4.out ST4.out ?_ ((Ext.refl u4).alloc _) HK7.out (by rw [World.size_alloc]; exact HB7.out) (by rw [World.size_alloc]; omega) OWN7.out HTB.out)⟩
            have := K1.out.size
            have := S2.out
            omega
          case measure => simp [intOf]; omega
        · have X3 := hid (X2.out.trans hx3)
          clear hx3
          go_upto_region 10 with fail
          have hx4 : Ext u3 (u3.alloc (.cells #[.int .u64 0, .slice none 0 0, .slice none 0 0, .int .u64 0, .int .u64 0, .int .u64 0, .int .u64 0, .int .u64 0, .int .i64 0, .slice none 0 0] 39)) := (Ext.refl _).alloc _
          generalize u3.alloc (.cells #[.int .u64 0, .slice none 0 0, .slice none 0 0, .int .u64 0, .int .u64 0, .int .u64 0, .int .u64 0, .int .u64 0, .int .i64 0, .slice none 0 0] 39) = u4 at *
          have X4 := hid (X3.out.trans hx4)
          clear hx4
          have hbN : u4.heap[N]? = some (.cells #[.int .u64 0, .int .i64 0, .int .u64 0, .int .u64 0, .int .u64 0, .slice none 0 0] 25 (0, 0)) := X4.out.heap_some T1.out.res
          obtain ⟨d0, d1, d2, d3, d4, d5⟩ := six_cellsB hbN
          have fz := frozen_of hbN
          have HBN := hid hbN
          clear hbN
          go_wp2_with fail
          have HP0 := six_setB (d0 := .int .u64 0) (d1 := .int .i64 0) (d2 := .int .u64 0) (d3 := .int .u64 0) (d4 := .int .u64 0) (d5 := .slice none 0 0) HBN.out
          unfold setSixB at HP0
          generalize ((((((u4.setCell ⟨N, 0, none⟩ (.int .u64 0)).setCell ⟨N, 1, none⟩ (.int .i64 0)).setCell ⟨N, 2, none⟩ (.int .u64 0)).setCell ⟨N, 3, none⟩ (.int .u64 0)).setCell ⟨N, 4, none⟩ (.int .u64 0)).setCell ⟨N, 5, none⟩ (.slice none 0 0)) = w11 at *
          obtain ⟨r0, r1, r2, r3, r4, r5⟩ := six_cellsB HP0.1
          have hXT : Ext w w11 := (T1.out.ext.trans X4.out).kp HP0.2 (fun k e => e ▸ T1.out.n0)
          refine bodyPost_ret (v := .tuple #[.agg #[.int .u64 0, .int .i64 0, .int .u64 0, .int .u64 0, .int .u64 0, .slice none 0 0], .int .i64 2]) (by simp [results, Try.results15, go_sem, r0, r1, r2, r3, r4, r5]) rfl (.inr ⟨rfl, hXT, HBS.out.bi.bad2 HIL.out D1.out hno⟩)
    · have hie : i = n := by omega
      have hltI : decide ((i : Int) < (n : Int)) = false := by simp; omega
      obtain ⟨sa, sc, rfl, -⟩ := ownsRow_rd HBS.out.own
      obtain ⟨b, hb⟩ : ∃ b : BlkT, b = ⟨par, (hei : Int), min, wor, non, X.map (·.1)⟩ := ⟨_, rfl⟩
      have hbi : BI l par hei min wor non n n (X.map (·.1)) s := by
        have := HBS.out.bi
        rwa [hie] at this
      have hHP := hbi.done (by rw [List.length_map, HBS.out.xl]; exact hie) HBS.out.rr.le
      rw [← hb] at hHP
      have HP := hid hHP
      have HSM : Hid (BSm b) := hid (by
        rw [hb]
        refine ⟨?_, fun t ht => ⟨txSm_of (HBS.out.bi.v t ht).1, (HBS.out.bi.v t ht).2⟩⟩
        show (X.map (·.1)).length ≤ 100
        rw [List.length_map]
        have := HBS.out.xl
        have := HNL.out
        omega)
      have hST : ∀ v8, Kp (fun i => i = N ∨ wr.heap.size ≤ i) wr v8 → Sta (fun i => i < w.heap.size) v8 (fun u => RdTs u (.slice sa X.length sc) b.txs) := fun v8 k8 => by
        intro u ku
        have kU : Kp (fun i => i < w.heap.size ∨ i = N ∨ wr.heap.size ≤ i) wr u := (k8.mono fun _ _ e => .inr e).trans (ku.mono fun _ _ e => .inl e)
        have goA : ∀ C : World → Prop, Sta (AT w.heap.size g P N (.slice sa X.length sc)) wr C → C u := fun C h => (h.go (B := fun _ => False) kU (fun j hj e => by
          rcases e with e | e | e
          · exact .inl e
          · exact .inr (.inr (.inr (.inl e)))
          · omega) (fun _ _ e => e.elim)).now
        rw [hb]
        refine ⟨X, rfl, ?_, fun z hz => goA _ (HBS.out.el z hz)⟩
        show RdC' u (.slice sa X.length sc) (X.map (·.1)).length _
        rw [List.length_map]
        refine (ownsRow_rd (ownsRow_kp HBS.out.own kU fun k hk e => ?_)).weak
        have h1 := HBS.out.ob k hk
        have h2 := ownsRow_lt HBS.out.own hk
        rcases e with e | e | e
        · omega
        · exact h1.2.2.2.1 e
        · omega
      have HST := hid hST
      clear hST hHP hbi
      have VAL : Hid (∀ v8, Ext wr v8 → Calls Try.prog 22 #[.agg #[uv par, .int .i64 (hei : Int), uv min, uv wor, uv non, .slice sa X.length sc]] v8 fun e w' => e = .returned (.int .i64 (blkV b)) ∧ Ext v8 w') := hid fun v8 k8 => by
        have h := blkValid_any b (.slice sa X.length sc) v8 ((HST.out v8 (.of_ext k8)).now) HSM.out
        rw [hb] at h ⊢
        exact h
      have HT := hid hb
      obtain ⟨R, hR⟩ : ∃ R, R = blkV b := ⟨_, rfl⟩
      rw [← hR] at VAL
      have HR := hid hR
      have hSZ := hid HBS.out.ts
      have RDR := hid HBS.out.rr
      clear hb hR hie HBS BY FA DT HJ
      obtain ⟨c0, c1, c2, c3, c4, c5⟩ := six_cellsB hSZ.out.box
      go_wp2_with fail
      refine (DO.out _ _ _ _ RDR.out).mono ?_
      rintro e v8 ⟨rfl, hx8⟩
      have X8 := hid hx8
      clear hx8 DO c0 c1 c2 c3 c4 c5
      generalize hD : (!s.2 && decide (s.1 = l.length)) = D
      have HD := hid hD
      clear hD
      have hp : v8.heap[P]? = some (.cells #[uv par, .int .i64 (hei : Int), uv min, uv wor, uv non, .slice sa X.length sc] 25 (0, 0)) := X8.out.heap_some hSZ.out.box
      obtain ⟨c0, c1, c2, c3, c4, c5⟩ := six_cellsB hp
      clear hp
      cases D with
      | false =>
        have hbN : v8.heap[N]? = some (.cells #[.int .u64 0, .int .i64 0, .int .u64 0, .int .u64 0, .int .u64 0, .slice none 0 0] 25 (0, 0)) := X8.out.heap_some hSZ.out.res
        obtain ⟨d0, d1, d2, d3, d4, d5⟩ := six_cellsB hbN
        have fz := frozen_of hbN
        have HBN := hid hbN
        clear hbN
        go_wp2_with fail
        have HP0 := six_setB (d0 := .int .u64 0) (d1 := .int .i64 0) (d2 := .int .u64 0) (d3 := .int .u64 0) (d4 := .int .u64 0) (d5 := .slice none 0 0) HBN.out
        unfold setSixB at HP0
        generalize ((((((v8.setCell ⟨N, 0, none⟩ (.int .u64 0)).setCell ⟨N, 1, none⟩ (.int .i64 0)).setCell ⟨N, 2, none⟩ (.int .u64 0)).setCell ⟨N, 3, none⟩ (.int .u64 0)).setCell ⟨N, 4, none⟩ (.int .u64 0)).setCell ⟨N, 5, none⟩ (.slice none 0 0)) = w11 at *
        obtain ⟨r0, r1, r2, r3, r4, r5⟩ := six_cellsB HP0.1
        have hXT : Ext w w11 := (hSZ.out.ext.trans X8.out).kp HP0.2 (fun k e => e ▸ hSZ.out.n0)
        refine bodyPost_ret (v := .tuple #[.agg #[.int .u64 0, .int .i64 0, .int .u64 0, .int .u64 0, .int .u64 0, .slice none 0 0], .int .i64 2]) (by simp [results, Try.results15, go_sem, r0, r1, r2, r3, r4, r5]) rfl (.inr ⟨rfl, hXT, fun y hv hy => ?_⟩)
        have h := HP.out.2 y hv hy
        have hd := HD.out
        rw [h.2.1, h.2.2] at hd
        simp at hd
      | true =>
        go_wp2_with fail
        refine (VAL.out _ X8.out).mono ?_
        rintro e v9 ⟨rfl, hx9⟩
        have X9 := hid (X8.out.trans hx9)
        have hp : v9.heap[P]? = some (.cells #[uv par, .int .i64 (hei : Int), uv min, uv wor, uv non, .slice sa X.length sc] 25 (0, 0)) := X9.out.heap_some hSZ.out.box
        clear c0 c1 c2 c3 c4 c5 hx9
        obtain ⟨c0, c1, c2, c3, c4, c5⟩ := six_cellsB hp
        clear hp
        by_cases hRz : R = 0
        · subst hRz
          have hbN : v9.heap[N]? = some (.cells #[.int .u64 0, .int .i64 0, .int .u64 0, .int .u64 0, .int .u64 0, .slice none 0 0] 25 (0, 0)) := X9.out.heap_some hSZ.out.res
          obtain ⟨d0, d1, d2, d3, d4, d5⟩ := six_cellsB hbN
          have fz := frozen_of hbN
          have HBN := hid hbN
          clear hbN
          go_wp2_with fail
          have HP0 := six_setB (d0 := uv par) (d1 := .int .i64 (hei : Int)) (d2 := uv min) (d3 := uv wor) (d4 := uv non) (d5 := .slice sa X.length sc) HBN.out
          unfold setSixB at HP0
          generalize ((((((v9.setCell ⟨N, 0, none⟩ (uv par)).setCell ⟨N, 1, none⟩ (.int .i64 (hei : Int))).setCell ⟨N, 2, none⟩ (uv min)).setCell ⟨N, 3, none⟩ (uv wor)).setCell ⟨N, 4, none⟩ (uv non)).setCell ⟨N, 5, none⟩ (.slice sa X.length sc)) = w11 at *
          obtain ⟨r0, r1, r2, r3, r4, r5⟩ := six_cellsB HP0.1
          have hXT : Ext w w11 := (hSZ.out.ext.trans X9.out).kp HP0.2 (fun k e => e ▸ hSZ.out.n0)
          refine bodyPost_ret (v := .tuple #[.agg #[uv par, .int .i64 (hei : Int), uv min, uv wor, uv non, .slice sa X.length sc], .int .i64 0]) (by simp [results, Try.results15, go_sem, r0, r1, r2, r3, r4, r5]) rfl (.inl ⟨b, .slice sa X.length sc, by rw [HT.out], hXT, HST.out w11 (((Kp.of_ext X9.out).trans (HP0.2.mono fun _ _ e => .inl e))), HSM.out, HR.out.symm, ?_, fun y hv hy => (HP.out.2 y hv hy).1⟩)
          have hd := HD.out
          simp only [Bool.and_eq_true, Bool.not_eq_true', decide_eq_true_eq] at hd
          exact HP.out.1 hd.1 hd.2
        · have hRd : (R == 0) = false := by simpa using hRz
          have hRd2 : decide (R = 0) = false := by simpa using hRz
          have hbN : v9.heap[N]? = some (.cells #[.int .u64 0, .int .i64 0, .int .u64 0, .int .u64 0, .int .u64 0, .slice none 0 0] 25 (0, 0)) := X9.out.heap_some hSZ.out.res
          obtain ⟨d0, d1, d2, d3, d4, d5⟩ := six_cellsB hbN
          have fz := frozen_of hbN
          have HBN := hid hbN
          clear hbN
          go_wp2_with fail
          have HP0 := six_setB (d0 := .int .u64 0) (d1 := .int .i64 0) (d2 := .int .u64 0) (d3 := .int .u64 0) (d4 := .int .u64 0) (d5 := .slice none 0 0) HBN.out
          unfold setSixB at HP0
          generalize ((((((v9.setCell ⟨N, 0, none⟩ (.int .u64 0)).setCell ⟨N, 1, none⟩ (.int .i64 0)).setCell ⟨N, 2, none⟩ (.int .u64 0)).setCell ⟨N, 3, none⟩ (.int .u64 0)).setCell ⟨N, 4, none⟩ (.int .u64 0)).setCell ⟨N, 5, none⟩ (.slice none 0 0)) = w11 at *
          obtain ⟨r0, r1, r2, r3, r4, r5⟩ := six_cellsB HP0.1
          have hXT : Ext w w11 := (hSZ.out.ext.trans X9.out).kp HP0.2 (fun k e => e ▸ hSZ.out.n0)
          refine bodyPost_ret (v := .tuple #[.agg #[.int .u64 0, .int .i64 0, .int .u64 0, .int .u64 0, .int .u64 0, .slice none 0 0], .int .i64 2]) (by simp [results, Try.results15, go_sem, r0, r1, r2, r3, r4, r5]) rfl (.inr ⟨rfl, hXT, fun y hv hy => hRz ?_⟩)
          rw [HR.out, (HP.out.2 y hv hy).1]
          exact hv
end Go.Proofs.Ytkdnnekdldomeaa
