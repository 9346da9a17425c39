/- tx.Decode. (Written by wip/tools/gen_dectx.py.) -/
import Derived.Test.YtkdnnekdldomeaaTxRd
import Derived.Test.YtkdnnekdldomeaaTxOk
set_option linter.unusedSimpArgs false
namespace Go.Proofs.Ytkdnnekdldomeaa
open Go.RowKit
attribute [local irreducible] perm fAdd fMul fPow fSub fNeg fRed hashU
theorem Try.infoOut : (Try.prog.info? 64).map (fun i => (i.zero, i.size, i.bytes)) = some (some (.agg #[.int .u64 0, .int .u64 0, .int .u64 0, .slice none 0 0]), 4, 48) := by kernel_rfl
theorem rdC_block {w : World} {g n : Nat} {cs : Array Value} {T : TypeId} (h : w.heap[g]? = some (.cells cs T (0, 0))) (hn : n ≤ maxLen) : RdC w (.slice (some ⟨g, 0, none⟩) n n) n cs.toList := by
  refine ⟨_, n, rfl, Nat.le_refl _, hn, (fun h => by cases h), fun ad ha => ?_⟩
  obtain rfl := Option.some.inj ha
  refine ⟨rfl, fun j u hu => ?_⟩
  rw [cell_of h]
  simpa using hu
def URel (w : World) (g : Nat) (v : Value) (l : List UInt8) (s : Nat × Bool) (most : Nat) (e : Ending) (w' : World) : Prop :=
  ∃ (a : UInt64) (s' : Nat × Bool), e = .returned (uv a) ∧ Rdr w' g v l s' ∧ Kp (fun k => k = g) w w' ∧ Rd1 (leB 8) (fun x => x.toNat ≤ most) l s a s'
def IRel (w : World) (g : Nat) (v : Value) (l : List UInt8) (s : Nat × Bool) (most : Nat) (e : Ending) (w' : World) : Prop :=
  ∃ (n : Nat) (s' : Nat × Bool), e = .returned (.int .i64 (n : Int)) ∧ Rdr w' g v l s' ∧ Kp (fun k => k = g) w w' ∧ n ≤ most ∧ Rd1 (fun n : Nat => lenB (n : Int)) (fun n => n ≤ most) l s n s'
theorem rdUint_rel (g : Nat) (v : Value) (l : List UInt8) (s : Nat × Bool) (most : UInt64) (w : World) (h : Rdr w g v l s) :
    Calls Try.prog 35 #[.pointer (some ⟨g, 0, none⟩), .int .u64 (most.toNat : Int)] w (URel w g v l s most.toNat) :=
  (rdUint_any g v l s most w h).mono fun _ _ k => ⟨_, _, k.1, k.2.1, k.2.2, uintR_rd l most s h.le⟩
theorem rdInt_rel (g : Nat) (v : Value) (l : List UInt8) (s : Nat × Bool) (most : Nat) (w : World) (h : Rdr w g v l s) (hm : most ≤ 4294967295) :
    Calls Try.prog 36 #[.pointer (some ⟨g, 0, none⟩), .int .i64 (most : Int)] w (IRel w g v l s most) :=
  (rdInt_any g v l s most w h).mono fun _ _ k => ⟨_, _, k.1, k.2.1, k.2.2, intR_le l most s, intR_rd l most s h.le hm⟩
/-- The call's own boxes: the result, the transaction, the reader. -/
structure TS (w u : World) (N P g : Nat) (x : Value) (cs : Array Value) : Prop where
  ext : Ext w u
  box : u.heap[P]? = some (.cells cs 39 (0, 0))
  res : u.heap[N]? = some (.cells #[.int .u64 0, .slice none 0 0, .slice none 0 0, .int .u64 0, .int .u64 0, .int .u64 0, .int .u64 0, .int .u64 0, .int .i64 0, .slice none 0 0] 39 (0, 0))
  pg : P ≠ g
  ng : N ≠ g
  np : N ≠ P
  xb : ∀ k, blk x = some k → k ≠ P ∧ k ≠ N ∧ k ≠ g ∧ w.heap.size ≤ k
  n0 : w.heap.size ≤ N
  p0 : w.heap.size ≤ P
  g0 : w.heap.size ≤ g
theorem TS.kp {F : Nat → Prop} {w u u' : World} {N P g : Nat} {x : Value} {cs : Array Value} (h : TS w u N P g x cs) (k : Kp F u u') (hF : ∀ i, i < u.heap.size → F i → i ≠ P ∧ i ≠ N ∧ w.heap.size ≤ i) : TS w u' N P g x cs := by
  have hp := heap_lt h.box
  have hn := heap_lt h.res
  exact { h with
    ext := h.ext.kp (k.mono (G := fun i => F i ∧ i < u.heap.size) fun i hi hf => ⟨hf, hi⟩) (fun i hi => (hF i hi.2 hi.1).2.2)
    box := k.heap_some (fun hf => (hF P hp hf).1 rfl) h.box
    res := k.heap_some (fun hf => (hF N hn hf).2.1 rfl) h.res }
theorem TS.call {w u u' : World} {N P g : Nat} {x : Value} {cs : Array Value} (h : TS w u N P g x cs) (k : Kp (fun k => k = g) u u') : TS w u' N P g x cs :=
  h.kp k fun i _ e => by subst e; exact ⟨h.pg.symm, h.ng.symm, h.g0⟩
theorem TS.put {w u : World} {N P g : Nat} {x : Value} {cs cs' : Array Value} (h : TS w u N P g x cs) (k : Nat) (v : Value) (hc : cs.setIfInBounds k v = cs') : TS w (u.setCell ⟨P, k, none⟩ v) N P g x cs' := by
  subst hc
  exact { h with
    ext := h.ext.setCell (p := ⟨P, k, none⟩) h.p0 v
    box := heap_setCell_same h.box k v
    res := by rw [heap_setCell_ne h.np]; exact h.res }
theorem kpP (P : Nat) (u : World) (k : Nat) (v : Value) : Kp (fun i => i = P) u (u.setCell ⟨P, k, none⟩ v) := (Kp.refl (fun i => i = P) _).setCell (p := ⟨P, k, none⟩) (.inl rfl) v
theorem TS.rdr {w u : World} {N P g : Nat} {x : Value} {cs : Array Value} {l : List UInt8} {s : Nat × Bool} (h : TS w u N P g x cs) (r : Rdr u g x l s) (k : Nat) (v : Value) : Rdr (u.setCell ⟨P, k, none⟩ v) g x l s :=
  r.kp (kpP P u k v) (fun e => h.pg e.symm) (fun b hb e => (h.xb b hb).1 e)
/-- What may turn while the lists read so far stay. -/
def AT (n0 g P N : Nat) (ov : Value) (i : Nat) : Prop := i < n0 ∨ i = g ∨ i = P ∨ i = N ∨ blk ov = some i
abbrev CT (a : UInt64) (mv ov : Value) : Array Value := #[uv a, mv, ov, .int .u64 0, .int .u64 0, .int .u64 0, .int .u64 0, .int .u64 0, .int .i64 0, .slice none 0 0]
structure LS (w u : World) (N P g : Nat) (x : Value) (l : List UInt8) (a : UInt64) (mv : Value) (m : List UInt64) (s3 : Nat × Bool) (i : Nat) (X : List (OutT × Value)) (ov : Value) (s : Nat × Bool) : Prop where
  ts : TS w u N P g x (CT a mv ov)
  rr : Rdr u g x l s
  ms : Sta (AT w.heap.size g P N ov) u fun u => RdU' u mv m
  own : u.ownsRow 0 64 4 ov X.length (X.flatMap outCells)
  el : ∀ z ∈ X, Sta (AT w.heap.size g P N ov) u fun u => RdU' u z.2 z.1.cipher
  cl : ∀ z ∈ X, z.1.cipher.length ≤ 3
  ob : ∀ k, blk ov = some k → w.heap.size ≤ k ∧ k ≠ g ∧ k ≠ P ∧ k ≠ N ∧ blk x ≠ some k
  rd : Rd1 outsB (okOs i) l s3 (X.map (·.1)) s
  xl : X.length = i
theorem sta_new {A : Nat → Prop} {u : World} {y : Value} {c : List UInt64} (h : RdU' u y c) (hA : ∀ i, i < u.heap.size → blk y = some i → ¬ A i) : Sta A u fun u => RdU' u y c :=
  fun _ k => h.kp k fun b hb hlt => hA b hlt hb
theorem sta_newB {A : Nat → Prop} {u : World} {y : Value} {c : List UInt8} (h : RdB' u y c) (hA : ∀ i, i < u.heap.size → blk y = some i → ¬ A i) : Sta A u fun u => RdB' u y c :=
  fun _ k => h.kp k fun b hb hlt => hA b hlt hb
/-- The next output appended. (u4: behind the reading of its list; w6: behind the new row; w7: behind append.) -/
theorem LS.next {w wr u4 w6 w7 : World} {N P g : Nat} {x : Value} {l : List UInt8} {a : UInt64} {mv : Value} {m : List UInt64} {s3 : Nat × Bool} {i : Nat} {X : List (OutT × Value)} {ov ov' y : Value} {s s4 : Nat × Bool} {o : OutT}
    (h : LS w wr N P g x l a mv m s3 i X ov s) (k4 : Kp (fun i => i = g ∨ wr.heap.size ≤ i) wr u4) (r4 : Rdr u4 g x l s4) (hy : RdU' u4 y o.cipher) (yb : ∀ k, blk y = some k → wr.heap.size < k) (hc : o.cipher.length ≤ 3)
    (k6 : Kp (fun i => i = wr.heap.size) u4 w6) (k7 : Kp (fun k => some k = blk ov) w6 w7) (hb : blk ov' = blk ov ∨ blk ov' = some w6.heap.size) (hlt : wr.heap.size < u4.heap.size)
    (own : w7.ownsRow 0 64 4 ov' (X.length + 1) (X.flatMap outCells ++ outCells (o, y))) (hrd : Rd1 outB OkO l s o s4) :
    LS w (w7.setCell ⟨P, 2, none⟩ ov') N P g x l a mv m s3 (i + 1) (X ++ [(o, y)]) ov' s4 := by
  have hP := heap_lt h.ts.box
  have hN := heap_lt h.ts.res
  have hg := h.rr.lt
  have sz4 := k4.size
  have sz6 := k6.size
  have hov : ∀ k, blk ov = some k → k < wr.heap.size := fun k hk => ownsRow_lt h.own hk
  have hov' : ∀ k, blk ov' = some k → blk ov = some k ∨ k = w6.heap.size := fun k hk => by
    rcases hb with e | e
    · exact .inl (e ▸ hk)
    · rw [e] at hk; exact .inr (Option.some.inj hk).symm
  have k47 : Kp (fun i => i = wr.heap.size ∨ blk ov = some i) u4 w7 := (k6.mono fun _ _ e => .inl e).trans (k7.mono fun _ _ e => .inr e.symm)
  have k47P : Kp (fun i => i = wr.heap.size ∨ blk ov = some i ∨ i = P) u4 (w7.setCell ⟨P, 2, none⟩ ov') := (k47.mono fun _ _ e => by rcases e with e | e; exact .inl e; exact .inr (.inl e)).trans ((kpP P w7 2 ov').mono fun _ _ e => .inr (.inr e))
  have kr : Kp (fun i => i = g ∨ wr.heap.size ≤ i ∨ blk ov = some i ∨ i = P) wr (w7.setCell ⟨P, 2, none⟩ ov') := (k4.mono fun _ _ e => by rcases e with e | e; exact .inl e; exact .inr (.inl e)).trans (k47P.mono fun _ _ e => by
    rcases e with e | e | e
    · exact .inr (.inl (by omega))
    · exact .inr (.inr (.inl e))
    · exact .inr (.inr (.inr e)))
  have goA : ∀ C : World → Prop, Sta (AT w.heap.size g P N ov) wr C → Sta (AT w.heap.size g P N ov') (w7.setCell ⟨P, 2, none⟩ ov') C := fun C hC => hC.go kr (fun j hj e => by
      rcases e with e | e | e | e
      · exact .inr (.inl e)
      · omega
      · exact .inr (.inr (.inr (.inr e)))
      · exact .inr (.inr (.inl e))) (fun j hj e => by
      rcases e with e | e | e | e | e
      · exact .inl e
      · exact .inr (.inl e)
      · exact .inr (.inr (.inl e))
      · exact .inr (.inr (.inr (.inl e)))
      · rcases hov' j e with e | e
        · exact .inr (.inr (.inr (.inr e)))
        · omega)
  have t7 : TS w w7 N P g x (CT a mv ov) := h.ts.kp (F := fun i => i = g ∨ wr.heap.size ≤ i ∨ blk ov = some i) ((k4.mono fun _ _ e => by rcases e with e | e; exact .inl e; exact .inr (.inl e)).trans (k47.mono fun _ _ e => by
    rcases e with e | e
    · exact .inr (.inl (by omega))
    · exact .inr (.inr e))) (fun j hj e => by
    rcases e with e | e | e
    · subst e; exact ⟨h.ts.pg.symm, h.ts.ng.symm, h.ts.g0⟩
    · omega
    · have := h.ob j e; exact ⟨this.2.2.1, this.2.2.2.1, this.1⟩)
  have r7 : Rdr w7 g x l s4 := r4.kp k47 (fun e => by
    rcases e with e | e
    · omega
    · exact (h.ob g e).2.1 rfl) (fun b hb' e => by
    have hbx := ownsRow_lt h.rr.own hb'
    rcases e with e | e
    · omega
    · exact (h.ob b e).2.2.2.2 hb')
  refine ⟨t7.put 2 ov' rfl, t7.rdr r7 2 ov', goA _ h.ms, ?_, fun z hz => ?_, fun z hz => ?_, fun k hk => ?_, ?_, by rw [List.length_append, h.xl]; rfl⟩
  · rw [List.length_append, List.flatMap_append]
    have := ownsRow_kp own (kpP P w7 2 ov') (fun k hk e => by
      rcases hov' k hk with e' | e'
      · exact (h.ob k e').2.2.1 e
      · omega)
    simpa using this
  · rw [List.mem_append, List.mem_singleton] at hz
    rcases hz with hz | rfl
    · exact goA _ (h.el z hz)
    · refine Sta.go (A := fun i => i ≤ wr.heap.size ∨ u4.heap.size ≤ i) (sta_new hy fun j hj hb' e => ?_) k47P (fun j hj e => ?_) (fun j hj e => ?_)
      · have := yb j hb'; omega
      · rcases e with e | e | e
        · exact .inl (by omega)
        · have := hov j e; exact .inl (by omega)
        · exact .inl (by omega)
      · have h0 := h.ts.n0
        rcases e with e | e | e | e | e
        · exact .inl (by omega)
        · exact .inl (by omega)
        · exact .inl (by omega)
        · exact .inl (by omega)
        · rcases hov' j e with e | e
          · have := hov j e; exact .inl (by omega)
          · omega
  · rw [List.mem_append, List.mem_singleton] at hz
    rcases hz with hz | rfl
    · exact h.cl z hz
    · exact hc
  · rcases hov' k hk with e | e
    · exact h.ob k e
    · have h0 := h.ts.n0
      refine ⟨by omega, by omega, by omega, by omega, fun e' => ?_⟩
      have := ownsRow_lt h.rr.own e'
      omega
  · rw [List.map_append]
    exact outs_rd h.rd hrd
/-- Decoded: a valid transaction whose bytes they are; or there is none. -/
def DecTO (w : World) (l : List UInt8) (e : Ending) (w' : World) : Prop :=
  (∃ (t : TxT) (mv ov pv : Value), e = .returned (.tuple #[txVal t mv ov pv, .int .i64 0]) ∧ Ext w w' ∧ Sta (fun i => i < w.heap.size) w' (fun u => RdT u t mv ov pv) ∧ txV t = 0 ∧ txB t = l ∧ ∀ y, txV y = 0 → txB y = l → t = y) ∨
    (e = .returned (.tuple #[.agg #[.int .u64 0, .slice none 0 0, .slice none 0 0, .int .u64 0, .int .u64 0, .int .u64 0, .int .u64 0, .int .u64 0, .int .i64 0, .slice none 0 0], .int .i64 2]) ∧ Ext w w' ∧ ∀ y, txV y = 0 → txB y ≠ l)
def setTenT (w : World) (b : Nat) (d0 d1 d2 d3 d4 d5 d6 d7 d8 d9 : Value) : World :=
  (((((((((w.setCell ⟨b, 0, none⟩ d0).setCell ⟨b, 1, none⟩ d1).setCell ⟨b, 2, none⟩ d2).setCell ⟨b, 3, none⟩ d3).setCell ⟨b, 4, none⟩ d4).setCell ⟨b, 5, none⟩ d5).setCell ⟨b, 6, none⟩ d6).setCell ⟨b, 7, none⟩ d7).setCell ⟨b, 8, none⟩ d8).setCell ⟨b, 9, none⟩ d9
theorem ten_setT {w : World} {b : Nat} {c0 c1 c2 c3 c4 c5 c6 c7 c8 c9 d0 d1 d2 d3 d4 d5 d6 d7 d8 d9 : Value} {T : TypeId} (h : w.heap[b]? = some (.cells #[c0, c1, c2, c3, c4, c5, c6, c7, c8, c9] T (0, 0))) :
    (setTenT w b d0 d1 d2 d3 d4 d5 d6 d7 d8 d9).heap[b]? = some (.cells #[d0, d1, d2, d3, d4, d5, d6, d7, d8, d9] T (0, 0)) ∧ Kp (fun k => k = b) w (setTenT w b d0 d1 d2 d3 d4 d5 d6 d7 d8 d9) := by
  have h0 : (w.setCell ⟨b, 0, none⟩ d0).heap[b]? = some (.cells #[d0, c1, c2, c3, c4, c5, c6, c7, c8, c9] T (0, 0)) := heap_setCell_same h 0 d0
  have h1 : ((w.setCell ⟨b, 0, none⟩ d0).setCell ⟨b, 1, none⟩ d1).heap[b]? = some (.cells #[d0, d1, c2, c3, c4, c5, c6, c7, c8, c9] T (0, 0)) := heap_setCell_same h0 1 d1
  have h2 : (((w.setCell ⟨b, 0, none⟩ d0).setCell ⟨b, 1, none⟩ d1).setCell ⟨b, 2, none⟩ d2).heap[b]? = some (.cells #[d0, d1, d2, c3, c4, c5, c6, c7, c8, c9] T (0, 0)) := heap_setCell_same h1 2 d2
  have h3 : ((((w.setCell ⟨b, 0, none⟩ d0).setCell ⟨b, 1, none⟩ d1).setCell ⟨b, 2, none⟩ d2).setCell ⟨b, 3, none⟩ d3).heap[b]? = some (.cells #[d0, d1, d2, d3, c4, c5, c6, c7, c8, c9] T (0, 0)) := heap_setCell_same h2 3 d3
  have h4 : (((((w.setCell ⟨b, 0, none⟩ d0).setCell ⟨b, 1, none⟩ d1).setCell ⟨b, 2, none⟩ d2).setCell ⟨b, 3, none⟩ d3).setCell ⟨b, 4, none⟩ d4).heap[b]? = some (.cells #[d0, d1, d2, d3, d4, c5, c6, c7, c8, c9] T (0, 0)) := heap_setCell_same h3 4 d4
  have h5 : ((((((w.setCell ⟨b, 0, none⟩ d0).setCell ⟨b, 1, none⟩ d1).setCell ⟨b, 2, none⟩ d2).setCell ⟨b, 3, none⟩ d3).setCell ⟨b, 4, none⟩ d4).setCell ⟨b, 5, none⟩ d5).heap[b]? = some (.cells #[d0, d1, d2, d3, d4, d5, c6, c7, c8, c9] T (0, 0)) := heap_setCell_same h4 5 d5
  have h6 : (((((((w.setCell ⟨b, 0, none⟩ d0).setCell ⟨b, 1, none⟩ d1).setCell ⟨b, 2, none⟩ d2).setCell ⟨b, 3, none⟩ d3).setCell ⟨b, 4, none⟩ d4).setCell ⟨b, 5, none⟩ d5).setCell ⟨b, 6, none⟩ d6).heap[b]? = some (.cells #[d0, d1, d2, d3, d4, d5, d6, c7, c8, c9] T (0, 0)) := heap_setCell_same h5 6 d6
  have h7 : ((((((((w.setCell ⟨b, 0, none⟩ d0).setCell ⟨b, 1, none⟩ d1).setCell ⟨b, 2, none⟩ d2).setCell ⟨b, 3, none⟩ d3).setCell ⟨b, 4, none⟩ d4).setCell ⟨b, 5, none⟩ d5).setCell ⟨b, 6, none⟩ d6).setCell ⟨b, 7, none⟩ d7).heap[b]? = some (.cells #[d0, d1, d2, d3, d4, d5, d6, d7, c8, c9] T (0, 0)) := heap_setCell_same h6 7 d7
  have h8 : (((((((((w.setCell ⟨b, 0, none⟩ d0).setCell ⟨b, 1, none⟩ d1).setCell ⟨b, 2, none⟩ d2).setCell ⟨b, 3, none⟩ d3).setCell ⟨b, 4, none⟩ d4).setCell ⟨b, 5, none⟩ d5).setCell ⟨b, 6, none⟩ d6).setCell ⟨b, 7, none⟩ d7).setCell ⟨b, 8, none⟩ d8).heap[b]? = some (.cells #[d0, d1, d2, d3, d4, d5, d6, d7, d8, c9] T (0, 0)) := heap_setCell_same h7 8 d8
  have h9 : ((((((((((w.setCell ⟨b, 0, none⟩ d0).setCell ⟨b, 1, none⟩ d1).setCell ⟨b, 2, none⟩ d2).setCell ⟨b, 3, none⟩ d3).setCell ⟨b, 4, none⟩ d4).setCell ⟨b, 5, none⟩ d5).setCell ⟨b, 6, none⟩ d6).setCell ⟨b, 7, none⟩ d7).setCell ⟨b, 8, none⟩ d8).setCell ⟨b, 9, none⟩ d9).heap[b]? = some (.cells #[d0, d1, d2, d3, d4, d5, d6, d7, d8, d9] T (0, 0)) := heap_setCell_same h8 9 d9
  exact ⟨h9, (((((((((kpP b w 0 d0).trans (kpP b _ 1 d1)).trans (kpP b _ 2 d2)).trans (kpP b _ 3 d3)).trans (kpP b _ 4 d4)).trans (kpP b _ 5 d5)).trans (kpP b _ 6 d6)).trans (kpP b _ 7 d7)).trans (kpP b _ 8 d8)).trans (kpP b _ 9 d9)⟩
set_option maxRecDepth 100000 in
set_option maxHeartbeats 12800000 in
theorem txDecode_any (v : Value) (l : List UInt8) (w : World) (h : RdB' w v l) (hL : l.length ≤ 10000000000) :
    Calls Try.prog 17 #[v] w (DecTO w l) := by
  have HNR : Hid (∀ u, Ext w u → Calls Try.prog 34 #[v] u (NewR u l)) := hid fun u k => newReader_any v l u (h.ext k) hL
  have UB : Hid (∀ u g x s, Rdr u g x l s → Calls Try.prog 35 #[.pointer (some ⟨g, 0, none⟩), .int .u64 18446744069414584320] u (URel u g x l s 18446744069414584320)) := hid fun u g x s k => rdUint_rel g x l s 18446744069414584320 u k
  have UM : Hid (∀ u g x s, Rdr u g x l s → Calls Try.prog 35 #[.pointer (some ⟨g, 0, none⟩), .int .u64 4294967295] u (URel u g x l s 4294967295)) := hid fun u g x s k => rdUint_rel g x l s 4294967295 u k
  have I4 : Hid (∀ u g x s, Rdr u g x l s → Calls Try.prog 36 #[.pointer (some ⟨g, 0, none⟩), .int .i64 4] u (IRel u g x l s 4)) := hid fun u g x s k => rdInt_rel g x l s 4 u k (by omega)
  have IH : Hid (∀ u g x s, Rdr u g x l s → Calls Try.prog 36 #[.pointer (some ⟨g, 0, none⟩), .int .i64 1048576] u (IRel u g x l s 1048576)) := hid fun u g x s k => rdInt_rel g x l s 1048576 u k (by omega)
  have L4 : Hid (∀ u g x s, Rdr u g x l s → Calls Try.prog 42 #[.pointer (some ⟨g, 0, none⟩), .int .i64 4, .int .u64 18446744069414584321] u (ListO u g x l s 4)) := hid fun u g x s k => rdList_any g x l s 4 u k (by omega)
  have L3 : Hid (∀ u g x s, Rdr u g x l s → Calls Try.prog 42 #[.pointer (some ⟨g, 0, none⟩), .int .i64 3, .int .u64 18446744069414584321] u (ListO u g x l s 3)) := hid fun u g x s k => rdList_any g x l s 3 u k (by omega)
  have BY : Hid (∀ u g x s, Rdr u g x l s → Calls Try.prog 37 #[.pointer (some ⟨g, 0, none⟩), .int .i64 1048576] u (BytesO u g x l s 1048576)) := hid fun u g x s k => rdBytes_any g x l s 1048576 u k (by omega)
  have DO : Hid (∀ u g x s, Rdr u g x l s → Calls Try.prog 39 #[.pointer (some ⟨g, 0, none⟩)] u fun e w' => e = .returned (.bool (!s.2 && decide (s.1 = l.length))) ∧ Ext u w') := hid fun u g x s k => rdDone_any g x l s u k
  have HLL := hid hL
  obtain ⟨va, vc, rfl, -⟩ := h.shape
  clear h hL
  obtain ⟨j0, hj, hjz0, hjz1, hjz2⟩ := info_parts Try.infoOut
  have HJ := hid (And.intro hj (And.intro hjz0 (And.intro hjz1 hjz2)))
  clear hj hjz0 hjz1 hjz2
  obtain ⟨N, hN⟩ : ∃ N, N = w.heap.size := ⟨_, rfl⟩
  obtain ⟨w0, hw0⟩ : ∃ w0, w0 = w.alloc (.cells #[.int .u64 0, .slice none 0 0, .slice none 0 0, .int .u64 0, .int .u64 0, .int .u64 0, .int .u64 0, .int .u64 0, .int .i64 0, .slice none 0 0] 39) := ⟨_, rfl⟩
  have hx0 : Ext w w0 := by rw [hw0]; exact (Ext.refl w).alloc _
  have hb0 : w0.heap[N]? = some (.cells #[.int .u64 0, .slice none 0 0, .slice none 0 0, .int .u64 0, .int .u64 0, .int .u64 0, .int .u64 0, .int .u64 0, .int .i64 0, .slice none 0 0] 39 (0, 0)) := by rw [hw0, hN]; exact heap_new _ _
  have HB0 := hid hb0
  have HX0 := hid hx0
  have HWW := hid hw0
  clear hw0 hx0 hb0
  go_enter Try.func17, Try.ntmps17
  go_upto_region 1 with fail
  rw [← hN]
  rw [← HWW.out]
  have HN := hid hN
  clear hN
  go_wp2_with fail
  refine (HNR.out _ HX0.out).mono ?_
  intro e w1 hq
  obtain ⟨g, x, rfl, q1, q2, q3, q4⟩ := NewR.rdr HLL.out hq
  have hN0 := heap_lt HB0.out
  have Q1 := hid q1
  have E1 := hid q2
  have NG : Hid (N < g ∧ ∀ k, blk x = some k → N < k) := hid ⟨by omega, fun k hk => by have := q4 k hk; omega⟩
  clear hq q1 q2 q3 q4 HNR hN0
  go_upto_region 3 with fail
  obtain ⟨P, hP⟩ : ∃ P, P = w1.heap.size := ⟨_, rfl⟩
  obtain ⟨w2, hw2⟩ : ∃ w2, w2 = w1.alloc (.cells #[.int .u64 0, .slice none 0 0, .slice none 0 0, .int .u64 0, .int .u64 0, .int .u64 0, .int .u64 0, .int .u64 0, .int .i64 0, .slice none 0 0] 39) := ⟨_, rfl⟩
  rw [← hw2, ← hP]
  have hx2 : Ext w1 w2 := by rw [hw2]; exact (Ext.refl _).alloc _
  have hb2 : w2.heap[P]? = some (.cells #[.int .u64 0, .slice none 0 0, .slice none 0 0, .int .u64 0, .int .u64 0, .int .u64 0, .int .u64 0, .int .u64 0, .int .i64 0, .slice none 0 0] 39 (0, 0)) := by rw [hw2, hP]; exact heap_new _ _
  have T2 : Hid (TS w w2 N P g x #[.int .u64 0, .slice none 0 0, .slice none 0 0, .int .u64 0, .int .u64 0, .int .u64 0, .int .u64 0, .int .u64 0, .int .i64 0, .slice none 0 0]) := hid (by
    have hg := Q1.out.lt
    have h0 := HX0.out.size
    have h1 := E1.out.size
    have hn := HN.out
    have hn1 := heap_lt HB0.out
    refine ⟨(HX0.out.trans E1.out).trans hx2, hb2, hx2.heap_some (E1.out.heap_some HB0.out), by omega, by have := NG.out.1; omega, by omega, fun k hk => ?_, by omega, by omega, by have := NG.out.1; omega⟩
    have h3 := ownsRow_lt Q1.out.own hk
    have h4 := NG.out.2 k hk
    have h5 := Q1.out.ne k hk
    exact ⟨by omega, by omega, h5, by omega⟩)
  have R2 := hid (Q1.out.ext hx2)
  clear hw2 hP hx2 hb2 Q1 E1 NG HB0 HX0 HWW
  obtain ⟨c0, c1, c2, c3, c4, c5, c6, c7, c8, c9⟩ := ten_cells T2.out.box
  have fz := frozen_of T2.out.box
  go_wp2_with fail
  refine (UB.out _ _ _ _ R2.out).mono ?_
  rintro e w3 ⟨a, s1, rfl, q1, k1, D1⟩
  have R3c := hid q1
  have T3c := hid (T2.out.call k1)
  have D1 := hid D1
  clear q1 k1
  clear c0 c1 c2 c3 c4 c5 c6 c7 c8 c9 fz
  obtain ⟨c0, c1, c2, c3, c4, c5, c6, c7, c8, c9⟩ := ten_cells T3c.out.box
  have fz := frozen_of T3c.out.box
  go_upto_region 4 with fail
  have t := T3c.out.put 0 (uv a) (cs' := #[uv a, .slice none 0 0, .slice none 0 0, .int .u64 0, .int .u64 0, .int .u64 0, .int .u64 0, .int .u64 0, .int .i64 0, .slice none 0 0]) rfl
  have r := T3c.out.rdr R3c.out 0 (uv a)
  have kp := kpP P w3 0 (uv a)
  change TS _ (w3.setCell ⟨P, 0, none⟩ (uv a)) _ _ _ _ _ at t
  change TS _ (w3.setCell ⟨P, 0, none⟩ (.int .u64 (a.toNat : Int))) _ _ _ _ _ at t
  change Rdr (w3.setCell ⟨P, 0, none⟩ (.int .u64 (a.toNat : Int))) _ _ _ _ at r
  clear kp
  generalize w3.setCell ⟨P, 0, none⟩ (.int .u64 (a.toNat : Int)) = w4 at *
  have T4 := hid t
  have R4 := hid r
  clear t r R3c T3c R2 T2
  clear c0 c1 c2 c3 c4 c5 c6 c7 c8 c9 fz
  obtain ⟨c0, c1, c2, c3, c4, c5, c6, c7, c8, c9⟩ := ten_cells T4.out.box
  have fz := frozen_of T4.out.box
  go_wp2_with fail
  refine (L4.out _ _ _ _ R4.out).mono ?_
  rintro e w5 ⟨y, m, s2, rfl, q1, k1, q2, q3, q4, D2⟩
  obtain ⟨ma, mc, rfl, -⟩ := q2.shape
  have R5c := hid q1
  have T5c := hid (T4.out.call k1)
  have D2 := hid D2
  have M5 := hid q2
  have MB := hid q3
  have ML := hid q4
  have SZ := hid k1.size
  clear q1 k1 q2 q3 q4
  clear c0 c1 c2 c3 c4 c5 c6 c7 c8 c9 fz
  obtain ⟨c0, c1, c2, c3, c4, c5, c6, c7, c8, c9⟩ := ten_cells T5c.out.box
  have fz := frozen_of T5c.out.box
  go_upto_region 5 with fail
  have t := T5c.out.put 1 (.slice ma m.length mc) (cs' := #[uv a, .slice ma m.length mc, .slice none 0 0, .int .u64 0, .int .u64 0, .int .u64 0, .int .u64 0, .int .u64 0, .int .i64 0, .slice none 0 0]) rfl
  have r := T5c.out.rdr R5c.out 1 (.slice ma m.length mc)
  have kp := kpP P w5 1 (.slice ma m.length mc)
  change TS _ (w5.setCell ⟨P, 1, none⟩ (.slice ma m.length mc)) _ _ _ _ _ at t
  have MS : Hid (Sta (AT w.heap.size g P N (.slice none 0 0)) (w5.setCell ⟨P, 1, none⟩ (.slice ma m.length mc)) (fun u => RdU' u (.slice ma m.length mc) m)) := hid (by
    have h1 := heap_lt T4.out.box
    have h2 := heap_lt T4.out.res
    have h3 := R4.out.lt
    have h4 := T4.out.ext.size
    refine sta_new (M5.out.kp kp (fun b hb hlt e => ?_)) (fun j hj hb e => ?_)
    · have := MB.out b hb; omega
    · have := MB.out j hb
      rcases e with e | e | e | e | e
      · omega
      · omega
      · omega
      · omega
      · cases e)
  clear kp
  generalize w5.setCell ⟨P, 1, none⟩ (.slice ma m.length mc) = w6 at *
  have T6 := hid t
  have R6 := hid r
  clear t r R5c T5c R4 T4 M5 MB SZ
  clear c0 c1 c2 c3 c4 c5 c6 c7 c8 c9 fz
  go_wp2_with fail
  refine (I4.out _ _ _ _ R6.out).mono ?_
  rintro e w7 ⟨n, s3, rfl, q1, k1, hn, D3⟩
  have D3 := hid D3
  have L7 : Hid (LS w w7 N P g x l a (.slice ma m.length mc) m s3 0 [] (.slice none 0 0) s3) := hid
    ⟨T6.out.call k1, q1, MS.out.go k1 (fun _ _ e => .inr (.inl e)) (fun _ _ e => e), World.ownsRow_nil _ _ _ _, (fun z hz => by cases hz), (fun z hz => by cases hz), (fun k hk => by cases hk), outs_rd0 l s3, rfl⟩
  have HNL := hid hn
  have hnI : (n : Int) ≤ 4 := by omega
  clear q1 k1 T6 R6 MS hn
  go_wp2_with fail
  go_loopw [17] (fun iv wr => ∃ (i : Nat) (X : List (OutT × Value)) (ov : Value) (s : Nat × Bool), i ≤ n ∧ iv = .int .i64 i ∧ Hid (LS w wr N P g x l a (.slice ma m.length mc) m s3 i X ov s)) (fun iv _ => n - (intOf iv).toNat)
  case atStart => exact ⟨0, [], _, s3, by omega, rfl, L7⟩
  case round =>
    obtain ⟨i, X, ov, s, hi, rfl, HLS⟩ := hrel
    clear L7
    have hi0 : (0 : Int) ≤ (i : Int) := Int.natCast_nonneg _
    by_cases hlti : i < n
    · have hltI : decide ((i : Int) < (n : Int)) = true := by simp; omega
      have hiI : (i : Int) < (n : Int) := by omega
      go_upto_region 8 with fail
      obtain ⟨Q, hQ⟩ : ∃ Q, Q = wr.heap.size := ⟨_, rfl⟩
      obtain ⟨u0, hu0⟩ : ∃ u0, u0 = wr.alloc (.cells #[.int .u64 0, .int .u64 0, .int .u64 0, .slice none 0 0] 64) := ⟨_, rfl⟩
      rw [← hu0, ← hQ]
      have hx : Ext wr u0 := by rw [hu0]; exact (Ext.refl _).alloc _
      have hb : u0.heap[Q]? = some (.cells #[.int .u64 0, .int .u64 0, .int .u64 0, .slice none 0 0] 64 (0, 0)) := by rw [hu0, hQ]; exact heap_new _ _
      have QB0 := hid hb
      have QR0 := hid (HLS.out.rr.ext hx)
      have QK0 : Hid (Kp (fun i => i = g ∨ wr.heap.size ≤ i) wr u0) := hid (.of_ext hx)
      have QN : Hid (Q ≠ g ∧ ∀ k, blk x = some k → k ≠ Q) := hid ⟨by have := HLS.out.rr.lt; omega, fun k hk => by have := ownsRow_lt HLS.out.rr.own hk; omega⟩
      have QS : Hid (Q = wr.heap.size ∧ Q < u0.heap.size) := hid ⟨hQ, heap_lt hb⟩
      clear hu0 hQ hx hb
      obtain ⟨d0, d1, d2, d3⟩ := four_cellsO QB0.out
      have fz := frozen_of QB0.out
      go_wp2_with fail
      refine (UB.out _ _ _ _ QR0.out).mono ?_
      rintro e x0 ⟨oc, t1, rfl, q1, k1, q5⟩
      have E1 := hid q5
      have hb := k1.heap_some QN.out.1 QB0.out
      have QBc := hid hb
      have QRc := hid q1
      have QKc := hid (QK0.out.trans (k1.mono fun _ _ e => .inl e))
      clear d0 d1 d2 d3 fz q1 q5 k1
      obtain ⟨d0, d1, d2, d3⟩ := four_cellsO hb
      have fz := frozen_of hb
      clear hb
      go_upto_region 9 with fail
      have hb : (x0.setCell ⟨Q, 0, none⟩ (.int .u64 (oc.toNat : Int))).heap[Q]? = some (.cells #[uv oc, .int .u64 0, .int .u64 0, .slice none 0 0] 64 (0, 0)) := heap_setCell_same QBc.out 0 (uv oc)
      have kq : Kp (fun i => i = Q) x0 (x0.setCell ⟨Q, 0, none⟩ (.int .u64 (oc.toNat : Int))) := kpP Q x0 0 (uv oc)
      have hr := QRc.out.kp kq (fun e => QN.out.1 e.symm) (fun b hb e => QN.out.2 b hb e)
      have hk := QKc.out.trans (kq.mono (G := fun i => i = g ∨ wr.heap.size ≤ i) fun _ _ e => .inr (by have := QS.out.1; omega))
      generalize x0.setCell ⟨Q, 0, none⟩ (.int .u64 (oc.toNat : Int)) = u1 at *
      have QB1 := hid hb
      have QR1 := hid hr
      have QK1 := hid hk
      clear hb hr hk kq d0 d1 d2 d3 fz QBc QRc QKc QB0 QR0 QK0
      obtain ⟨d0, d1, d2, d3⟩ := four_cellsO QB1.out
      have fz := frozen_of QB1.out
      go_wp2_with fail
      refine (UB.out _ _ _ _ QR1.out).mono ?_
      rintro e x1 ⟨oa, t2, rfl, q1, k1, q5⟩
      have E2 := hid q5
      have hb := k1.heap_some QN.out.1 QB1.out
      have QBc := hid hb
      have QRc := hid q1
      have QKc := hid (QK1.out.trans (k1.mono fun _ _ e => .inl e))
      clear d0 d1 d2 d3 fz q1 q5 k1
      obtain ⟨d0, d1, d2, d3⟩ := four_cellsO hb
      have fz := frozen_of hb
      clear hb
      go_upto_region 10 with fail
      have hb : (x1.setCell ⟨Q, 1, none⟩ (.int .u64 (oa.toNat : Int))).heap[Q]? = some (.cells #[uv oc, uv oa, .int .u64 0, .slice none 0 0] 64 (0, 0)) := heap_setCell_same QBc.out 1 (uv oa)
      have kq : Kp (fun i => i = Q) x1 (x1.setCell ⟨Q, 1, none⟩ (.int .u64 (oa.toNat : Int))) := kpP Q x1 1 (uv oa)
      have hr := QRc.out.kp kq (fun e => QN.out.1 e.symm) (fun b hb e => QN.out.2 b hb e)
      have hk := QKc.out.trans (kq.mono (G := fun i => i = g ∨ wr.heap.size ≤ i) fun _ _ e => .inr (by have := QS.out.1; omega))
      generalize x1.setCell ⟨Q, 1, none⟩ (.int .u64 (oa.toNat : Int)) = u2 at *
      have QB2 := hid hb
      have QR2 := hid hr
      have QK2 := hid hk
      clear hb hr hk kq d0 d1 d2 d3 fz QBc QRc QKc QB1 QR1 QK1
      obtain ⟨d0, d1, d2, d3⟩ := four_cellsO QB2.out
      have fz := frozen_of QB2.out
      go_wp2_with fail
      refine (UB.out _ _ _ _ QR2.out).mono ?_
      rintro e x2 ⟨ob, t3, rfl, q1, k1, q5⟩
      have E3 := hid q5
      have hb := k1.heap_some QN.out.1 QB2.out
      have QBc := hid hb
      have QRc := hid q1
      have QKc := hid (QK2.out.trans (k1.mono fun _ _ e => .inl e))
      clear d0 d1 d2 d3 fz q1 q5 k1
      obtain ⟨d0, d1, d2, d3⟩ := four_cellsO hb
      have fz := frozen_of hb
      clear hb
      go_upto_region 11 with fail
      have hb : (x2.setCell ⟨Q, 2, none⟩ (.int .u64 (ob.toNat : Int))).heap[Q]? = some (.cells #[uv oc, uv oa, uv ob, .slice none 0 0] 64 (0, 0)) := heap_setCell_same QBc.out 2 (uv ob)
      have kq : Kp (fun i => i = Q) x2 (x2.setCell ⟨Q, 2, none⟩ (.int .u64 (ob.toNat : Int))) := kpP Q x2 2 (uv ob)
      have hr := QRc.out.kp kq (fun e => QN.out.1 e.symm) (fun b hb e => QN.out.2 b hb e)
      have hk := QKc.out.trans (kq.mono (G := fun i => i = g ∨ wr.heap.size ≤ i) fun _ _ e => .inr (by have := QS.out.1; omega))
      generalize x2.setCell ⟨Q, 2, none⟩ (.int .u64 (ob.toNat : Int)) = u3 at *
      have QB3 := hid hb
      have QR3 := hid hr
      have QK3 := hid hk
      clear hb hr hk kq d0 d1 d2 d3 fz QBc QRc QKc QB2 QR2 QK2
      obtain ⟨d0, d1, d2, d3⟩ := four_cellsO QB3.out
      have fz := frozen_of QB3.out
      go_wp2_with fail
      refine (L3.out _ _ _ _ QR3.out).mono ?_
      rintro e x3 ⟨y, ci, t4, rfl, q1, k1, q2, q3, q4, q5⟩
      obtain ⟨ya, yc, rfl, -⟩ := q2.shape
      have E4 := hid q5
      have Y1 := hid q2
      have YB := hid q3
      have YL := hid q4
      have YS : Hid (Q < u3.heap.size) := hid (heap_lt QB3.out)
      have YK := hid k1
      clear q2 q3 q4
      have hb := k1.heap_some QN.out.1 QB3.out
      have QBc := hid hb
      have QRc := hid q1
      have QKc := hid (QK3.out.trans (k1.mono fun _ _ e => .inl e))
      clear d0 d1 d2 d3 fz q1 q5 k1
      obtain ⟨d0, d1, d2, d3⟩ := four_cellsO hb
      have fz := frozen_of hb
      clear hb
      go_upto_region 12 with fail
      have hb : (x3.setCell ⟨Q, 3, none⟩ (.slice ya ci.length yc)).heap[Q]? = some (.cells #[uv oc, uv oa, uv ob, .slice ya ci.length yc] 64 (0, 0)) := heap_setCell_same QBc.out 3 (.slice ya ci.length yc)
      have kq : Kp (fun i => i = Q) x3 (x3.setCell ⟨Q, 3, none⟩ (.slice ya ci.length yc)) := kpP Q x3 3 (.slice ya ci.length yc)
      have hr := QRc.out.kp kq (fun e => QN.out.1 e.symm) (fun b hb e => QN.out.2 b hb e)
      have hk := QKc.out.trans (kq.mono (G := fun i => i = g ∨ wr.heap.size ≤ i) fun _ _ e => .inr (by have := QS.out.1; omega))
      generalize x3.setCell ⟨Q, 3, none⟩ (.slice ya ci.length yc) = u4 at *
      have QB4 := hid hb
      have QR4 := hid hr
      have QK4 := hid hk
      have KQ := hid kq
      clear hb hr hk kq d0 d1 d2 d3 fz QBc QRc QKc QB3 QR3 QK3
      obtain ⟨sa, sc, rfl, -⟩ := ownsRow_rd HLS.out.own
      have t4 : TS w u4 N P g x (CT a (.slice ma m.length mc) (.slice sa X.length sc)) := HLS.out.ts.kp QK4.out (fun j hj e => by
        rcases e with e | e
        · subst e; exact ⟨HLS.out.ts.pg.symm, HLS.out.ts.ng.symm, HLS.out.ts.g0⟩
        · omega)
      obtain ⟨d0, d1, d2, d3⟩ := four_cellsO QB4.out
      obtain ⟨c0, c1, c2, c3, c4, c5, c6, c7, c8, c9⟩ := ten_cells t4.box
      have O6 := ownsRow_ext (ownsRow_kp HLS.out.own QK4.out (fun k hk e => by
        rcases e with e | e
        · exact (HLS.out.ob k hk).2.1 e
        · have := ownsRow_lt HLS.out.own hk; omega)) ((Ext.refl u4).alloc (.cells #[uv oc, uv oa, uv ob, .slice ya ci.length yc] 64))
      have hrd : RdC' (u4.alloc (.cells #[uv oc, uv oa, uv ob, .slice ya ci.length yc] 64)) (.slice (some ⟨u4.heap.size, 0, none⟩) 1 1) 1 [uv oc, uv oa, uv ob, .slice ya ci.length yc] := (rdC_block (heap_new _ _) (by unfold maxLen; omega)).weak
      have hXl : X.length ≤ 10 := by have := HLS.out.xl; omega
      have T4' := hid t4
      have HO6 := hid O6
      have HRD := hid hrd
      clear t4 O6 hrd
      go_wp2_with (at_builtin; refine wpList_app' rfl _ _ 37 rfl 64 j0 (.agg #[.int .u64 0, .int .u64 0, .int .u64 0, .slice none 0 0]) 4 48 (by kernel_rfl) HJ.out.1 HJ.out.2.1 HJ.out.2.2.1 HJ.out.2.2.2 rfl (by decide) (.slice sa X.length sc) X.length (X.flatMap outCells) rfl HO6.out (.slice (some ⟨u4.heap.size, 0, none⟩) 1 1) 1 [uv oc, uv oa, uv ob, .slice ya ci.length yc] rfl HRD.out rfl (by intro u hu; simp only [List.mem_cons, List.not_mem_nil, or_false] at hu; rcases hu with rfl | rfl | rfl | rfl <;> rfl) (by unfold maxLen; omega) (by omega) ?_)
      intro v7 w7 own7 hk7 hb7
      obtain ⟨sa7, sc7, rfl, -⟩ := ownsRow_rd own7
      have OWN7 := hid own7
      have HK7 := hid hk7
      have HB7 := hid hb7
      have hbP : w7.heap[P]? = some (.cells (CT a (.slice ma m.length mc) (.slice sa X.length sc)) 39 (0, 0)) := hk7.heap_some (fun e => (HLS.out.ob P e.symm).2.2.1 rfl) (heap_alloc_some T4'.out.box)
      clear own7 hk7 hb7 d0 d1 d2 d3 c0 c1 c2 c3 c4 c5 c6 c7 c8 c9
      obtain ⟨c0, c1, c2, c3, c4, c5, c6, c7, c8, c9⟩ := ten_cells hbP
      have fz := frozen_of hbP
      clear hbP
      go_wp2_with fail
      go_roundw
      case rel =>
        refine ⟨i + 1, X ++ [(⟨oc, ⟨oa, ob⟩, ci⟩, .slice ya ci.length yc)], _, t4, by omega, by go_num, hid (LS.next HLS.out QK4.out QR4.out (o := ⟨oc, ⟨oa, ob⟩, ci⟩) ?_ ?_ YL.out ((Kp.refl _ u4).alloc _) HK7.out (by rw [World.size_alloc]; exact HB7.out) ?_ OWN7.out (out_rd E1.out E2.out E3.out E4.out))⟩
        · exact Y1.out.kp KQ.out (fun b hb hlt e => by have := YB.out b hb; have := YS.out; omega)
        · intro k hk
          have := YB.out k hk
          have := YS.out
          have := QS.out.1
          omega
        · have := heap_lt QB4.out
          have := QS.out.1
          omega
      case measure => simp [intOf]; omega
    · have hie : i = n := by omega
      have hltI : decide ((i : Int) < (n : Int)) = false := by simp; omega
      obtain ⟨sa, sc, rfl, -⟩ := ownsRow_rd HLS.out.own
      obtain ⟨v0, hv0⟩ : ∃ v0, v0 = wr := ⟨_, rfl⟩
      rw [← hv0]
      have hS0 : Hid (TS w v0 N P g x (CT a (.slice ma m.length mc) (.slice sa X.length sc)) ∧ Rdr v0 g x l s ∧ Kp (fun i => i = g ∨ i = P ∨ wr.heap.size ≤ i) wr v0) := hid (by rw [hv0]; exact ⟨HLS.out.ts, HLS.out.rr, Kp.refl _ _⟩)
      have HIE := hid hie
      clear hie
      have HV0 := hid hv0
      clear hv0
      obtain ⟨c0, c1, c2, c3, c4, c5, c6, c7, c8, c9⟩ := ten_cells hS0.out.1.box
      have fz := frozen_of hS0.out.1.box
      go_wp2_with fail
      refine (UM.out _ _ _ _ hS0.out.2.1).mono ?_
      rintro e x0 ⟨d, r1, rfl, q1, k1, q5⟩
      have D5 := hid q5
      have hC : Hid (TS w x0 N P g x _ ∧ Rdr x0 g x l r1 ∧ Kp (fun i => i = g ∨ i = P ∨ wr.heap.size ≤ i) wr x0) := hid ⟨hS0.out.1.call k1, q1, hS0.out.2.2.trans (k1.mono fun _ _ e => .inl e)⟩
      clear q1 k1 q5 c0 c1 c2 c3 c4 c5 c6 c7 c8 c9 fz
      obtain ⟨c0, c1, c2, c3, c4, c5, c6, c7, c8, c9⟩ := ten_cells hC.out.1.box
      have fz := frozen_of hC.out.1.box
      go_upto_region 15 with fail
      have t : TS w (x0.setCell ⟨P, 3, none⟩ (.int .u64 (d.toNat : Int))) N P g x #[uv a, .slice ma m.length mc, .slice sa X.length sc, uv d, .int .u64 0, .int .u64 0, .int .u64 0, .int .u64 0, .int .i64 0, .slice none 0 0] := hC.out.1.put 3 (uv d) rfl
      have r : Rdr (x0.setCell ⟨P, 3, none⟩ (.int .u64 (d.toNat : Int))) g x l r1 := hC.out.1.rdr hC.out.2.1 3 (uv d)
      have kp : Kp (fun i => i = P) x0 (x0.setCell ⟨P, 3, none⟩ (.int .u64 (d.toNat : Int))) := kpP P x0 3 (uv d)
      generalize x0.setCell ⟨P, 3, none⟩ (.int .u64 (d.toNat : Int)) = v1 at *
      have hS1 := hid (And.intro t (And.intro r (hC.out.2.2.trans (kp.mono (G := fun i => i = g ∨ i = P ∨ wr.heap.size ≤ i) fun _ _ e => .inr (.inl e)))))
      clear t r kp hC hS0 c0 c1 c2 c3 c4 c5 c6 c7 c8 c9 fz
      obtain ⟨c0, c1, c2, c3, c4, c5, c6, c7, c8, c9⟩ := ten_cells hS1.out.1.box
      have fz := frozen_of hS1.out.1.box
      go_wp2_with fail
      refine (UM.out _ _ _ _ hS1.out.2.1).mono ?_
      rintro e x1 ⟨wd, r2, rfl, q1, k1, q5⟩
      have D6 := hid q5
      have hC : Hid (TS w x1 N P g x _ ∧ Rdr x1 g x l r2 ∧ Kp (fun i => i = g ∨ i = P ∨ wr.heap.size ≤ i) wr x1) := hid ⟨hS1.out.1.call k1, q1, hS1.out.2.2.trans (k1.mono fun _ _ e => .inl e)⟩
      clear q1 k1 q5 c0 c1 c2 c3 c4 c5 c6 c7 c8 c9 fz
      obtain ⟨c0, c1, c2, c3, c4, c5, c6, c7, c8, c9⟩ := ten_cells hC.out.1.box
      have fz := frozen_of hC.out.1.box
      go_upto_region 16 with fail
      have t : TS w (x1.setCell ⟨P, 4, none⟩ (.int .u64 (wd.toNat : Int))) N P g x #[uv a, .slice ma m.length mc, .slice sa X.length sc, uv d, uv wd, .int .u64 0, .int .u64 0, .int .u64 0, .int .i64 0, .slice none 0 0] := hC.out.1.put 4 (uv wd) rfl
      have r : Rdr (x1.setCell ⟨P, 4, none⟩ (.int .u64 (wd.toNat : Int))) g x l r2 := hC.out.1.rdr hC.out.2.1 4 (uv wd)
      have kp : Kp (fun i => i = P) x1 (x1.setCell ⟨P, 4, none⟩ (.int .u64 (wd.toNat : Int))) := kpP P x1 4 (uv wd)
      generalize x1.setCell ⟨P, 4, none⟩ (.int .u64 (wd.toNat : Int)) = v2 at *
      have hS2 := hid (And.intro t (And.intro r (hC.out.2.2.trans (kp.mono (G := fun i => i = g ∨ i = P ∨ wr.heap.size ≤ i) fun _ _ e => .inr (.inl e)))))
      clear t r kp hC hS1 c0 c1 c2 c3 c4 c5 c6 c7 c8 c9 fz
      obtain ⟨c0, c1, c2, c3, c4, c5, c6, c7, c8, c9⟩ := ten_cells hS2.out.1.box
      have fz := frozen_of hS2.out.1.box
      go_wp2_with fail
      refine (UM.out _ _ _ _ hS2.out.2.1).mono ?_
      rintro e x2 ⟨fe, r3, rfl, q1, k1, q5⟩
      have D7 := hid q5
      have hC : Hid (TS w x2 N P g x _ ∧ Rdr x2 g x l r3 ∧ Kp (fun i => i = g ∨ i = P ∨ wr.heap.size ≤ i) wr x2) := hid ⟨hS2.out.1.call k1, q1, hS2.out.2.2.trans (k1.mono fun _ _ e => .inl e)⟩
      clear q1 k1 q5 c0 c1 c2 c3 c4 c5 c6 c7 c8 c9 fz
      obtain ⟨c0, c1, c2, c3, c4, c5, c6, c7, c8, c9⟩ := ten_cells hC.out.1.box
      have fz := frozen_of hC.out.1.box
      go_upto_region 17 with fail
      have t : TS w (x2.setCell ⟨P, 5, none⟩ (.int .u64 (fe.toNat : Int))) N P g x #[uv a, .slice ma m.length mc, .slice sa X.length sc, uv d, uv wd, uv fe, .int .u64 0, .int .u64 0, .int .i64 0, .slice none 0 0] := hC.out.1.put 5 (uv fe) rfl
      have r : Rdr (x2.setCell ⟨P, 5, none⟩ (.int .u64 (fe.toNat : Int))) g x l r3 := hC.out.1.rdr hC.out.2.1 5 (uv fe)
      have kp : Kp (fun i => i = P) x2 (x2.setCell ⟨P, 5, none⟩ (.int .u64 (fe.toNat : Int))) := kpP P x2 5 (uv fe)
      generalize x2.setCell ⟨P, 5, none⟩ (.int .u64 (fe.toNat : Int)) = v3 at *
      have hS3 := hid (And.intro t (And.intro r (hC.out.2.2.trans (kp.mono (G := fun i => i = g ∨ i = P ∨ wr.heap.size ≤ i) fun _ _ e => .inr (.inl e)))))
      clear t r kp hC hS2 c0 c1 c2 c3 c4 c5 c6 c7 c8 c9 fz
      obtain ⟨c0, c1, c2, c3, c4, c5, c6, c7, c8, c9⟩ := ten_cells hS3.out.1.box
      have fz := frozen_of hS3.out.1.box
      go_wp2_with fail
      refine (UB.out _ _ _ _ hS3.out.2.1).mono ?_
      rintro e x3 ⟨ac, r4, rfl, q1, k1, q5⟩
      have D8 := hid q5
      have hC : Hid (TS w x3 N P g x _ ∧ Rdr x3 g x l r4 ∧ Kp (fun i => i = g ∨ i = P ∨ wr.heap.size ≤ i) wr x3) := hid ⟨hS3.out.1.call k1, q1, hS3.out.2.2.trans (k1.mono fun _ _ e => .inl e)⟩
      clear q1 k1 q5 c0 c1 c2 c3 c4 c5 c6 c7 c8 c9 fz
      obtain ⟨c0, c1, c2, c3, c4, c5, c6, c7, c8, c9⟩ := ten_cells hC.out.1.box
      have fz := frozen_of hC.out.1.box
      go_upto_region 18 with fail
      have t : TS w (x3.setCell ⟨P, 6, none⟩ (.int .u64 (ac.toNat : Int))) N P g x #[uv a, .slice ma m.length mc, .slice sa X.length sc, uv d, uv wd, uv fe, uv ac, .int .u64 0, .int .i64 0, .slice none 0 0] := hC.out.1.put 6 (uv ac) rfl
      have r : Rdr (x3.setCell ⟨P, 6, none⟩ (.int .u64 (ac.toNat : Int))) g x l r4 := hC.out.1.rdr hC.out.2.1 6 (uv ac)
      have kp : Kp (fun i => i = P) x3 (x3.setCell ⟨P, 6, none⟩ (.int .u64 (ac.toNat : Int))) := kpP P x3 6 (uv ac)
      generalize x3.setCell ⟨P, 6, none⟩ (.int .u64 (ac.toNat : Int)) = v4 at *
      have hS4 := hid (And.intro t (And.intro r (hC.out.2.2.trans (kp.mono (G := fun i => i = g ∨ i = P ∨ wr.heap.size ≤ i) fun _ _ e => .inr (.inl e)))))
      clear t r kp hC hS3 c0 c1 c2 c3 c4 c5 c6 c7 c8 c9 fz
      obtain ⟨c0, c1, c2, c3, c4, c5, c6, c7, c8, c9⟩ := ten_cells hS4.out.1.box
      have fz := frozen_of hS4.out.1.box
      go_wp2_with fail
      refine (UB.out _ _ _ _ hS4.out.2.1).mono ?_
      rintro e x4 ⟨nc, r5, rfl, q1, k1, q5⟩
      have D9 := hid q5
      have hC : Hid (TS w x4 N P g x _ ∧ Rdr x4 g x l r5 ∧ Kp (fun i => i = g ∨ i = P ∨ wr.heap.size ≤ i) wr x4) := hid ⟨hS4.out.1.call k1, q1, hS4.out.2.2.trans (k1.mono fun _ _ e => .inl e)⟩
      clear q1 k1 q5 c0 c1 c2 c3 c4 c5 c6 c7 c8 c9 fz
      obtain ⟨c0, c1, c2, c3, c4, c5, c6, c7, c8, c9⟩ := ten_cells hC.out.1.box
      have fz := frozen_of hC.out.1.box
      go_upto_region 19 with fail
      have t : TS w (x4.setCell ⟨P, 7, none⟩ (.int .u64 (nc.toNat : Int))) N P g x #[uv a, .slice ma m.length mc, .slice sa X.length sc, uv d, uv wd, uv fe, uv ac, uv nc, .int .i64 0, .slice none 0 0] := hC.out.1.put 7 (uv nc) rfl
      have r : Rdr (x4.setCell ⟨P, 7, none⟩ (.int .u64 (nc.toNat : Int))) g x l r5 := hC.out.1.rdr hC.out.2.1 7 (uv nc)
      have kp : Kp (fun i => i = P) x4 (x4.setCell ⟨P, 7, none⟩ (.int .u64 (nc.toNat : Int))) := kpP P x4 7 (uv nc)
      generalize x4.setCell ⟨P, 7, none⟩ (.int .u64 (nc.toNat : Int)) = v5 at *
      have hS5 := hid (And.intro t (And.intro r (hC.out.2.2.trans (kp.mono (G := fun i => i = g ∨ i = P ∨ wr.heap.size ≤ i) fun _ _ e => .inr (.inl e)))))
      clear t r kp hC hS4 c0 c1 c2 c3 c4 c5 c6 c7 c8 c9 fz
      obtain ⟨c0, c1, c2, c3, c4, c5, c6, c7, c8, c9⟩ := ten_cells hS5.out.1.box
      have fz := frozen_of hS5.out.1.box
      go_wp2_with fail
      refine (IH.out _ _ _ _ hS5.out.2.1).mono ?_
      rintro e x5 ⟨ex, r6, rfl, q1, k1, -, q5⟩
      have D10 := hid q5
      have hC : Hid (TS w x5 N P g x _ ∧ Rdr x5 g x l r6 ∧ Kp (fun i => i = g ∨ i = P ∨ wr.heap.size ≤ i) wr x5) := hid ⟨hS5.out.1.call k1, q1, hS5.out.2.2.trans (k1.mono fun _ _ e => .inl e)⟩
      clear q1 k1 q5 c0 c1 c2 c3 c4 c5 c6 c7 c8 c9 fz
      obtain ⟨c0, c1, c2, c3, c4, c5, c6, c7, c8, c9⟩ := ten_cells hC.out.1.box
      have fz := frozen_of hC.out.1.box
      go_upto_region 20 with fail
      have t : TS w (x5.setCell ⟨P, 8, none⟩ (.int .i64 (ex : Int))) N P g x #[uv a, .slice ma m.length mc, .slice sa X.length sc, uv d, uv wd, uv fe, uv ac, uv nc, .int .i64 (ex : Int), .slice none 0 0] := hC.out.1.put 8 (.int .i64 (ex : Int)) rfl
      have r : Rdr (x5.setCell ⟨P, 8, none⟩ (.int .i64 (ex : Int))) g x l r6 := hC.out.1.rdr hC.out.2.1 8 (.int .i64 (ex : Int))
      have kp : Kp (fun i => i = P) x5 (x5.setCell ⟨P, 8, none⟩ (.int .i64 (ex : Int))) := kpP P x5 8 (.int .i64 (ex : Int))
      generalize x5.setCell ⟨P, 8, none⟩ (.int .i64 (ex : Int)) = v6 at *
      have hS6 := hid (And.intro t (And.intro r (hC.out.2.2.trans (kp.mono (G := fun i => i = g ∨ i = P ∨ wr.heap.size ≤ i) fun _ _ e => .inr (.inl e)))))
      clear t r kp hC hS5 c0 c1 c2 c3 c4 c5 c6 c7 c8 c9 fz
      obtain ⟨c0, c1, c2, c3, c4, c5, c6, c7, c8, c9⟩ := ten_cells hS6.out.1.box
      have fz := frozen_of hS6.out.1.box
      go_wp2_with fail
      refine (BY.out _ _ _ _ hS6.out.2.1).mono ?_
      rintro e x6 ⟨y, pf, r7, rfl, q1, k1, q2, q3, q4, q5⟩
      obtain ⟨pa, pc, rfl, -⟩ := q2.shape
      have Y1 := hid q2
      have YB := hid q3
      have YL := hid q4
      have YS := hid (hS6.out.2.2.size)
      have YP := hid (heap_lt hS6.out.1.box)
      have YN := hid (heap_lt hS6.out.1.res)
      have YG := hid (hS6.out.2.1.lt)
      clear q2 q3 q4
      have D11 := hid q5
      have hC : Hid (TS w x6 N P g x _ ∧ Rdr x6 g x l r7 ∧ Kp (fun i => i = g ∨ i = P ∨ wr.heap.size ≤ i) wr x6) := hid ⟨hS6.out.1.call k1, q1, hS6.out.2.2.trans (k1.mono fun _ _ e => .inl e)⟩
      clear q1 k1 q5 c0 c1 c2 c3 c4 c5 c6 c7 c8 c9 fz
      obtain ⟨c0, c1, c2, c3, c4, c5, c6, c7, c8, c9⟩ := ten_cells hC.out.1.box
      have fz := frozen_of hC.out.1.box
      go_upto_region 21 with fail
      have t : TS w (x6.setCell ⟨P, 9, none⟩ (.slice pa pf.length pc)) N P g x #[uv a, .slice ma m.length mc, .slice sa X.length sc, uv d, uv wd, uv fe, uv ac, uv nc, .int .i64 (ex : Int), .slice pa pf.length pc] := hC.out.1.put 9 (.slice pa pf.length pc) rfl
      have r : Rdr (x6.setCell ⟨P, 9, none⟩ (.slice pa pf.length pc)) g x l r7 := hC.out.1.rdr hC.out.2.1 9 (.slice pa pf.length pc)
      have kp : Kp (fun i => i = P) x6 (x6.setCell ⟨P, 9, none⟩ (.slice pa pf.length pc)) := kpP P x6 9 (.slice pa pf.length pc)
      generalize x6.setCell ⟨P, 9, none⟩ (.slice pa pf.length pc) = v7 at *
      have hS7 := hid (And.intro t (And.intro r (hC.out.2.2.trans (kp.mono (G := fun i => i = g ∨ i = P ∨ wr.heap.size ≤ i) fun _ _ e => .inr (.inl e)))))
      have PS : Hid (Sta (AT w.heap.size g P N (.slice sa X.length sc)) v7 (fun u => RdB' u (.slice pa pf.length pc) pf)) := hid (sta_newB (Y1.out.kp kp (fun b hb hlt e => by have := YB.out b hb; have := YP.out; omega)) (fun j hj hb e => by
        have h1 := YB.out j hb
        have h2 := YP.out
        have h3 := YN.out
        have h4 := YG.out
        have h5 := HLS.out.ts.ext.size
        have h6 := YS.out
        rcases e with e | e | e | e | e
        · omega
        · omega
        · omega
        · omega
        · have := ownsRow_lt HLS.out.own e; omega))
      clear t r kp hC hS6 c0 c1 c2 c3 c4 c5 c6 c7 c8 c9 fz
      obtain ⟨t, ht⟩ : ∃ t : TxT, t = ⟨a, m, X.map (·.1), d, wd, fe, ac, nc, (ex : Int), pf⟩ := ⟨_, rfl⟩
      have hrdX : Rd1 outsB (okOs n) l s3 (X.map (·.1)) s := by rw [← HIE.out]; exact HLS.out.rd
      have hHP := tx_read D1.out D2.out D3.out hrdX (by rw [List.length_map, HLS.out.xl]; exact HIE.out) D5.out D6.out D7.out D8.out D9.out D10.out D11.out hS7.out.2.1.le
      rw [← ht] at hHP
      have HP := hid hHP
      have HM : Hid (TSm t) := hid (by
        have h1 := HLS.out.xl
        have h2 := HNL.out
        have h3 := HIE.out
        refine ⟨?_, ?_, fun o ho => ?_, ?_⟩
        · rw [ht]; have := ML.out; show m.length ≤ 1000; omega
        · rw [ht]; show (X.map (·.1)).length ≤ 1000; rw [List.length_map]; omega
        · rw [ht] at ho
          change o ∈ X.map (·.1) at ho
          obtain ⟨z, hz, rfl⟩ := List.mem_map.1 ho
          have := HLS.out.cl z hz
          omega
        · rw [ht]; have := YL.out; show pf.length ≤ 100000000; omega)
      have hST : ∀ v8, Kp (fun i => i = N ∨ v7.heap.size ≤ i) v7 v8 → Sta (fun i => i < w.heap.size) v8 (fun u => RdT u t (.slice ma m.length mc) (.slice sa X.length sc) (.slice pa pf.length pc)) := fun v8 k8 => by
        have hsz := hS7.out.2.2.size
        have kW : Kp (fun i => i = g ∨ i = P ∨ i = N ∨ wr.heap.size ≤ i) wr v8 := (hS7.out.2.2.mono fun j _ e => by
          rcases e with e | e | e
          · exact .inl e
          · exact .inr (.inl e)
          · exact .inr (.inr (.inr e))).trans (k8.mono fun j _ e => by
          rcases e with e | e
          · exact .inr (.inr (.inl e))
          · exact .inr (.inr (.inr (by omega))))
        have goA : ∀ C : World → Prop, Sta (AT w.heap.size g P N (.slice sa X.length sc)) wr C → Sta (fun i => i < w.heap.size) v8 C := fun C h => h.go kW (fun j hj e => by
          rcases e with e | e | e | e
          · exact .inr (.inl e)
          · exact .inr (.inr (.inl e))
          · exact .inr (.inr (.inr (.inl e)))
          · omega) (fun j _ e => .inl e)
        have hPS := PS.out.go (B := fun i => i < w.heap.size) k8 (fun j hj e => by
          rcases e with e | e
          · exact .inr (.inr (.inr (.inl e)))
          · omega) (fun j _ e => .inl e)
        intro u ku
        subst ht
        refine ⟨goA _ HLS.out.ms u ku, ⟨X, rfl, ?_, fun z hz => goA _ (HLS.out.el z hz) u ku⟩, hPS u ku⟩
        show RdC' u (.slice sa X.length sc) (X.map (·.1)).length _
        rw [List.length_map]
        have kU : Kp (fun i => i < w.heap.size ∨ i = g ∨ i = P ∨ i = N ∨ wr.heap.size ≤ i) wr u := (kW.mono fun _ _ e => .inr e).trans (ku.mono fun _ _ e => .inl e)
        refine (ownsRow_rd (ownsRow_kp HLS.out.own kU fun b hb e => ?_)).weak
        have h1 := HLS.out.ob b hb
        have h2 := ownsRow_lt HLS.out.own hb
        rcases e with e | e | e | e | e
        · omega
        · exact h1.2.1 e
        · exact h1.2.2.1 e
        · exact h1.2.2.2.1 e
        · omega
      have HST := hid hST
      clear hST hHP hrdX
      have VAL : Hid (∀ v8, Ext v7 v8 → Calls Try.prog 40 #[.agg #[uv a, .slice ma m.length mc, .slice sa X.length sc, uv d, uv wd, uv fe, uv ac, uv nc, .int .i64 (ex : Int), .slice pa pf.length pc]] v8 fun e w' => e = .returned (.int .i64 (txV t)) ∧ Ext v8 w') := hid fun v8 k8 => by
        have h := txValid_any t (.slice ma m.length mc) (.slice sa X.length sc) (.slice pa pf.length pc) v8 ((HST.out v8 (.of_ext k8)).now) HM.out
        rw [ht] at h ⊢
        exact h
      have HT := hid ht
      obtain ⟨R, hR⟩ : ∃ R, R = txV t := ⟨_, rfl⟩
      rw [← hR] at VAL
      have HR := hid hR
      have hSZ := hid hS7.out.1
      have RDR := hid hS7.out.2.1
      clear ht hR hS7 D1 D2 D3 D5 D6 D7 D8 D9 D10 D11 PS HLS YS YP YN YG YL YB Y1 HV0 UB UM I4 IH L4 L3 BY HJ HN
      clear HIE HNL HM ML
      obtain ⟨c0, c1, c2, c3, c4, c5, c6, c7, c8, c9⟩ := ten_cells hSZ.out.box
      go_wp2_with fail
      refine (DO.out _ _ _ _ RDR.out).mono ?_
      rintro e v8 ⟨rfl, hx8⟩
      have X8 := hid hx8
      clear hx8 DO c0 c1 c2 c3 c4 c5 c6 c7 c8 c9
      generalize hD : (!r7.2 && decide (r7.1 = l.length)) = D
      have HD := hid hD
      clear hD
      have hp : v8.heap[P]? = some (.cells #[uv a, .slice ma m.length mc, .slice sa X.length sc, uv d, uv wd, uv fe, uv ac, uv nc, .int .i64 (ex : Int), .slice pa pf.length pc] 39 (0, 0)) := X8.out.heap_some hSZ.out.box
      obtain ⟨c0, c1, c2, c3, c4, c5, c6, c7, c8, c9⟩ := ten_cells hp
      clear hp
      cases D with
      | false =>
        have hbN : v8.heap[N]? = some (.cells #[.int .u64 0, .slice none 0 0, .slice none 0 0, .int .u64 0, .int .u64 0, .int .u64 0, .int .u64 0, .int .u64 0, .int .i64 0, .slice none 0 0] 39 (0, 0)) := X8.out.heap_some hSZ.out.res
        obtain ⟨d0, d1, d2, d3, d4, d5, d6, d7, d8, d9⟩ := ten_cells hbN
        have fz := frozen_of hbN
        have HBN := hid hbN
        clear hbN
        go_wp2_with fail
        have HP0 := ten_setT (d0 := .int .u64 0) (d1 := .slice none 0 0) (d2 := .slice none 0 0) (d3 := .int .u64 0) (d4 := .int .u64 0) (d5 := .int .u64 0) (d6 := .int .u64 0) (d7 := .int .u64 0) (d8 := .int .i64 0) (d9 := .slice none 0 0) HBN.out
        unfold setTenT at HP0
        generalize ((((((((((v8.setCell ⟨N, 0, none⟩ (.int .u64 0)).setCell ⟨N, 1, none⟩ (.slice none 0 0)).setCell ⟨N, 2, none⟩ (.slice none 0 0)).setCell ⟨N, 3, none⟩ (.int .u64 0)).setCell ⟨N, 4, none⟩ (.int .u64 0)).setCell ⟨N, 5, none⟩ (.int .u64 0)).setCell ⟨N, 6, none⟩ (.int .u64 0)).setCell ⟨N, 7, none⟩ (.int .u64 0)).setCell ⟨N, 8, none⟩ (.int .i64 0)).setCell ⟨N, 9, none⟩ (.slice none 0 0)) = w11 at *
        obtain ⟨r0, r1, r2, r3, r4, r5, r6, r7, r8, r9⟩ := ten_cells HP0.1
        have hXT : Ext w w11 := (hSZ.out.ext.trans X8.out).kp HP0.2 (fun k e => e ▸ hSZ.out.n0)
        refine bodyPost_ret (v := .tuple #[.agg #[.int .u64 0, .slice none 0 0, .slice none 0 0, .int .u64 0, .int .u64 0, .int .u64 0, .int .u64 0, .int .u64 0, .int .i64 0, .slice none 0 0], .int .i64 2]) (by simp [results, Try.results17, go_sem, r0, r1, r2, r3, r4, r5, r6, r7, r8, r9]) rfl (.inr ⟨rfl, hXT, fun y hv hy => ?_⟩)
        have h := HP.out.2 y hv hy
        have hd := HD.out
        rw [h.2.1, h.2.2] at hd
        simp at hd
      | true =>
        go_wp2_with fail
        refine (VAL.out _ X8.out).mono ?_
        rintro e v9 ⟨rfl, hx9⟩
        have X9 := hid (X8.out.trans hx9)
        have hp : v9.heap[P]? = some (.cells #[uv a, .slice ma m.length mc, .slice sa X.length sc, uv d, uv wd, uv fe, uv ac, uv nc, .int .i64 (ex : Int), .slice pa pf.length pc] 39 (0, 0)) := X9.out.heap_some hSZ.out.box
        clear c0 c1 c2 c3 c4 c5 c6 c7 c8 c9 hx9
        obtain ⟨c0, c1, c2, c3, c4, c5, c6, c7, c8, c9⟩ := ten_cells hp
        clear hp
        by_cases hRz : R = 0
        · subst hRz
          have hbN : v9.heap[N]? = some (.cells #[.int .u64 0, .slice none 0 0, .slice none 0 0, .int .u64 0, .int .u64 0, .int .u64 0, .int .u64 0, .int .u64 0, .int .i64 0, .slice none 0 0] 39 (0, 0)) := X9.out.heap_some hSZ.out.res
          obtain ⟨d0, d1, d2, d3, d4, d5, d6, d7, d8, d9⟩ := ten_cells hbN
          have fz := frozen_of hbN
          have HBN := hid hbN
          clear hbN
          go_wp2_with fail
          have HP0 := ten_setT (d0 := uv a) (d1 := .slice ma m.length mc) (d2 := .slice sa X.length sc) (d3 := uv d) (d4 := uv wd) (d5 := uv fe) (d6 := uv ac) (d7 := uv nc) (d8 := .int .i64 (ex : Int)) (d9 := .slice pa pf.length pc) HBN.out
          unfold setTenT at HP0
          generalize ((((((((((v9.setCell ⟨N, 0, none⟩ (uv a)).setCell ⟨N, 1, none⟩ (.slice ma m.length mc)).setCell ⟨N, 2, none⟩ (.slice sa X.length sc)).setCell ⟨N, 3, none⟩ (uv d)).setCell ⟨N, 4, none⟩ (uv wd)).setCell ⟨N, 5, none⟩ (uv fe)).setCell ⟨N, 6, none⟩ (uv ac)).setCell ⟨N, 7, none⟩ (uv nc)).setCell ⟨N, 8, none⟩ (.int .i64 (ex : Int))).setCell ⟨N, 9, none⟩ (.slice pa pf.length pc)) = w11 at *
          obtain ⟨r0, r1, r2, r3, r4, r5, r6, r7, r8, r9⟩ := ten_cells HP0.1
          have hXT : Ext w w11 := (hSZ.out.ext.trans X9.out).kp HP0.2 (fun k e => e ▸ hSZ.out.n0)
          refine bodyPost_ret (v := .tuple #[.agg #[uv a, .slice ma m.length mc, .slice sa X.length sc, uv d, uv wd, uv fe, uv ac, uv nc, .int .i64 (ex : Int), .slice pa pf.length pc], .int .i64 0]) (by simp [results, Try.results17, go_sem, r0, r1, r2, r3, r4, r5, r6, r7, r8, r9]) rfl (.inl ⟨t, .slice ma m.length mc, .slice sa X.length sc, .slice pa pf.length pc, by rw [HT.out], hXT, HST.out w11 (((Kp.of_ext X9.out).trans (HP0.2.mono fun _ _ e => .inl e))), HR.out.symm, ?_, fun y hv hy => (HP.out.2 y hv hy).1⟩)
          have hd := HD.out
          simp only [Bool.and_eq_true, Bool.not_eq_true', decide_eq_true_eq] at hd
          exact HP.out.1 hd.1 hd.2
        · have hRd : (R == 0) = false := by simpa using hRz
          have hRd2 : decide (R = 0) = false := by simpa using hRz
          have hbN : v9.heap[N]? = some (.cells #[.int .u64 0, .slice none 0 0, .slice none 0 0, .int .u64 0, .int .u64 0, .int .u64 0, .int .u64 0, .int .u64 0, .int .i64 0, .slice none 0 0] 39 (0, 0)) := X9.out.heap_some hSZ.out.res
          obtain ⟨d0, d1, d2, d3, d4, d5, d6, d7, d8, d9⟩ := ten_cells hbN
          have fz := frozen_of hbN
          have HBN := hid hbN
          clear hbN
          go_wp2_with fail
          have HP0 := ten_setT (d0 := .int .u64 0) (d1 := .slice none 0 0) (d2 := .slice none 0 0) (d3 := .int .u64 0) (d4 := .int .u64 0) (d5 := .int .u64 0) (d6 := .int .u64 0) (d7 := .int .u64 0) (d8 := .int .i64 0) (d9 := .slice none 0 0) HBN.out
          unfold setTenT at HP0
          generalize ((((((((((v9.setCell ⟨N, 0, none⟩ (.int .u64 0)).setCell ⟨N, 1, none⟩ (.slice none 0 0)).setCell ⟨N, 2, none⟩ (.slice none 0 0)).setCell ⟨N, 3, none⟩ (.int .u64 0)).setCell ⟨N, 4, none⟩ (.int .u64 0)).setCell ⟨N, 5, none⟩ (.int .u64 0)).setCell ⟨N, 6, none⟩ (.int .u64 0)).setCell ⟨N, 7, none⟩ (.int .u64 0)).setCell ⟨N, 8, none⟩ (.int .i64 0)).setCell ⟨N, 9, none⟩ (.slice none 0 0)) = w11 at *
          obtain ⟨r0, r1, r2, r3, r4, r5, r6, r7, r8, r9⟩ := ten_cells HP0.1
          have hXT : Ext w w11 := (hSZ.out.ext.trans X9.out).kp HP0.2 (fun k e => e ▸ hSZ.out.n0)
          refine bodyPost_ret (v := .tuple #[.agg #[.int .u64 0, .slice none 0 0, .slice none 0 0, .int .u64 0, .int .u64 0, .int .u64 0, .int .u64 0, .int .u64 0, .int .i64 0, .slice none 0 0], .int .i64 2]) (by simp [results, Try.results17, go_sem, r0, r1, r2, r3, r4, r5, r6, r7, r8, r9]) rfl (.inr ⟨rfl, hXT, fun y hv hy => hRz ?_⟩)
          rw [HR.out, (HP.out.2 y hv hy).1]
          exact hv
end Go.Proofs.Ytkdnnekdldomeaa
