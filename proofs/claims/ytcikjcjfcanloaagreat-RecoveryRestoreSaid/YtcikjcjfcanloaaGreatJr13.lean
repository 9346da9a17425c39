/- Texts of this claim, joined: NotesL, RW2, TxB, RefTxB. -/
import Derived.Test.YtcikjcjfcanloaaGreatJr9
import Derived.Test.YtcikjcjfcanloaaGreatJr12
set_option linter.unusedSimpArgs false
namespace Go.Proofs.YtcikjcjfcanloaaGreat
open Go.RowKit
def commitN (n : Nt) : UInt64 := hashU 2 n.list
theorem spendW_notes (key : UInt64) (h : Nat) (marks : List UInt64) (S : StW) : (spendW key h marks S).notes = S.notes.map (outW key h marks) ∧ (spendW key h marks S).leaves = S.leaves := by
  unfold spendW spendTo
  rw [List.take_length, List.drop_length, List.append_nil]
  exact ⟨rfl, rfl⟩
def outsOf (b : BlkT) : List UInt64 := b.txs.flatMap fun t => t.outs.map (·.commit)
def leavesW (l : List BlkT) : List UInt64 := l.flatMap outsOf
theorem fold_leaves (seed : UInt64) (ht : Nat) : ∀ (l : List TxT) (S : StW), (l.foldl (txW seed ht) S).leaves = S.leaves ++ l.flatMap fun t => t.outs.map (·.commit)
  | [], S => by simp
  | t :: r, S => by
    rw [List.foldl_cons, fold_leaves seed ht r, List.flatMap_cons]
    unfold txW
    rw [recvW_leaves, (spendW_notes _ _ _ _).2, List.append_assoc]
theorem stTo_leaves (seed : UInt64) (l : List BlkT) : ∀ i, (stTo seed l i).leaves = leavesW (l.take i)
  | 0 => by simp [stTo, leavesW]
  | i + 1 => by
    unfold stTo
    split
    · next b hb =>
      unfold blkW
      rw [fold_leaves, stTo_leaves seed l i]
      unfold leavesW
      rw [List.take_add_one, hb]
      simp [outsOf]
    · next hb =>
      rw [List.getElem?_eq_none_iff] at hb
      rw [stTo_leaves seed l i, List.take_of_length_le hb, List.take_of_length_le (by omega)]
theorem stW_leaves (seed : UInt64) (l : List BlkT) : (stW seed l).leaves = leavesW l := by
  unfold stW
  rw [stTo_leaves, List.take_length]
theorem outsOf_length (b : BlkT) : (outsOf b).length = outsN b.txs := by
  unfold outsOf outsN
  rw [List.length_flatMap]
  congr 1
  apply List.map_congr_left
  intro t _
  rw [List.length_map]
theorem leavesW_snoc (l : List BlkT) (b : BlkT) : leavesW (l ++ [b]) = leavesW l ++ outsOf b := by simp [leavesW]
/-- The error of a further block. -/
def checkW (d : Nat) (l : List BlkT) (b : BlkT) : Int := fitsW d l.length (leavesW l).length b
theorem fits_check (d : Nat) (seed : UInt64) (l : List BlkT) (b : BlkT) : fitsW d l.length (stW seed l).leaves.length b = checkW d l b := by
  unfold checkW
  rw [stW_leaves]
def okAll (d : Nat) (l : List BlkT) : Prop := ∀ i b, l[i]? = some b → checkW d (l.take i) b = 0
theorem okAll_fits {d : Nat} {seed : UInt64} {l : List BlkT} : fitsAll d seed l ↔ okAll d l := by
  unfold fitsAll okAll checkW
  constructor
  · intro h i b hb
    have := h i b hb
    have hi := (List.getElem?_eq_some_iff.1 hb).1
    rw [stTo_leaves] at this
    rw [show (l.take i).length = i by rw [List.length_take]; omega]
    exact this
  · intro h i b hb
    have := h i b hb
    have hi := (List.getElem?_eq_some_iff.1 hb).1
    rw [stTo_leaves]
    rwa [show (l.take i).length = i by rw [List.length_take]; omega] at this
theorem okAll_valid {d : Nat} {l : List BlkT} (h : okAll d l) : ∀ b ∈ l, ∀ t ∈ b.txs, txV t = 0 := fun b hb t ht => by
  obtain ⟨i, hi, rfl⟩ := List.getElem_of_mem hb
  have h1 := h i _ (List.getElem?_eq_getElem hi)
  unfold checkW fitsW at h1
  split at h1
  · split at h1
    · next h2 => simpa using List.all_eq_true.1 h2 t ht
    · cases h1
  · cases h1
end Go.Proofs.YtcikjcjfcanloaaGreat
namespace Go.Proofs.YtcikjcjfcanloaaGreat
open Go.RowKit
attribute [local irreducible] perm fAdd fMul fPow fSub fNeg fRed hashU
theorem rhash4_any (label a b c d : UInt64) (w : World) : Calls Tryz.prog 64 #[.int .u64 18446744069414584321, .int .u64 label.toNat, .slice (some ⟨w.heap.size, 0, none⟩) 4 4] (w.alloc (.cells #[uv a, uv b, uv c, uv d] 22)) fun e w' => e = .returned (uv (hashU label [a, b, c, d])) ∧ Ext w w' := by
  have hrd : RdU (w.alloc (.cells #[uv a, uv b, uv c, uv d] 22)) (.slice (some ⟨w.heap.size, 0, none⟩) 4 4) [a, b, c, d] := (RdC.block (heap_new w _) (n := 4) (by unfold maxLen; omega)).rdu rfl
  exact (rHash_any 18446744069414584321 rfl label _ [a, b, c, d] _ hrd (by simp)).mono fun e w' h => ⟨h.1, ((Ext.refl w).alloc _).trans h.2⟩
set_option maxRecDepth 100000 in
set_option maxHeartbeats 1600000 in
theorem rCommit4_any (a b c d : UInt64) (w : World) : Calls Tryz.prog 24 #[.agg #[uv a, uv b, uv c, uv d]] w fun e w' => e = .returned (uv (hashU 2 [a, b, c, d])) ∧ Ext w w' := by
  have HH : Hid (∀ v : World, Calls Tryz.prog 64 #[.int .u64 18446744069414584321, .int .u64 2, .slice (some ⟨v.heap.size, 0, none⟩) 4 4] (v.alloc (.cells #[uv a, uv b, uv c, uv d] 22)) fun e w' => e = .returned (uv (hashU 2 [a, b, c, d])) ∧ Ext v w') := hid fun v => rhash4_any 2 a b c d v
  generalize hashU 2 [a, b, c, d] = k at *
  obtain ⟨N, hN⟩ : ∃ N, N = w.heap.size := ⟨_, rfl⟩
  obtain ⟨w0, hw0⟩ : ∃ w0, w0 = w.alloc (.cells #[uv a, uv b, uv c, uv d] 37) := ⟨_, rfl⟩
  have hx0 : Ext w w0 := by rw [hw0]; exact (Ext.refl w).alloc _
  have hb0 : w0.heap[N]? = some (.cells #[uv a, uv b, uv c, uv d] 37 (0, 0)) := by rw [hw0, hN]; exact heap_new _ _
  have HW := hid hw0
  have HX0 := hid hx0
  obtain ⟨c0, c1, c2, c3⟩ := four_cellsO hb0
  clear hw0 hx0 hb0
  go_enter Tryz.func24, Tryz.ntmps24
  go_upto_region 1 with fail
  rw [← HW.out, ← hN]
  clear hN HW
  go_wp2_with fail
  refine (HH.out _).mono ?_
  rintro e w1 ⟨rfl, hx⟩
  have HX1 := hid (HX0.out.trans hx)
  clear hx HH
  go_wp2_with fail
  go_ret
  exact ⟨rfl, HX1.out⟩
set_option maxRecDepth 100000 in
set_option maxHeartbeats 1600000 in
theorem rKeyE_any (s q : E2) (w : World) : Calls Tryz.prog 99 #[s.v, q.v] w fun e w' => e = .returned (uv (envKey s q)) ∧ Ext w w' := by
  obtain ⟨a, b⟩ := s
  obtain ⟨c, d⟩ := q
  show Calls Tryz.prog 99 #[.agg #[uv a, uv b], .agg #[uv c, uv d]] w fun e w' => e = .returned (uv (hashU 11 [a, b, c, d])) ∧ Ext w w'
  have HH : Hid (∀ v : World, Calls Tryz.prog 64 #[.int .u64 18446744069414584321, .int .u64 11, .slice (some ⟨v.heap.size, 0, none⟩) 4 4] (v.alloc (.cells #[uv a, uv b, uv c, uv d] 22)) fun e w' => e = .returned (uv (hashU 11 [a, b, c, d])) ∧ Ext v w') := hid fun v => rhash4_any 11 a b c d v
  generalize hashU 11 [a, b, c, d] = k at *
  obtain ⟨N, hN⟩ : ∃ N, N = w.heap.size := ⟨_, rfl⟩
  obtain ⟨w0, hw0⟩ : ∃ w0, w0 = (w.alloc (.cells #[uv a, uv b] 94)).alloc (.cells #[uv c, uv d] 94) := ⟨_, rfl⟩
  have hx0 : Ext w w0 := by rw [hw0]; exact ((Ext.refl w).alloc _).alloc _
  have hb0 : w0.heap[N]? = some (.cells #[uv a, uv b] 94 (0, 0)) := by rw [hw0, hN]; exact heap_alloc_some (heap_new _ _)
  have hb1 : w0.heap[N + 1]? = some (.cells #[uv c, uv d] 94 (0, 0)) := by
    rw [hw0, hN]
    have := heap_new (w.alloc (.cells #[uv a, uv b] 94)) (.cells #[uv c, uv d] 94)
    simpa using this
  have HW := hid hw0
  have HX0 := hid hx0
  have c0 := cell_of hb0 0
  have c1 := cell_of hb0 1
  have c2 := cell_of hb1 0
  have c3 := cell_of hb1 1
  clear hw0 hx0 hb0 hb1
  go_enter Tryz.func99, Tryz.ntmps99
  go_upto_region 1 with fail
  rw [← HW.out, ← hN]
  clear hN HW
  go_wp2_with fail
  refine (HH.out _).mono ?_
  rintro e w1 ⟨rfl, hx⟩
  have HX1 := hid (HX0.out.trans hx)
  clear hx HH
  go_wp2_with fail
  go_ret
  exact ⟨rfl, HX1.out⟩
end Go.Proofs.YtcikjcjfcanloaaGreat
namespace Go.Proofs.YtcikjcjfcanloaaGreat
open Go.RowKit
attribute [local irreducible] perm fAdd fMul fPow fSub fNeg fRed hashU
def FrO (w0 w : World) (m : List UInt8) (e : Ending) (w' : World) : Prop := ∃ v, e = .returned v ∧ FrB w0 w' v m ∧ Ext w w'
theorem NewB.fr {w0 w w' : World} {m : List UInt8} {e : Ending} (hx : Ext w0 w) (h : NewB w m e w') : FrO w0 w m e w' := by
  obtain ⟨v, rfl, h1, h2, h3⟩ := h
  exact ⟨v, rfl, ⟨h1, hx.trans h2, fun k hk => Nat.le_trans hx.size (h3 k hk)⟩, h2⟩
theorem FrB.sl {w v : World} {x : Value} {l : List UInt8} (h : FrB w v x l) : ∃ a c, x = .slice a l.length c := by
  obtain ⟨a, c, h1, -⟩ := ownsRow_rd h.1
  exact ⟨a, c, h1⟩
theorem wUint_fr {w0 w : World} {v : Value} {l : List UInt8} (x : UInt64) (h : FrB w0 w v l) (hL : l.length ≤ 1000000000) : Calls Tryz.prog 83 #[v, uv x] w (FrO w0 w (l ++ leB 8 x)) :=
  (wUint_any v l x w h.1.weak (by omega)).mono fun _ _ h' => h'.fr h.2.1
theorem wInt_fr {w0 w : World} {v : Value} {l : List UInt8} (n : Int) (h : FrB w0 w v l) (hL : l.length ≤ 1000000000) : Calls Tryz.prog 80 #[v, .int .i64 n] w (FrO w0 w (l ++ lenB n)) :=
  (wInt_any v l n w h.1.weak (by omega)).mono fun _ _ h' => h'.fr h.2.1
theorem wList_fr {w0 w : World} {v lv : Value} {l : List UInt8} {xs : List UInt64} (h : FrB w0 w v l) (hx : RdU' w lv xs) (hL : l.length ≤ 1000000000) (hX : xs.length ≤ 1000000) : Calls Tryz.prog 81 #[v, lv] w (FrO w0 w (l ++ listB xs)) :=
  (wList_any v l lv xs w h.1.weak hx (by omega) (by omega)).mono fun _ _ h' => h'.fr h.2.1
theorem listB_length (xs : List UInt64) : (listB xs).length = 4 + 8 * xs.length := by unfold listB; rw [List.length_append, lenB_length, cat_length]
theorem outB_le {o : OutT} (h : o.cipher.length ≤ 1000) : (outB o).length ≤ 10000 := by
  unfold outB
  simp only [List.length_append, leB_length, listB_length]
  omega
theorem outsB_le : ∀ {l : List OutT}, (∀ o ∈ l, o.cipher.length ≤ 1000) → (outsB l).length ≤ 10000 * l.length
  | [], _ => by simp [outsB]
  | o :: r, h => by
    have h1 := outB_le (h o (by simp))
    have h2 := outsB_le (l := r) (fun o ho => h o (by simp [ho]))
    unfold outsB at h2 ⊢
    rw [List.flatMap_cons, List.length_append, List.length_cons]
    omega
theorem outsB_snoc {l : List OutT} {i : Nat} {o : OutT} (h : l[i]? = some o) : outsB (l.take (i + 1)) = outsB (l.take i) ++ outB o := by
  rw [List.take_add_one, h]; simp [outsB]
theorem txB_le {t : TxT} (hs : TSm t) : (txB t).length ≤ 200000000 := by
  unfold txB txTail bytesB
  have h1 := outsB_le hs.c
  have h2 := hs.m
  have h3 := hs.o
  have h4 := hs.p
  simp only [List.length_append, leB_length, lenB_length, listB_length]
  omega
end Go.Proofs.YtcikjcjfcanloaaGreat
namespace Go.Proofs.YtcikjcjfcanloaaGreat
open Go.RowKit
attribute [local irreducible] perm fAdd fMul fPow fSub fNeg fRed hashU
/-- One's own list of bytes, beside two blocks that it doesn't lie in. -/
structure RB (w0 wr : World) (bv : Value) (cur : List UInt8) (P S : Nat) (oP oS : Obj) : Prop where
  fr : FrB w0 wr bv cur
  p : wr.heap[P]? = some oP
  s : wr.heap[S]? = some oS
  ne : ∀ k, blk bv = some k → k ≠ P ∧ k ≠ S
theorem RB.ext {w0 v v' : World} {x : Value} {l : List UInt8} {P S : Nat} {oP oS : Obj} (h : RB w0 v x l P S oP oS) (k : Ext v v') : RB w0 v' x l P S oP oS := ⟨h.fr.ext k, k.heap_some h.p, k.heap_some h.s, h.ne⟩
theorem RB.app {w0 v v' : World} {x y : Value} {l m : List UInt8} {P S : Nat} {oP oS : Obj} (h : RB w0 v x l P S oP oS) {n : Nat} {xs : List Value} (hown : v'.ownsRow 0 5 1 y n xs) (hk : Kp (fun k => some k = blk x) v v') (hb : blk y = blk x ∨ blk y = some v.heap.size) (hn : n = l.length + m.length) (hx : xs = bs l ++ bs m) : RB w0 v' y (l ++ m) P S oP oS := by
  refine ⟨h.fr.app hown hk hb hn hx, hk.heap_some (fun e => (h.ne P e.symm).1 rfl) h.p, hk.heap_some (fun e => (h.ne S e.symm).2 rfl) h.s, fun k e => ?_⟩
  rcases hb with hb | hb
  · exact h.ne k (hb ▸ e)
  · rw [hb] at e
    injection e with e
    have := heap_lt h.p
    have := heap_lt h.s
    omega
theorem FrB.rb {w0 v : World} {x : Value} {l : List UInt8} (h : FrB w0 v x l) {P S : Nat} {oP oS : Obj} (hp : v.heap[P]? = some oP) (hs : v.heap[S]? = some oS) (hne : ∀ k, blk x = some k → k ≠ P ∧ k ≠ S) : RB w0 v x l P S oP oS := ⟨h, hp, hs, hne⟩
theorem cat_take {xs : List UInt64} {k : Nat} {x : UInt64} (h : xs[k]? = some x) : cat (xs.take (k + 1)) = cat (xs.take k) ++ leB 8 x := by
  rw [List.take_add_one, h]; simp [cat]
set_option maxRecDepth 100000 in
set_option maxHeartbeats 12800000 in
theorem rTxB_any (t : TxT) (mv ov pv : Value) (w : World) (h : RdT w t mv ov pv) (hs : TSm t) :
    Calls Tryz.prog 147 #[txVal t mv ov pv] w (NewB w (txB t)) := by
  obtain ⟨i0, hi, hz0, hz1, hz2⟩ := info_parts Tryz.infoB
  have HI0 := hid (And.intro hi (And.intro hz0 (And.intro hz1 hz2)))
  obtain ⟨ma, mc, oa, oc, pa, pc, rfl, rfl, rfl⟩ := h.shape
  obtain ⟨N, hN⟩ : ∃ N, N = w.heap.size := ⟨_, rfl⟩
  obtain ⟨w0, hw0⟩ : ∃ w0, w0 = w.alloc (.cells #[uv t.anchor, .slice ma t.marks.length mc, .slice oa t.outs.length oc, uv t.deposit, uv t.withdraw, uv t.fee, uv t.account, uv t.nonce, .int .i64 t.expiry, .slice pa t.proof.length pc] 101) := ⟨_, rfl⟩
  have hx0 : Ext w w0 := by rw [hw0]; exact (Ext.refl w).alloc _
  have hb0 : w0.heap[N]? = some (.cells #[uv t.anchor, .slice ma t.marks.length mc, .slice oa t.outs.length oc, uv t.deposit, uv t.withdraw, uv t.fee, uv t.account, uv t.nonce, .int .i64 t.expiry, .slice pa t.proof.length pc] 101 (0, 0)) := by rw [hw0, hN]; exact heap_new _ _
  have HB := hid hb0
  have HW := hid hw0
  have HX0 := hid hx0
  have HH := hid h
  have HS := hid hs
  have HOL : Hid ((t.outs.length : Int) ≤ 1000) := hid (by have := hs.o; omega)
  have HNW : Hid (N < w0.heap.size) := hid (heap_lt hb0)
  clear hw0 hx0 hb0 h hs hi hz0 hz1 hz2
  obtain ⟨c0, c1, c2, c3, c4, c5, c6, c7, c8, c9⟩ := ten_cells HB.out
  go_enter Tryz.func147, Tryz.ntmps147
  go_upto_region 1 with fail
  rw [← HW.out, ← hN]
  clear hN
  go_wp2_with fail
  refine (rDigits_any t.anchor 8 w0 (by omega)).mono ?_
  rintro e w1 ⟨v1, rfl, g1, g2, g3⟩
  obtain ⟨L1, hL1⟩ : ∃ L : List UInt8, L = leB 8 t.anchor := ⟨_, rfl⟩
  rw [← hL1] at g1
  have F1 : Hid (FrB w0 w1 v1 L1) := hid ⟨g1, g2, g3⟩
  have HL1 := hid hL1
  have B1 : Hid (L1.length ≤ 8) := hid (by rw [hL1, leB_length]; omega)
  obtain ⟨sa1, sc1, rfl⟩ := F1.out.sl
  clear c0 c1 c2 c3 c4 c5 c6 c7 c8 c9
  clear g1 g2 g3 hL1
  obtain ⟨c0, c1, c2, c3, c4, c5, c6, c7, c8, c9⟩ := ten_cells ((F1.out.2.1).heap_some HB.out)
  go_wp2_with fail
  refine (rList_any _ t.marks _ (HH.out.m.ext (HX0.out.trans F1.out.2.1)) (by have := HS.out.m; omega)).mono ?_
  rintro e u2 ⟨y2, rfl, g1, g2, g3⟩
  obtain ⟨M2, hM2⟩ : ∃ M : List UInt8, M = listB t.marks := ⟨_, rfl⟩
  rw [← hM2] at g1
  have HM2 := hid hM2
  have BM2 : Hid (M2.length ≤ 9000) := hid (by rw [hM2]; rw [listB_length]; have := HS.out.m; omega)
  have E2 := hid (F1.out.ext g2)
  have O2 := hid g1
  obtain ⟨ya2, yc2, rfl, -⟩ := ownsRow_rd g1
  clear c0 c1 c2 c3 c4 c5 c6 c7 c8 c9
  clear g1 g2 g3 hM2
  go_wp2_with (at_builtin; refine wpList_app rfl _ _ 69 rfl 5 i0 (.int .u8 0) 1 1 Tryz.underlying69 HI0.out.1 HI0.out.2.1 HI0.out.2.2.1 HI0.out.2.2.2 rfl (by decide) _ L1.length (bs L1) rfl E2.out.1 _ M2.length (bs M2) rfl (ownsRow_rd O2.out) (by rw [List.length_map, Nat.mul_one]) (bs_one _) (by have := B1.out; have := BM2.out; unfold maxLen; omega) (by have := B1.out; have := BM2.out; omega) ?_)
  intro v2 w2 hown hk hb
  have hf := E2.out.app (m := M2) hown hk hb rfl rfl
  obtain ⟨L2, hL2⟩ : ∃ L, L = L1 ++ M2 := ⟨_, rfl⟩
  rw [← hL2] at hf
  have F2 := hid hf
  have HL2 := hid hL2
  have B2 : Hid (L2.length ≤ 10000) := hid (by rw [hL2, List.length_append]; have := B1.out; have := BM2.out; omega)
  obtain ⟨sa2, sc2, rfl⟩ := hf.sl
  clear hown hk hb hf hL2
  obtain ⟨c0, c1, c2, c3, c4, c5, c6, c7, c8, c9⟩ := ten_cells ((F2.out.2.1).heap_some HB.out)
  go_wp2_with fail
  refine (rLen_any (t.outs.length : Int) _).mono ?_
  rintro e u3 ⟨y3, rfl, g1, g2, g3⟩
  obtain ⟨M3, hM3⟩ : ∃ M : List UInt8, M = lenB (t.outs.length : Int) := ⟨_, rfl⟩
  rw [← hM3] at g1
  have HM3 := hid hM3
  have BM3 : Hid (M3.length ≤ 4) := hid (by rw [hM3]; rw [lenB_length]; omega)
  have E3 := hid (F2.out.ext g2)
  have O3 := hid g1
  obtain ⟨ya3, yc3, rfl, -⟩ := ownsRow_rd g1
  clear c0 c1 c2 c3 c4 c5 c6 c7 c8 c9
  clear g1 g2 g3 hM3
  go_wp2_with (at_builtin; refine wpList_app rfl _ _ 69 rfl 5 i0 (.int .u8 0) 1 1 Tryz.underlying69 HI0.out.1 HI0.out.2.1 HI0.out.2.2.1 HI0.out.2.2.2 rfl (by decide) _ L2.length (bs L2) rfl E3.out.1 _ M3.length (bs M3) rfl (ownsRow_rd O3.out) (by rw [List.length_map, Nat.mul_one]) (bs_one _) (by have := B2.out; have := BM3.out; unfold maxLen; omega) (by have := B2.out; have := BM3.out; omega) ?_)
  intro v3 w3 hown hk hb
  have hf := E3.out.app (m := M3) hown hk hb rfl rfl
  obtain ⟨L3, hL3⟩ : ∃ L, L = L2 ++ M3 := ⟨_, rfl⟩
  rw [← hL3] at hf
  have F3 := hid hf
  have HL3 := hid hL3
  have B3 : Hid (L3.length ≤ 20000) := hid (by rw [hL3, List.length_append]; have := B2.out; have := BM3.out; omega)
  obtain ⟨sa3, sc3, rfl⟩ := hf.sl
  clear hown hk hb hf hL3
  obtain ⟨c0, c1, c2, c3, c4, c5, c6, c7, c8, c9⟩ := ten_cells ((F3.out.2.1).heap_some HB.out)
  go_wp2_with fail
  go_loopw [3, 4] (fun bv iv wr => ∃ i : Nat, i ≤ t.outs.length ∧ iv = .int .i64 i ∧ Hid (FrB w0 wr bv (L3 ++ outsB (t.outs.take i)))) (fun _ iv _ => t.outs.length - (intOf iv).toNat)
  case atStart => exact ⟨0, by omega, rfl, hid (by simpa [outsB] using F3.out)⟩
  case round =>
    clear c0 c1 c2 c3 c4 c5 c6 c7 c8 c9
    obtain ⟨i, hi, rfl, HI⟩ := hrel
    obtain ⟨c0, c1, c2, c3, c4, c5, c6, c7, c8, c9⟩ := ten_cells ((HI.out.2.1).heap_some HB.out)
    by_cases hlt : i < t.outs.length
    · have hltB : decide ((i : Int) < (t.outs.length : Int)) = true := by simp; omega
      obtain ⟨o, hoi⟩ : ∃ o, t.outs[i]? = some o := ⟨_, List.getElem?_eq_getElem hlt⟩
      obtain ⟨b, q, ca, cc, rfl, e0', e1', e2', e3', hrc⟩ := HH.out.o.at hoi
      have e0 := (HX0.out.trans HI.out.2.1).cell_some e0'
      have e1 := (HX0.out.trans HI.out.2.1).cell_some e1'
      have e2 := (HX0.out.trans HI.out.2.1).cell_some e2'
      have e3 := (HX0.out.trans HI.out.2.1).cell_some e3'
      clear e0' e1' e2' e3'
      have hi0 : (0 : Int) ≤ (i : Int) := Int.natCast_nonneg _
      have hil : (i : Int) < (t.outs.length : Int) := by omega
      have hol : (t.outs.length : Int) ≤ 1000 := HOL.out
      have hocl : o.cipher.length ≤ 1000 := HS.out.c o (List.mem_of_getElem? hoi)
      obtain ⟨C0, hC0⟩ : ∃ C, C = L3 ++ outsB (t.outs.take i) := ⟨_, rfl⟩
      have hC1 : L3 ++ outsB (t.outs.take (i + 1)) = C0 ++ outB o := by rw [outsB_snoc hoi, ← List.append_assoc, hC0]
      have hCl : C0.length ≤ 20000 + 10000 * 1000 := by
        rw [hC0, List.length_append]
        have h1 := B3.out
        have h2 := outsB_le (l := t.outs.take i) (fun o ho => HS.out.c o (List.mem_of_mem_take ho))
        have h3 : (t.outs.take i).length ≤ t.outs.length := by rw [List.length_take]; omega
        have h4 := HS.out.o
        omega
      rw [← hC0] at HI
      have HC := hid (And.intro hC1 (And.intro hCl hocl))
      obtain ⟨ua, uc, rfl⟩ := HI.out.sl
      have HRC := hid hrc
      clear hoi hC0 hC1 hCl hrc hocl
      go_upto_region 8 with fail
      clear e0 e1 e2 e3 c0 c1 c2 c3 c4 c5 c6 c7 c8 c9
      obtain ⟨P, hP⟩ : ∃ P, P = wr.heap.size := ⟨_, rfl⟩
      obtain ⟨x0, hx0⟩ : ∃ x, x = wr.alloc (.cells #[uv o.commit, uv o.p.a, uv o.p.b, .slice ca o.cipher.length cc] 103) := ⟨_, rfl⟩
      have hy0 : Ext wr x0 := by rw [hx0]; exact (Ext.refl wr).alloc _
      have hbo : x0.heap[P]? = some (.cells #[uv o.commit, uv o.p.a, uv o.p.b, .slice ca o.cipher.length cc] 103 (0, 0)) := by rw [hx0, hP]; exact heap_new _ _
      rw [← hx0, ← hP]
      obtain ⟨o0, o1, o2, o3⟩ := four_cellsO hbo
      obtain ⟨S, hS⟩ : ∃ S, S = x0.heap.size := ⟨_, rfl⟩
      obtain ⟨x1, hx1⟩ : ∃ x, x = x0.alloc (.cells #[uv o.commit, uv o.p.a, uv o.p.b] 22) := ⟨_, rfl⟩
      have hy1 : Ext x0 x1 := by rw [hx1]; exact (Ext.refl x0).alloc _
      have hbs : x1.heap[S]? = some (.cells #[uv o.commit, uv o.p.a, uv o.p.b] 22 (0, 0)) := by rw [hx1, hS]; exact heap_new _ _
      have hlt' : ∀ k, blk (.slice ua C0.length uc) = some k → k ≠ P ∧ k ≠ S := fun k hk => by
        have h1 := ownsRow_lt HI.out.1 hk
        have h2 := hy0.size
        omega
      have HR0 := hid (((HI.out.ext hy0).ext hy1).rb (hy1.heap_some hbo) hbs hlt')
      have HX1 := hid hx1
      have HSS := hid hS
      have HY1 := hid (hy0.trans hy1)
      clear hx0 hy0 hbo hP hx1 hy1 hbs hS hlt'
      go_upto_region 9 with fail
      rw [← HX1.out, ← HSS.out]
      clear o0 o1 o2 o3
      go_wp2_with fail
      go_loopw [3, 7] (fun bv iv wr => ∃ k : Nat, k ≤ 3 ∧ iv = .int .i64 k ∧ Hid (RB w0 wr bv (C0 ++ cat ([o.commit, o.p.a, o.p.b].take k)) P S (.cells #[uv o.commit, uv o.p.a, uv o.p.b, .slice ca o.cipher.length cc] 103 (0, 0)) (.cells #[uv o.commit, uv o.p.a, uv o.p.b] 22 (0, 0)) ∧ Ext w0 wr)) (fun _ iv _ => 3 - (intOf iv).toNat)
      case atStart => exact ⟨0, by omega, rfl, hid ⟨by simpa [cat] using HR0.out, HR0.out.fr.2.1⟩⟩
      case round =>
        obtain ⟨k, hk, rfl, HK⟩ := hrel
        by_cases hk3 : k < 3
        · have hkB : decide ((k : Int) < 3) = true := by simp; omega
          obtain ⟨x, hxk⟩ : ∃ x, [o.commit, o.p.a, o.p.b][k]? = some x := ⟨_, List.getElem?_eq_getElem (by simpa using hk3)⟩
          have hcx : wr.cell? ⟨S, k, none⟩ = some (uv x) := by
            rw [cell_of HK.out.1.s]
            match k, hk3, hxk with
            | 0, _, hxk => simp at hxk; subst hxk; rfl
            | 1, _, hxk => simp at hxk; subst hxk; rfl
            | 2, _, hxk => simp at hxk; subst hxk; rfl
          have hcat := cat_take hxk
          have hk0 : (0 : Int) ≤ (k : Int) := Int.natCast_nonneg _
          have hk3i : (k : Int) < 3 := by omega
          obtain ⟨D, hD⟩ : ∃ D, D = C0 ++ cat ([o.commit, o.p.a, o.p.b].take k) := ⟨_, rfl⟩
          rw [← hD] at HK
          have HD : Hid (C0 ++ cat ([o.commit, o.p.a, o.p.b].take (k + 1)) = D ++ leB 8 x) := hid (by rw [hcat, ← List.append_assoc, hD])
          have BD : Hid (D.length ≤ 20000000) := hid (by rw [hD, List.length_append, cat_length, List.length_take]; have := HC.out.2.1; have : min k 3 ≤ 3 := Nat.min_le_right _ _; simp only [List.length_cons, List.length_nil] at *; omega)
          obtain ⟨ka, kc, rfl⟩ := HK.out.1.fr.sl
          clear hxk hcat hD
          go_wp2_with fail
          refine (rDigits_any x 8 wr (by omega)).mono ?_
          rintro e u ⟨y, rfl, g1, g2, g3⟩
          have EK := hid (HK.out.1.ext g2)
          obtain ⟨M, hM⟩ : ∃ M : List UInt8, M = leB 8 x := ⟨_, rfl⟩
          rw [← hM] at g1 HD
          have BM : Hid (M.length ≤ 8) := hid (by rw [hM, leB_length]; omega)
          have OK := hid g1
          obtain ⟨za, zc, rfl, -⟩ := ownsRow_rd g1
          clear g1 g2 g3 hcx hM
          go_wp2_with (at_builtin; refine wpList_app rfl _ _ 69 rfl 5 i0 (.int .u8 0) 1 1 Tryz.underlying69 HI0.out.1 HI0.out.2.1 HI0.out.2.2.1 HI0.out.2.2.2 rfl (by decide) _ D.length (bs D) rfl EK.out.fr.1 _ M.length (bs M) rfl (ownsRow_rd OK.out) (by rw [List.length_map, Nat.mul_one]) (bs_one _) (by have := BD.out; have := BM.out; unfold maxLen; omega) (by have := BD.out; have := BM.out; omega) ?_)
          intro v u2 hown hkk hb
          have H2 := hid (EK.out.app (m := M) hown hkk hb rfl rfl)
          clear hown hkk hb
          go_wp2_with fail
          go_roundw
          case rel => exact ⟨k + 1, by omega, by go_num, hid ⟨by rw [HD.out]; exact H2.out, H2.out.fr.2.1⟩⟩
          case measure => simp [intOf]; omega
        · have hke : k = 3 := by omega
          subst hke
          have hkB : decide (((3 : Nat) : Int) < 3) = false := by decide
          have hfr := HK.out.1
          rw [List.take_of_length_le (by simp)] at hfr
          obtain ⟨D, hD⟩ : ∃ D, D = C0 ++ cat [o.commit, o.p.a, o.p.b] := ⟨_, rfl⟩
          rw [← hD] at hfr
          have HD := hid hD
          have BD : Hid (D.length ≤ 20000000) := hid (by rw [hD, List.length_append, cat_length]; have := HC.out.2.1; simp only [List.length_cons, List.length_nil]; omega)
          have HFR := hid hfr
          obtain ⟨ka, kc, rfl⟩ := hfr.fr.sl
          obtain ⟨o0, o1, o2, o3⟩ := four_cellsO hfr.p
          clear hfr hD
          go_wp2_with fail
          refine (rList_any _ o.cipher _ (HRC.out.ext (HX0.out.trans HFR.out.fr.2.1)) (by have := HC.out.2.2; omega)).mono ?_
          rintro e u ⟨y, rfl, g1, g2, g3⟩
          have EK := hid (HFR.out.ext g2)
          obtain ⟨M, hM⟩ : ∃ M : List UInt8, M = listB o.cipher := ⟨_, rfl⟩
          rw [← hM] at g1
          have HMM := hid hM
          have BM : Hid (M.length ≤ 10000) := hid (by rw [hM, listB_length]; have := HC.out.2.2; omega)
          have OK := hid g1
          obtain ⟨za, zc, rfl, -⟩ := ownsRow_rd g1
          clear g1 g2 g3 hM o0 o1 o2 o3
          go_wp2_with (at_builtin; refine wpList_app rfl _ _ 69 rfl 5 i0 (.int .u8 0) 1 1 Tryz.underlying69 HI0.out.1 HI0.out.2.1 HI0.out.2.2.1 HI0.out.2.2.2 rfl (by decide) _ D.length (bs D) rfl EK.out.fr.1 _ M.length (bs M) rfl (ownsRow_rd OK.out) (by rw [List.length_map, Nat.mul_one]) (bs_one _) (by have := BD.out; have := BM.out; unfold maxLen; omega) (by have := BD.out; have := BM.out; omega) ?_)
          intro v u2 hown hkk hb
          have H2 := hid (EK.out.app (m := M) hown hkk hb rfl rfl)
          clear hown hkk hb
          go_wp2_with fail
          go_roundw
          case rel => exact ⟨i + 1, by omega, by go_num, hid (by
            rw [HC.out.1]
            have := H2.out.fr
            rw [HD.out, HMM.out] at this
            unfold outB
            simpa [cat, List.append_assoc] using this)⟩
          case measure => simp [intOf]; omega
    · have hie : i = t.outs.length := by omega
      subst hie
      have hltB : decide ((t.outs.length : Int) < (t.outs.length : Int)) = false := by simp
      have hf := HI.out
      rw [List.take_length] at hf
      obtain ⟨L4, hL4⟩ : ∃ L, L = L3 ++ outsB t.outs := ⟨_, rfl⟩
      rw [← hL4] at hf
      obtain ⟨ua, uc, rfl⟩ := hf.sl
      have F4 := hid hf
      have HL4 := hid hL4
      have B4 : Hid (L4.length ≤ 20000000) := hid (by
        rw [hL4, List.length_append]
        have h1 := B3.out
        have h2 := outsB_le HS.out.c
        have h4 := HS.out.o
        omega)
      clear hf hL4 HI
      go_upto_region 15 with fail
      obtain ⟨S, hS⟩ : ∃ S, S = wr.heap.size := ⟨_, rfl⟩
      obtain ⟨x1, hx1⟩ : ∃ x, x = wr.alloc (.cells #[uv t.deposit, uv t.withdraw, uv t.fee, uv t.account, uv t.nonce] 22) := ⟨_, rfl⟩
      have hy1 : Ext wr x1 := by rw [hx1]; exact (Ext.refl wr).alloc _
      have hbs : x1.heap[S]? = some (.cells #[uv t.deposit, uv t.withdraw, uv t.fee, uv t.account, uv t.nonce] 22 (0, 0)) := by rw [hx1, hS]; exact heap_new _ _
      have hlt' : ∀ k, blk (.slice ua L4.length uc) = some k → k ≠ N ∧ k ≠ S := fun k hk => by
        have h1 := ownsRow_lt F4.out.1 hk
        have h2 := F4.out.2.2 k hk
        have h3 := HNW.out
        omega
      have HR0 := hid ((F4.out.ext hy1).rb ((F4.out.2.1.trans hy1).heap_some HB.out) hbs hlt')
      rw [← hx1, ← hS]
      clear hx1 hy1 hbs hS hlt' c0 c1 c2 c3 c4 c5 c6 c7 c8 c9
      go_wp2_with fail
      go_loopw [3, 9] (fun bv iv wr => ∃ k : Nat, k ≤ 5 ∧ iv = .int .i64 k ∧ Hid (RB w0 wr bv (L4 ++ cat ([t.deposit, t.withdraw, t.fee, t.account, t.nonce].take k)) N S (.cells #[uv t.anchor, .slice ma t.marks.length mc, .slice oa t.outs.length oc, uv t.deposit, uv t.withdraw, uv t.fee, uv t.account, uv t.nonce, .int .i64 t.expiry, .slice pa t.proof.length pc] 101 (0, 0)) (.cells #[uv t.deposit, uv t.withdraw, uv t.fee, uv t.account, uv t.nonce] 22 (0, 0)))) (fun _ iv _ => 5 - (intOf iv).toNat)
      case atStart => exact ⟨0, by omega, rfl, hid (by simpa [cat] using HR0.out)⟩
      case round =>
        obtain ⟨k, hk, rfl, HK⟩ := hrel
        by_cases hk5 : k < 5
        · have hkB : decide ((k : Int) < 5) = true := by simp; omega
          obtain ⟨x, hxk⟩ : ∃ x, [t.deposit, t.withdraw, t.fee, t.account, t.nonce][k]? = some x := ⟨_, List.getElem?_eq_getElem (by simpa using hk5)⟩
          have hcx : wr.cell? ⟨S, k, none⟩ = some (uv x) := by
            rw [cell_of HK.out.s]
            match k, hk5, hxk with
            | 0, _, hxk => simp at hxk; subst hxk; rfl
            | 1, _, hxk => simp at hxk; subst hxk; rfl
            | 2, _, hxk => simp at hxk; subst hxk; rfl
            | 3, _, hxk => simp at hxk; subst hxk; rfl
            | 4, _, hxk => simp at hxk; subst hxk; rfl
          have hcat := cat_take hxk
          have hk0 : (0 : Int) ≤ (k : Int) := Int.natCast_nonneg _
          have hk5i : (k : Int) < 5 := by omega
          obtain ⟨D, hD⟩ : ∃ D, D = L4 ++ cat ([t.deposit, t.withdraw, t.fee, t.account, t.nonce].take k) := ⟨_, rfl⟩
          rw [← hD] at HK
          have HD : Hid (L4 ++ cat ([t.deposit, t.withdraw, t.fee, t.account, t.nonce].take (k + 1)) = D ++ leB 8 x) := hid (by rw [hcat, ← List.append_assoc, hD])
          have BD : Hid (D.length ≤ 30000000) := hid (by rw [hD, List.length_append, cat_length, List.length_take]; have := B4.out; have : min k 5 ≤ 5 := Nat.min_le_right _ _; simp only [List.length_cons, List.length_nil] at *; omega)
          obtain ⟨ka, kc, rfl⟩ := HK.out.fr.sl
          clear hxk hcat hD
          go_wp2_with fail
          refine (rDigits_any x 8 wr (by omega)).mono ?_
          rintro e u ⟨y, rfl, g1, g2, g3⟩
          have EK := hid (HK.out.ext g2)
          obtain ⟨M, hM⟩ : ∃ M : List UInt8, M = leB 8 x := ⟨_, rfl⟩
          rw [← hM] at g1 HD
          have BM : Hid (M.length ≤ 8) := hid (by rw [hM, leB_length]; omega)
          have OK := hid g1
          obtain ⟨za, zc, rfl, -⟩ := ownsRow_rd g1
          clear g1 g2 g3 hcx hM
          go_wp2_with (at_builtin; refine wpList_app rfl _ _ 69 rfl 5 i0 (.int .u8 0) 1 1 Tryz.underlying69 HI0.out.1 HI0.out.2.1 HI0.out.2.2.1 HI0.out.2.2.2 rfl (by decide) _ D.length (bs D) rfl EK.out.fr.1 _ M.length (bs M) rfl (ownsRow_rd OK.out) (by rw [List.length_map, Nat.mul_one]) (bs_one _) (by have := BD.out; have := BM.out; unfold maxLen; omega) (by have := BD.out; have := BM.out; omega) ?_)
          intro v u2 hown hkk hb
          have H2 := hid (EK.out.app (m := M) hown hkk hb rfl rfl)
          clear hown hkk hb
          go_wp2_with fail
          go_roundw
          case rel => exact ⟨k + 1, by omega, by go_num, hid (by rw [HD.out]; exact H2.out)⟩
          case measure => simp [intOf]; omega
        · have hke : k = 5 := by omega
          subst hke
          have hkB : decide (((5 : Nat) : Int) < 5) = false := by decide
          have hfr := HK.out
          rw [List.take_of_length_le (by simp)] at hfr
          obtain ⟨L5, hL5⟩ : ∃ D, D = L4 ++ cat [t.deposit, t.withdraw, t.fee, t.account, t.nonce] := ⟨_, rfl⟩
          rw [← hL5] at hfr
          have HL5 := hid hL5
          have B5 : Hid (L5.length ≤ 30000000) := hid (by rw [hL5, List.length_append, cat_length]; have := B4.out; simp only [List.length_cons, List.length_nil]; omega)
          have F5 := hid hfr.fr
          obtain ⟨ka, kc, rfl⟩ := hfr.fr.sl
          obtain ⟨c0, c1, c2, c3, c4, c5, c6, c7, c8, c9⟩ := ten_cells hfr.p
          clear hfr hL5 HK
          go_wp2_with fail
          refine (rLen_any t.expiry _).mono ?_
          rintro e u6 ⟨y6, rfl, g1, g2, g3⟩
          obtain ⟨M6, hM6⟩ : ∃ M : List UInt8, M = lenB t.expiry := ⟨_, rfl⟩
          rw [← hM6] at g1
          have HM6 := hid hM6
          have BM6 : Hid (M6.length ≤ 4) := hid (by rw [hM6]; rw [lenB_length]; omega)
          have E6 := hid (F5.out.ext g2)
          have O6 := hid g1
          obtain ⟨ya6, yc6, rfl, -⟩ := ownsRow_rd g1
          clear c0 c1 c2 c3 c4 c5 c6 c7 c8 c9
          clear g1 g2 g3 hM6
          go_wp2_with (at_builtin; refine wpList_app rfl _ _ 69 rfl 5 i0 (.int .u8 0) 1 1 Tryz.underlying69 HI0.out.1 HI0.out.2.1 HI0.out.2.2.1 HI0.out.2.2.2 rfl (by decide) _ L5.length (bs L5) rfl E6.out.1 _ M6.length (bs M6) rfl (ownsRow_rd O6.out) (by rw [List.length_map, Nat.mul_one]) (bs_one _) (by have := B5.out; have := BM6.out; unfold maxLen; omega) (by have := B5.out; have := BM6.out; omega) ?_)
          intro v6 w6 hown hk hb
          have hf := E6.out.app (m := M6) hown hk hb rfl rfl
          obtain ⟨L6, hL6⟩ : ∃ L, L = L5 ++ M6 := ⟨_, rfl⟩
          rw [← hL6] at hf
          have F6 := hid hf
          have HL6 := hid hL6
          have B6 : Hid (L6.length ≤ 30000004) := hid (by rw [hL6, List.length_append]; have := B5.out; have := BM6.out; omega)
          obtain ⟨sa6, sc6, rfl⟩ := hf.sl
          clear hown hk hb hf hL6
          obtain ⟨c0, c1, c2, c3, c4, c5, c6, c7, c8, c9⟩ := ten_cells ((F6.out.2.1).heap_some HB.out)
          go_wp2_with fail
          refine (rBytes_any _ t.proof _ (HH.out.p.ext (HX0.out.trans F6.out.2.1)) (by have := HS.out.p; omega)).mono ?_
          rintro e u7 ⟨y7, rfl, g1, g2, g3⟩
          obtain ⟨M7, hM7⟩ : ∃ M : List UInt8, M = bytesB t.proof := ⟨_, rfl⟩
          rw [← hM7] at g1
          have HM7 := hid hM7
          have BM7 : Hid (M7.length ≤ 150000000) := hid (by rw [hM7]; unfold bytesB; rw [List.length_append, lenB_length]; have := HS.out.p; omega)
          have E7 := hid (F6.out.ext g2)
          have O7 := hid g1
          obtain ⟨ya7, yc7, rfl, -⟩ := ownsRow_rd g1
          clear c0 c1 c2 c3 c4 c5 c6 c7 c8 c9
          clear g1 g2 g3 hM7
          go_wp2_with (at_builtin; refine wpList_app rfl _ _ 69 rfl 5 i0 (.int .u8 0) 1 1 Tryz.underlying69 HI0.out.1 HI0.out.2.1 HI0.out.2.2.1 HI0.out.2.2.2 rfl (by decide) _ L6.length (bs L6) rfl E7.out.1 _ M7.length (bs M7) rfl (ownsRow_rd O7.out) (by rw [List.length_map, Nat.mul_one]) (bs_one _) (by have := B6.out; have := BM7.out; unfold maxLen; omega) (by have := B6.out; have := BM7.out; omega) ?_)
          intro v7 w7 hown hk hb
          have hf := E7.out.app (m := M7) hown hk hb rfl rfl
          obtain ⟨L7, hL7⟩ : ∃ L, L = L6 ++ M7 := ⟨_, rfl⟩
          rw [← hL7] at hf
          have F7 := hid hf
          have HL7 := hid hL7
          have B7 : Hid (L7.length ≤ 200000000) := hid (by rw [hL7, List.length_append]; have := B6.out; have := BM7.out; omega)
          obtain ⟨sa7, sc7, rfl⟩ := hf.sl
          clear hown hk hb hf hL7
          go_wp2_with fail
          go_ret
          have hb : L7 = txB t := by
            rw [HL7.out, HM7.out, HL6.out, HM6.out, HL5.out, HL4.out, HL3.out, HM3.out, HL2.out, HM2.out, HL1.out]
            unfold txB txTail
            simp [cat, List.append_assoc]
          rw [← hb]
          exact ⟨_, rfl, F7.out.1, HX0.out.trans F7.out.2.1, fun k hk => Nat.le_trans HX0.out.size (F7.out.2.2 k hk)⟩
end Go.Proofs.YtcikjcjfcanloaaGreat
