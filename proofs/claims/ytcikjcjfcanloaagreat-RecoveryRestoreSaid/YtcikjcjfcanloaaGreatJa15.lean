/- Texts of this claim, joined: WalNew, RW1, RW2, RefTxB, RefTx. -/
import Derived.Test.YtcikjcjfcanloaaGreatJa4
import Derived.Test.YtcikjcjfcanloaaGreatJa7
import Derived.Test.YtcikjcjfcanloaaGreatJa8
import Derived.Test.YtcikjcjfcanloaaGreatJa9
import Derived.Test.YtcikjcjfcanloaaGreatJa10
import Derived.Test.YtcikjcjfcanloaaGreatJa14
set_option linter.unusedSimpArgs false
namespace Go.Proofs.YtcikjcjfcanloaaGreat
open Go.RowKit
attribute [local irreducible] perm fAdd fMul fPow fSub fNeg fRed hashU drawOf nextState cipSeal
abbrev rlVal (r : Rl) : Value := .agg #[.int .i64 r.mode, .int .i64 r.depth, .int .i64 r.pb, .int .i64 r.pu, .int .i64 r.pq, uv r.reward, .int .i64 r.window, .int .i64 r.finality, uv r.work]
theorem isIdeal_any {w : World} {b : Nat} {M : Orc} {F : Nat → Prop} (h : OrcAt w b M F) : Calls Tryz.prog 67 #[.pointer (some ⟨b, 0, none⟩)] w fun e w' => e = .returned (.bool M.ideal) ∧ Ext w w' := by
  obtain ⟨qv, mk, ms, mp, Q, S, hin⟩ := h
  have c0 := cell_of hin.self 0
  clear hin
  generalize M.ideal = i at *
  change w.cell? ⟨b, 0, none⟩ = some (.bool i) at c0
  go_enter Tryz.func67, Tryz.ntmps67
  go_wp2_with fail
  go_ret
  exact ⟨rfl, Ext.refl w⟩
/-- The wallet at W (its oracle at ob is a real one) has scanned the blocks l; G: its blocks. -/
def WalAt (w : World) (W d : Nat) (seed : UInt64) (l : List BlkT) (G : Nat → Prop) : Prop :=
  ∃ r ps ob LB nv pv FO FT, WalIn w W d r seed (stW seed l).leaves (stW seed l).notes ps ob LB nv pv FO FT (WF W FT nv pv) ∧ ps.map (·.1) = psW seed l ∧ G = WF W FT nv pv
theorem WalAt.ext {w w' : World} {W d : Nat} {seed : UInt64} {l : List BlkT} {G : Nat → Prop} (h : WalAt w W d seed l G) (k : Ext w w') : WalAt w' W d seed l G := by
  obtain ⟨r, ps, ob, LB, nv, pv, FO, FT, h1, h2, h3⟩ := h
  exact ⟨r, ps, ob, LB, nv, pv, FO, FT, h1.ext k, h2, h3⟩
theorem WalAt.lt {w : World} {W d : Nat} {seed : UInt64} {l : List BlkT} {G : Nat → Prop} (h : WalAt w W d seed l G) (i : Nat) (hi : G i) : i < w.heap.size := by
  obtain ⟨r, ps, ob, LB, nv, pv, FO, FT, h1, h2, rfl⟩ := h
  rcases hi with e | e | e | e
  · subst e; exact heap_lt h1.self
  · exact h1.tl i e
  · exact ownsRow_lt h1.notes e
  · exact ownsRow_lt h1.past e
theorem nine_cells {w : World} {b : Nat} {c0 c1 c2 c3 c4 c5 c6 c7 c8 : Value} {T : TypeId} (h : w.heap[b]? = some (.cells #[c0, c1, c2, c3, c4, c5, c6, c7, c8] T (0, 0))) :
    w.cell? ⟨b, 0, none⟩ = some c0 ∧ w.cell? ⟨b, 1, none⟩ = some c1 ∧ w.cell? ⟨b, 2, none⟩ = some c2 ∧ w.cell? ⟨b, 3, none⟩ = some c3 ∧ w.cell? ⟨b, 4, none⟩ = some c4 ∧ w.cell? ⟨b, 5, none⟩ = some c5 ∧ w.cell? ⟨b, 6, none⟩ = some c6 ∧ w.cell? ⟨b, 7, none⟩ = some c7 ∧ w.cell? ⟨b, 8, none⟩ = some c8 :=
  ⟨cell_of h 0, cell_of h 1, cell_of h 2, cell_of h 3, cell_of h 4, cell_of h 5, cell_of h 6, cell_of h 7, cell_of h 8⟩
set_option maxRecDepth 100000 in
set_option maxHeartbeats 12800000 in
theorem walNew_any {w : World} {ob : Nat} {FO : Nat → Prop} (ho : OrcAt w ob realM FO) (r : Rl) (d : Nat) (hd : r.depth = (d : Int)) (h1 : 1 ≤ d) (h12 : d ≤ 12) (hm : r.mode ≠ 3) (seed : UInt64)
    (RU : ∀ v, Calls Tryz.prog 66 #[rlVal r] v fun e w' => e = .returned (.int .i64 0) ∧ Ext v w') :
    Calls Tryz.prog 27 #[.pointer (some ⟨ob, 0, none⟩), rlVal r, uv seed] w fun e w' => ∃ W G, e = .returned (.tuple #[.pointer (some ⟨W, 0, none⟩), .int .i64 0]) ∧ Ext w w' ∧ WalAt w' W d (fRed seed) [] G ∧ ∀ i, G i → w.heap.size ≤ i := by
  have HO := hid ho
  have HRU := hid RU
  have II : Hid (∀ v, Ext w v → Calls Tryz.prog 67 #[.pointer (some ⟨ob, 0, none⟩)] v fun e w' => e = .returned (.bool false) ∧ Ext v w') := hid fun v k => isIdeal_any (ho.ext k)
  have TN := hid (treeNew_any d h1 h12)
  have KS := hid (kSpend_any (fRed seed))
  have HDEP := hid (And.intro hd (And.intro h1 h12))
  obtain ⟨mode, depth, pb, pu, pq, reward, window, finality, work⟩ := r
  simp only at hd hm RU
  unfold rlVal at HRU ⊢
  simp only at HRU ⊢
  subst hd
  obtain ⟨N, hN⟩ : ∃ N, N = w.heap.size := ⟨_, rfl⟩
  obtain ⟨w0, hw0⟩ : ∃ w0, w0 = w.alloc (.cells #[.int .i64 mode, .int .i64 (d : Int), .int .i64 pb, .int .i64 pu, .int .i64 pq, uv reward, .int .i64 window, .int .i64 finality, uv work] 45) := ⟨_, rfl⟩
  have hx0 : Ext w w0 := by rw [hw0]; exact (Ext.refl w).alloc _
  have hb0 : w0.heap[N]? = some (.cells #[.int .i64 mode, .int .i64 (d : Int), .int .i64 pb, .int .i64 pu, .int .i64 pq, uv reward, .int .i64 window, .int .i64 finality, uv work] 45 (0, 0)) := by rw [hw0, hN]; exact heap_new _ _
  have HB := hid hb0
  have HX0 := hid hx0
  have HW := hid hw0
  have hmB : decide (mode = 3) = false := decide_eq_false hm
  have hmB2 : (mode == 3) = false := by rw [beq_eq_false_iff_ne]; exact hm
  have HC : Hid (∀ u, Ext w0 u → (u.cell? ⟨N, 0, none⟩ = some (.int .i64 mode) ∧ u.cell? ⟨N, 1, none⟩ = some (.int .i64 (d : Int)) ∧ u.cell? ⟨N, 2, none⟩ = some (.int .i64 pb) ∧ u.cell? ⟨N, 3, none⟩ = some (.int .i64 pu) ∧ u.cell? ⟨N, 4, none⟩ = some (.int .i64 pq) ∧ u.cell? ⟨N, 5, none⟩ = some (uv reward) ∧ u.cell? ⟨N, 6, none⟩ = some (.int .i64 window) ∧ u.cell? ⟨N, 7, none⟩ = some (.int .i64 finality) ∧ u.cell? ⟨N, 8, none⟩ = some (uv work)) ∧ Ext w0 u) := hid fun u k => ⟨nine_cells (k.heap_some HB.out), k⟩
  have hsm : ((seed.toNat : Int)).tmod 18446744069414584321 = ((fRed seed).toNat : Int) := by rw [Int.tmod_eq_emod_of_nonneg (Int.natCast_nonneg _), fRed_toNat]; rfl
  have HSM := hid hsm
  obtain ⟨s', hs'⟩ : ∃ s', s' = fRed seed := ⟨_, rfl⟩
  rw [← hs'] at HSM KS ⊢
  have HSPR : Hid (s' = fRed seed) := hid hs'
  clear hw0 hx0 hb0 ho RU hsm hs'
  obtain ⟨⟨c0, c1, c2, c3, c4, c5, c6, c7, c8⟩, -⟩ := HC.out w0 (Ext.refl w0)
  go_enter Tryz.func27, Tryz.ntmps27
  go_upto_region 1 with fail
  rw [← HW.out, ← hN]
  clear hN HW
  go_wp2_with fail
  refine (HRU.out _).mono ?_
  rintro e w1 ⟨rfl, hx⟩
  have X1 := hid hx
  clear hx c0 c1 c2 c3 c4 c5 c6 c7 c8
  go_wp2_with fail
  refine wp_region_T (fun u => (u.cell? ⟨N, 0, none⟩ = some (.int .i64 mode) ∧ u.cell? ⟨N, 1, none⟩ = some (.int .i64 (d : Int)) ∧ u.cell? ⟨N, 2, none⟩ = some (.int .i64 pb) ∧ u.cell? ⟨N, 3, none⟩ = some (.int .i64 pu) ∧ u.cell? ⟨N, 4, none⟩ = some (.int .i64 pq) ∧ u.cell? ⟨N, 5, none⟩ = some (uv reward) ∧ u.cell? ⟨N, 6, none⟩ = some (.int .i64 window) ∧ u.cell? ⟨N, 7, none⟩ = some (.int .i64 finality) ∧ u.cell? ⟨N, 8, none⟩ = some (uv work)) ∧ Ext w0 u) 5 [(0, true), (2, true), (3, true), (4, true), (1, false), (5, false)] (by kernel_rfl) (by kernel_rfl) (by intro c a d v w h; cases d <;> exact h) ?_
  intro ops hops
  have HSS := HC.out _ (X1.out.trans (Ext.refl w1).drew)
  iterate 4
    refine wpT_take (v := ?_) (by rw [hops, List.getElem?_toArray]; rfl) (by first | rfl | (rw [hops]; rfl)) ?_ HSS ?_
    rotate_left
    · intro v h; go_simp; with_reducible rfl
    simp only [Act.put, List.getElem_toArray, List.getElem_cons_zero, List.getElem_cons_succ, List.setIfInBounds_toArray, List.set_cons_zero, List.set_cons_succ]
  refine wpT_step (by rw [hops, List.getElem?_toArray]; rfl) (by first | rfl | (rw [hops]; rfl)) ?_
  intro K hK
  go_wp2_with fail
  refine (II.out _ (HX0.out.trans HSS.2)).mono ?_
  rintro e w2 ⟨rfl, hx⟩
  have X2 := hid (HSS.2.trans hx)
  clear hx HSS II
  refine hK _ _ ⟨fun _ => HC.out _ X2.out, ?_⟩
  clear hK K
  refine wpT_step (by rw [hops, List.getElem?_toArray]; rfl) (by first | rfl | (rw [hops]; rfl)) ?_
  intro K hK
  go_wp2_with fail
  try (with_reducible refine ⟨fun h => absurd h (by decide), ?_⟩)
  try rw [wpT_nil]
  try clear hops ops
  obtain ⟨⟨c0, c1, c2, c3, c4, c5, c6, c7, c8⟩, -⟩ := HC.out w2 X2.out
  go_wp2_with fail
  refine (TN.out _).mono ?_
  rintro e w3 ⟨LB, FT, rfl, hx, ht, hf⟩
  have X3 := hid (X2.out.trans hx)
  have HT := hid (And.intro ht (fun i hi => Nat.le_trans (HX0.out.trans X2.out).size (hf i hi)))
  clear hx ht hf TN c0 c1 c2 c3 c4 c5 c6 c7 c8
  have hsm := HSM.out
  go_wp2_with fail
  clear hsm
  refine wp_region_T (fun u => (u.cell? ⟨N, 0, none⟩ = some (.int .i64 mode) ∧ u.cell? ⟨N, 1, none⟩ = some (.int .i64 (d : Int)) ∧ u.cell? ⟨N, 2, none⟩ = some (.int .i64 pb) ∧ u.cell? ⟨N, 3, none⟩ = some (.int .i64 pu) ∧ u.cell? ⟨N, 4, none⟩ = some (.int .i64 pq) ∧ u.cell? ⟨N, 5, none⟩ = some (uv reward) ∧ u.cell? ⟨N, 6, none⟩ = some (.int .i64 window) ∧ u.cell? ⟨N, 7, none⟩ = some (.int .i64 finality) ∧ u.cell? ⟨N, 8, none⟩ = some (uv work)) ∧ Ext w0 u) 6 [(0, true), (1, true), (2, true), (3, true), (5, true), (4, false), (6, false), (7, false), (8, false), (9, false)] (by kernel_rfl) (by kernel_rfl) (by intro c a d v w h; cases d <;> exact h) ?_
  intro ops hops
  have HSS := HC.out _ (X3.out.trans (Ext.refl w3).drew)
  have HXD : Ext w3 w3.drew := (Ext.refl w3).drew
  iterate 5
    refine wpT_take (v := ?_) (by rw [hops, List.getElem?_toArray]; rfl) (by first | rfl | (rw [hops]; rfl)) ?_ HSS ?_
    rotate_left
    · intro v h; go_simp; with_reducible rfl
    simp only [Act.put, List.getElem_toArray, List.getElem_cons_zero, List.getElem_cons_succ, List.setIfInBounds_toArray, List.set_cons_zero, List.set_cons_succ]
  refine wpT_step (by rw [hops, List.getElem?_toArray]; rfl) (by first | rfl | (rw [hops]; rfl)) ?_
  intro K hK
  go_wp2_with fail
  refine (KS.out _).mono ?_
  rintro e w4 ⟨rfl, hx⟩
  have X4 := hid (HXD.trans hx)
  clear hx HSS KS HXD
  refine hK _ _ ⟨fun _ => HC.out _ (X3.out.trans X4.out), ?_⟩
  clear hK K
  refine wpT_step (by rw [hops, List.getElem?_toArray]; rfl) (by first | rfl | (rw [hops]; rfl)) ?_
  intro K hK
  go_wp2_with fail
  try (with_reducible refine ⟨fun h => absurd h (by decide), ?_⟩)
  try rw [← hops]
  refine wpT_step (by rw [hops, List.getElem?_toArray]; rfl) (by first | rfl | (rw [hops]; rfl)) ?_
  intro K hK
  go_wp2_with fail
  try (with_reducible refine ⟨fun h => absurd h (by decide), ?_⟩)
  try rw [← hops]
  refine wpT_step (by rw [hops, List.getElem?_toArray]; rfl) (by first | rfl | (rw [hops]; rfl)) ?_
  intro K hK
  go_wp2_with fail
  try (with_reducible refine ⟨fun h => absurd h (by decide), ?_⟩)
  try rw [← hops]
  refine wpT_step (by rw [hops, List.getElem?_toArray]; rfl) (by first | rfl | (rw [hops]; rfl)) ?_
  intro K hK
  go_wp2_with fail
  try (with_reducible refine ⟨fun h => absurd h (by decide), ?_⟩)
  try rw [wpT_nil]
  try clear hops ops
  go_wp2_with fail
  refine bodyPost_ret (v := .tuple #[.pointer (some ⟨w4.heap.size, 0, none⟩), .int .i64 0]) (by simp [results, Tryz.results27, go_sem]) rfl ?_
  have hx4 := X3.out.trans X4.out
  have hxa := hx4.alloc (.cells #[.pointer (some ⟨ob, 0, none⟩), .int .i64 mode, .int .i64 (d : Int), .int .i64 pb, .int .i64 pu, .int .i64 pq, uv reward, .int .i64 window, .int .i64 finality, uv work, uv s', uv (kSpend s'), .pointer (some ⟨LB, 0, none⟩), .slice none 0 0, .slice none 0 0] 115)
  have hxw := HX0.out.trans hxa
  have ht4 := (HT.out.1.ext X4.out).ext ((Ext.refl w4).alloc (.cells #[.pointer (some ⟨ob, 0, none⟩), .int .i64 mode, .int .i64 (d : Int), .int .i64 pb, .int .i64 pu, .int .i64 pq, uv reward, .int .i64 window, .int .i64 finality, uv work, uv s', uv (kSpend s'), .pointer (some ⟨LB, 0, none⟩), .slice none 0 0, .slice none 0 0] 115))
  have hnew := heap_new w4 (.cells #[.pointer (some ⟨ob, 0, none⟩), .int .i64 mode, .int .i64 (d : Int), .int .i64 pb, .int .i64 pu, .int .i64 pq, uv reward, .int .i64 window, .int .i64 finality, uv work, uv s', uv (kSpend s'), .pointer (some ⟨LB, 0, none⟩), .slice none 0 0, .slice none 0 0] 115)
  have hftl : ∀ i, FT i → i < w4.heap.size := fun i hi => by
    obtain ⟨LV, vs, ls, h1, -⟩ := HT.out.1
    exact Nat.lt_of_lt_of_le (h1.foot.2.2.2 i hi) X4.out.size
  have hw4 := (HX0.out.trans hx4).size
  have hG : ∀ i, WF w4.heap.size FT (.slice none 0 0) (.slice none 0 0) i → w.heap.size ≤ i := fun i hi => by
    rcases hi with e | e | e | e
    · omega
    · exact HT.out.2 i e
    · cases e
    · cases e
  refine ⟨w4.heap.size, WF w4.heap.size FT (.slice none 0 0) (.slice none 0 0), rfl, hxw, ⟨⟨mode, d, pb, pu, pq, reward, window, finality, work⟩, [], ob, LB, .slice none 0 0, .slice none 0 0, FO, FT, { self := hnew, dep := ⟨rfl, HDEP.out.2.1, HDEP.out.2.2⟩, sub := fun i hi => hi, orc := fun u ku => (HO.out.ext (hxw.kp ku hG)), tree := ht4, notes := World.ownsRow_nil _ _ _ _, past := World.ownsRow_nil _ _ _ _, sps := (fun x hx => by cases hx), wt := fun e => by have := hftl _ e; omega, wn := (fun e => by cases e), wp := (fun e => by cases e), tn := (fun i e => by cases e), tp := (fun i e => by cases e), np := (fun i e => by cases e), tl := fun i hi => Nat.lt_of_lt_of_le (hftl i hi) ((Ext.refl w4).alloc _).size }, rfl, rfl⟩, hG⟩
/-- It has scanned l' now. -/
def WalTo (w : World) (W d : Nat) (seed : UInt64) (l' : List BlkT) (G : Nat → Prop) (w' : World) : Prop := ∃ G', WalAt w' W d seed l' G' ∧ Kp G w w' ∧ ∀ i, G' i → G i ∨ w.heap.size ≤ i
theorem WalTo.refl {w w' : World} {W d : Nat} {seed : UInt64} {l : List BlkT} {G : Nat → Prop} (h : WalAt w W d seed l G) (k : Ext w w') : WalTo w W d seed l G w' := ⟨G, h.ext k, .of_ext k, fun _ e => .inl e⟩
theorem WalTo.trans {w w' w'' : World} {W d : Nat} {seed : UInt64} {l'' : List BlkT} {G G' : Nat → Prop} (hk : Kp G w w') (hn : ∀ i, G' i → G i ∨ w.heap.size ≤ i) (h : WalTo w' W d seed l'' G' w'') : WalTo w W d seed l'' G w'' := by
  obtain ⟨G2, h1, h2, h3⟩ := h
  refine ⟨G2, h1, hk.chain hn h2, fun i hi => ?_⟩
  rcases h3 i hi with e | e
  · exact hn i e
  · have := hk.size
    exact .inr (by omega)
theorem depth_le {w : World} {W d : Nat} {seed : UInt64} {l : List BlkT} {G : Nat → Prop} (h : WalAt w W d seed l G) : d ≤ 12 := by
  obtain ⟨r, ps, ob, LB, nv, pv, FO, FT, h1, h2, rfl⟩ := h
  exact h1.dep.2.2
theorem pow12 {d : Nat} (h : d ≤ 12) : 2 ^ d ≤ 4096 := by
  have : 2 ^ d ≤ 2 ^ 12 := Nat.pow_le_pow_right (by omega) h
  omega
theorem wApply_sub {w : World} {W d : Nat} {seed : UInt64} {l : List BlkT} {G : Nat → Prop} (h : WalAt w W d seed l G) (hl : l.length ≤ 1000) (hok : okAll d l) {wB : World} (hB : ∀ u, Kp G w u → Sub wB u) (b : BlkT) (tv : Value) (hb : RdTs wB tv b.txs) (hn : b.txs.length ≤ 100) (hs : ∀ t ∈ b.txs, TSm t) :
    Calls Tryz.prog 42 #[.pointer (some ⟨W, 0, none⟩), blkVal b tv] w fun e w' => e = .returned (.int .i64 (checkW d l b)) ∧ WalTo w W d seed (if checkW d l b = 0 then l ++ [b] else l) G w' := by
  have h0 := h
  have hd := depth_le h
  obtain ⟨r, ps, ob, LB, nv, pv, FO, FT, h1, h2, rfl⟩ := h
  have hpl : ps.length = l.length := by rw [← psW_length seed l, ← h2, List.length_map]
  have hL := fitsAll_stW ((okAll_fits (seed := seed)).2 hok)
  have hp := pow12 hd
  have hc : fitsW d ps.length (stW seed l).leaves.length b = checkW d l b := by rw [hpl]; exact fits_check d seed l b
  refine (walApply_sub h1 (stW_ok seed l) (by omega) (by omega) hB b tv hb hn hs).mono ?_
  rintro e w' ⟨rfl, hno, hyes⟩
  rw [hc] at hno hyes ⊢
  refine ⟨rfl, ?_⟩
  by_cases hz : checkW d l b = 0
  · rw [if_pos hz]
    obtain ⟨nv', pv', FT', sv', g1, g2, g3⟩ := hyes hz
    refine ⟨_, ⟨r, _, ob, LB, nv', pv', FO, FT', by rw [stW_snoc, ← hpl]; exact g1, ?_, rfl⟩, g2, g3⟩
    rw [List.map_append, h2, psW_snoc, stW_snoc, ← hpl]
    rfl
  · rw [if_neg hz]
    exact .refl h0 (hno hz)
theorem wApply_any {w : World} {W d : Nat} {seed : UInt64} {l : List BlkT} {G : Nat → Prop} (h : WalAt w W d seed l G) (hl : l.length ≤ 1000) (hok : okAll d l) {wB : World} (hB : Ext wB w) (hA : ∀ i, G i → wB.heap.size ≤ i) (b : BlkT) (tv : Value) (hb : RdTs wB tv b.txs) (hn : b.txs.length ≤ 100) (hs : ∀ t ∈ b.txs, TSm t) :
    Calls Tryz.prog 42 #[.pointer (some ⟨W, 0, none⟩), blkVal b tv] w fun e w' => e = .returned (.int .i64 (checkW d l b)) ∧ WalTo w W d seed (if checkW d l b = 0 then l ++ [b] else l) G w' := by
  exact wApply_sub h hl hok (fun u k => .of_ext (hB.kp k hA)) b tv hb hn hs
open Classical in
/-- The world without the blocks of G. -/
noncomputable def hole (G : Nat → Prop) (w : World) : World := { w with heap := w.heap.mapIdx fun i o => if G i then .cells #[] 0 (0, 0) else o }
theorem hole_block {G : Nat → Prop} {w : World} {i : Nat} (h : ¬ G i) : (hole G w).heap[i]? = w.heap[i]? := by
  unfold hole
  simp only [Array.getElem?_mapIdx]
  cases w.heap[i]? with
  | none => rfl
  | some o => simp [h]
theorem hole_none {G : Nat → Prop} {w : World} {p : Addr} {v : Value} (h : (hole G w).cell? p = some v) : ¬ G p.block ∧ p.block < w.heap.size := by
  have hlt : p.block < w.heap.size := by
    rcases Nat.lt_or_ge p.block w.heap.size with hl | hl
    · exact hl
    · unfold hole at h
      simp [World.cell?, Array.getElem?_mapIdx, Array.getElem?_eq_none hl] at h
  refine ⟨fun hg => ?_, hlt⟩
  unfold hole at h
  simp [World.cell?, Array.getElem?_mapIdx, Array.getElem?_eq_getElem hlt, hg] at h
theorem hole_sub {G : Nat → Prop} {w u : World} (k : Kp G w u) : Sub (hole G w) u := fun p v hp => by
  obtain ⟨h1, h2⟩ := hole_none hp
  rw [World.cell?_of_block (w := hole G w) (by rw [hole_block h1]; exact k.block p.block h2 h1)]
  exact hp
theorem RdC'.hole {G : Nat → Prop} {w : World} {v : Value} {n : Nat} {cells : List Value} (h : RdC' w v n cells) (hb : ∀ k, blk v = some k → ¬ G k) : RdC' (hole G w) v n cells :=
  h.of_blocks fun k hk _ => hole_block (hb k hk)
theorem wUndo_any {w : World} {W d : Nat} {seed : UInt64} {l : List BlkT} {G : Nat → Prop} (h : WalAt w W d seed l G) (hl : l.length ≤ 1000) (hok : okAll d l) (hbs : ∀ b ∈ l, b.txs.length ≤ 100) :
    Calls Tryz.prog 30 #[.pointer (some ⟨W, 0, none⟩)] w fun e w' => e = .returned (.bool (decide (0 < l.length))) ∧ WalTo w W d seed l.dropLast G w' := by
  have h0 := h
  have hd := depth_le h
  obtain ⟨r, ps, ob, LB, nv, pv, FO, FT, h1, h2, rfl⟩ := h
  have hpl : ps.length = l.length := by rw [← psW_length seed l, ← h2, List.length_map]
  rcases List.eq_nil_or_concat l with rfl | ⟨m, b, hm⟩
  · obtain rfl : ps = [] := List.eq_nil_of_length_eq_zero hpl
    exact (walUndo_none h1).mono fun e w' hh => ⟨hh.1, .refl h0 hh.2⟩
  · rw [List.concat_eq_append] at hm
    subst hm
    have hL := fitsAll_stW ((okAll_fits (seed := seed)).2 hok)
    have hp := pow12 hd
    have hn := (stW_ok seed (m ++ [b])).n
    simp only at hn
    obtain ⟨u1, u2, u3, u4⟩ := undo_st seed m b
    rw [psW_snoc] at h2
    obtain ⟨ps0, x, rfl⟩ : ∃ ps0 x, ps = ps0 ++ [x] := by
      rcases List.eq_nil_or_concat ps with e | ⟨p, x, e⟩
      · rw [e] at hpl; simp at hpl
      · exact ⟨p, x, by rw [e, List.concat_eq_append]⟩
    rw [List.map_append] at h2
    obtain ⟨e1, e2⟩ := List.append_inj' h2 rfl
    simp only [List.map_cons, List.map_nil, List.cons.injEq, and_true] at e2
    have hml : ps0.length = m.length := by
      have := hpl
      rw [List.length_append, List.length_append, List.length_singleton, List.length_singleton] at this
      omega
    have hlm : (stW seed m).leaves.length ≤ (stW seed (m ++ [b])).leaves.length := by
      rw [stW_snoc, blkW_leaves]
      omega
    have hsp : (stW seed (m ++ [b])).sp.length ≤ 10000000 := by
      have h3 := (blkW_ok (seed := seed) (h := m.length + 1) b (stW_ok seed m)).s
      rw [← stW_snoc] at h3
      have h4 : (stW seed m).leaves.length + outsN b.txs = (stW seed (m ++ [b])).leaves.length := by rw [stW_snoc, blkW_leaves]
      have h3 : (stW seed (m ++ [b])).sp.length ≤ b.txs.length * ((stW seed m).leaves.length + outsN b.txs) := h3
      rw [h4] at h3
      have h5 := hbs b (by simp)
      have h6 : b.txs.length * (stW seed (m ++ [b])).leaves.length ≤ 100 * 4096 := Nat.mul_le_mul h5 (by omega)
      omega
    have hml2 : m.length ≤ 1000 := by
      rw [List.length_append, List.length_singleton] at hl
      omega
    refine (walUndo_any h1 (by omega) (by omega) (by omega) (by rw [e2]; exact hlm) (by rw [e2]; exact u4) (by rw [e2]; exact u3) (by rw [e2]; exact hsp)).mono ?_
    rintro e w' ⟨rfl, nv', pv', FT', g1, g2, g3⟩
    rw [e2] at g1
    simp only at g1
    rw [u1, u2] at g1
    refine ⟨by simp, ?_⟩
    rw [List.dropLast_concat]
    exact ⟨_, ⟨r, ps0, ob, LB, nv', pv', FO, FT', g1, e1, rfl⟩, g2, g3⟩
end Go.Proofs.YtcikjcjfcanloaaGreat
namespace Go.Proofs.YtcikjcjfcanloaaGreat
open Go.RowKit
attribute [local irreducible] perm fAdd fMul fPow fSub fNeg fRed hashU
theorem rhash2_any (label a b : UInt64) (w : World) : Calls Tryz.prog 64 #[.int .u64 18446744069414584321, .int .u64 label.toNat, .slice (some ⟨w.heap.size, 0, none⟩) 2 2] (w.alloc (.cells #[uv a, uv b] 22)) fun e w' => e = .returned (uv (hashU label [a, b])) ∧ Ext w w' := by
  have hrd : RdU (w.alloc (.cells #[uv a, uv b] 22)) (.slice (some ⟨w.heap.size, 0, none⟩) 2 2) [a, b] := (RdC.block (heap_new w _) (n := 2) (by unfold maxLen; omega)).rdu rfl
  exact (rHash_any 18446744069414584321 rfl label _ [a, b] _ hrd (by simp)).mono fun e w' h => ⟨h.1, ((Ext.refl w).alloc _).trans h.2⟩
set_option maxRecDepth 100000 in
theorem rMark_any (a b : UInt64) (w : World) : Calls Tryz.prog 58 #[uv a, uv b] w fun e w' => e = .returned (uv (markW a b)) ∧ Ext w w' := by
  have HH : Hid (∀ v : World, Calls Tryz.prog 64 #[.int .u64 18446744069414584321, .int .u64 3, .slice (some ⟨v.heap.size, 0, none⟩) 2 2] (v.alloc (.cells #[uv a, uv b] 22)) fun e w' => e = .returned (uv (markW a b)) ∧ Ext v w') := hid fun v => rhash2_any 3 a b v
  generalize markW a b = k at *
  go_enter Tryz.func58, Tryz.ntmps58
  go_wp2_with fail
  refine (HH.out _).mono ?_
  rintro e w1 ⟨rfl, hx⟩
  have HX1 := hid hx
  clear hx HH
  go_wp2_with fail
  go_ret
  exact ⟨rfl, HX1.out⟩
set_option maxRecDepth 100000 in
set_option maxHeartbeats 1600000 in
theorem rHas_any (lv : Value) (l : List UInt64) (x : UInt64) (w : World) (h : RdU' w lv l) (hl : l.length ≤ 1000) :
    Calls Tryz.prog 75 #[lv, uv x] w fun e w' => e = .returned (.bool (l.contains x)) ∧ Ext w w' := by
  obtain ⟨a, c, rfl, -⟩ := id h
  have HX := hid h
  have hlI : (l.length : Int) ≤ 1000 := by omega
  clear h hl
  obtain ⟨R, hR⟩ : ∃ R, R = l.contains x := ⟨_, rfl⟩
  rw [← hR]
  have HR := hid hR
  clear hR
  go_enter Tryz.func75, Tryz.ntmps75
  go_wp2_with fail
  go_loopw [5] (fun iv wr => ∃ i : Nat, i ≤ l.length ∧ iv = .int .i64 i ∧ Hid ((∀ j, j < i → l[j]? ≠ some x) ∧ Ext w wr)) (fun iv _ => l.length - (intOf iv).toNat)
  case atStart => exact ⟨0, by omega, rfl, hid ⟨fun j hj => by omega, Ext.refl w⟩⟩
  case round =>
    obtain ⟨i, hi, rfl, HI⟩ := hrel
    have hi0 : (0 : Int) ≤ (i : Int) := Int.natCast_nonneg _
    by_cases hlt : i < l.length
    · have hltB : decide ((i : Int) < (l.length : Int)) = true := by simp; omega
      have hil : (i : Int) < (l.length : Int) := by omega
      obtain ⟨y, hy⟩ : ∃ y, l[i]? = some y := ⟨_, List.getElem?_eq_getElem hlt⟩
      obtain ⟨b, o, rfl, hc⟩ := (HX.out.ext HI.out.2).uat hy
      have HY := hid hy
      clear hy
      by_cases hxy : y = x
      · subst hxy
        obtain rfl : R = true := by rw [HR.out]; exact List.contains_iff_mem.2 (List.mem_of_getElem? HY.out)
        go_wp2_with fail
        go_ret
        exact ⟨rfl, HI.out.2⟩
      · have hne2 : ((y.toNat : Int) == (x.toNat : Int)) = false := by rw [beq_eq_false_iff_ne]; exact fun h => hxy (UInt64.toNat_inj.1 (by omega))
        have hne3 : ¬ y.toNat = x.toNat := fun h => hxy (UInt64.toNat_inj.1 h)
        have HN := hid (And.intro (fun j (hj : j < i + 1) => show l[j]? ≠ some x from by
          by_cases hji : j = i
          · subst hji
            rw [HY.out]
            intro e
            exact hxy (Option.some.inj e)
          · exact HI.out.1 j (by omega)) HI.out.2)
        go_wp2_with fail
        go_roundw
        case rel => exact ⟨i + 1, by omega, by go_num, HN⟩
        case measure => simp [intOf]; omega
    · have hltB : decide ((i : Int) < (l.length : Int)) = false := by simp; omega
      obtain rfl : R = false := by
        rw [HR.out, Bool.eq_false_iff]
        intro h
        obtain ⟨j, hj, he⟩ := List.getElem_of_mem (List.contains_iff_mem.1 h)
        exact HI.out.1 j (by omega) (by rw [List.getElem?_eq_getElem hj, he])
      go_wp2_with fail
      go_ret
      exact ⟨rfl, HI.out.2⟩
end Go.Proofs.YtcikjcjfcanloaaGreat
namespace Go.Proofs.YtcikjcjfcanloaaGreat
open Go.RowKit
attribute [local irreducible] perm fAdd fMul fPow fSub fNeg fRed hashU
theorem rhash4_any (label a b c d : UInt64) (w : World) : Calls Tryz.prog 64 #[.int .u64 18446744069414584321, .int .u64 label.toNat, .slice (some ⟨w.heap.size, 0, none⟩) 4 4] (w.alloc (.cells #[uv a, uv b, uv c, uv d] 22)) fun e w' => e = .returned (uv (hashU label [a, b, c, d])) ∧ Ext w w' := by
  have hrd : RdU (w.alloc (.cells #[uv a, uv b, uv c, uv d] 22)) (.slice (some ⟨w.heap.size, 0, none⟩) 4 4) [a, b, c, d] := (RdC.block (heap_new w _) (n := 4) (by unfold maxLen; omega)).rdu rfl
  exact (rHash_any 18446744069414584321 rfl label _ [a, b, c, d] _ hrd (by simp)).mono fun e w' h => ⟨h.1, ((Ext.refl w).alloc _).trans h.2⟩
set_option maxRecDepth 100000 in
set_option maxHeartbeats 1600000 in
theorem rCommit4_any (a b c d : UInt64) (w : World) : Calls Tryz.prog 24 #[.agg #[uv a, uv b, uv c, uv d]] w fun e w' => e = .returned (uv (hashU 2 [a, b, c, d])) ∧ Ext w w' := by
  have HH : Hid (∀ v : World, Calls Tryz.prog 64 #[.int .u64 18446744069414584321, .int .u64 2, .slice (some ⟨v.heap.size, 0, none⟩) 4 4] (v.alloc (.cells #[uv a, uv b, uv c, uv d] 22)) fun e w' => e = .returned (uv (hashU 2 [a, b, c, d])) ∧ Ext v w') := hid fun v => rhash4_any 2 a b c d v
  generalize hashU 2 [a, b, c, d] = k at *
  obtain ⟨N, hN⟩ : ∃ N, N = w.heap.size := ⟨_, rfl⟩
  obtain ⟨w0, hw0⟩ : ∃ w0, w0 = w.alloc (.cells #[uv a, uv b, uv c, uv d] 37) := ⟨_, rfl⟩
  have hx0 : Ext w w0 := by rw [hw0]; exact (Ext.refl w).alloc _
  have hb0 : w0.heap[N]? = some (.cells #[uv a, uv b, uv c, uv d] 37 (0, 0)) := by rw [hw0, hN]; exact heap_new _ _
  have HW := hid hw0
  have HX0 := hid hx0
  obtain ⟨c0, c1, c2, c3⟩ := four_cellsO hb0
  clear hw0 hx0 hb0
  go_enter Tryz.func24, Tryz.ntmps24
  go_upto_region 1 with fail
  rw [← HW.out, ← hN]
  clear hN HW
  go_wp2_with fail
  refine (HH.out _).mono ?_
  rintro e w1 ⟨rfl, hx⟩
  have HX1 := hid (HX0.out.trans hx)
  clear hx HH
  go_wp2_with fail
  go_ret
  exact ⟨rfl, HX1.out⟩
set_option maxRecDepth 100000 in
set_option maxHeartbeats 1600000 in
theorem rKeyE_any (s q : E2) (w : World) : Calls Tryz.prog 99 #[s.v, q.v] w fun e w' => e = .returned (uv (envKey s q)) ∧ Ext w w' := by
  obtain ⟨a, b⟩ := s
  obtain ⟨c, d⟩ := q
  show Calls Tryz.prog 99 #[.agg #[uv a, uv b], .agg #[uv c, uv d]] w fun e w' => e = .returned (uv (hashU 11 [a, b, c, d])) ∧ Ext w w'
  have HH : Hid (∀ v : World, Calls Tryz.prog 64 #[.int .u64 18446744069414584321, .int .u64 11, .slice (some ⟨v.heap.size, 0, none⟩) 4 4] (v.alloc (.cells #[uv a, uv b, uv c, uv d] 22)) fun e w' => e = .returned (uv (hashU 11 [a, b, c, d])) ∧ Ext v w') := hid fun v => rhash4_any 11 a b c d v
  generalize hashU 11 [a, b, c, d] = k at *
  obtain ⟨N, hN⟩ : ∃ N, N = w.heap.size := ⟨_, rfl⟩
  obtain ⟨w0, hw0⟩ : ∃ w0, w0 = (w.alloc (.cells #[uv a, uv b] 94)).alloc (.cells #[uv c, uv d] 94) := ⟨_, rfl⟩
  have hx0 : Ext w w0 := by rw [hw0]; exact ((Ext.refl w).alloc _).alloc _
  have hb0 : w0.heap[N]? = some (.cells #[uv a, uv b] 94 (0, 0)) := by rw [hw0, hN]; exact heap_alloc_some (heap_new _ _)
  have hb1 : w0.heap[N + 1]? = some (.cells #[uv c, uv d] 94 (0, 0)) := by
    rw [hw0, hN]
    have := heap_new (w.alloc (.cells #[uv a, uv b] 94)) (.cells #[uv c, uv d] 94)
    simpa using this
  have HW := hid hw0
  have HX0 := hid hx0
  have c0 := cell_of hb0 0
  have c1 := cell_of hb0 1
  have c2 := cell_of hb1 0
  have c3 := cell_of hb1 1
  clear hw0 hx0 hb0 hb1
  go_enter Tryz.func99, Tryz.ntmps99
  go_upto_region 1 with fail
  rw [← HW.out, ← hN]
  clear hN HW
  go_wp2_with fail
  refine (HH.out _).mono ?_
  rintro e w1 ⟨rfl, hx⟩
  have HX1 := hid (HX0.out.trans hx)
  clear hx HH
  go_wp2_with fail
  go_ret
  exact ⟨rfl, HX1.out⟩
end Go.Proofs.YtcikjcjfcanloaaGreat
namespace Go.Proofs.YtcikjcjfcanloaaGreat
open Go.RowKit
attribute [local irreducible] perm fAdd fMul fPow fSub fNeg fRed hashU
/-- One's own list of bytes, beside two blocks that it doesn't lie in. -/
structure RB (w0 wr : World) (bv : Value) (cur : List UInt8) (P S : Nat) (oP oS : Obj) : Prop where
  fr : FrB w0 wr bv cur
  p : wr.heap[P]? = some oP
  s : wr.heap[S]? = some oS
  ne : ∀ k, blk bv = some k → k ≠ P ∧ k ≠ S
theorem RB.ext {w0 v v' : World} {x : Value} {l : List UInt8} {P S : Nat} {oP oS : Obj} (h : RB w0 v x l P S oP oS) (k : Ext v v') : RB w0 v' x l P S oP oS := ⟨h.fr.ext k, k.heap_some h.p, k.heap_some h.s, h.ne⟩
theorem RB.app {w0 v v' : World} {x y : Value} {l m : List UInt8} {P S : Nat} {oP oS : Obj} (h : RB w0 v x l P S oP oS) {n : Nat} {xs : List Value} (hown : v'.ownsRow 0 5 1 y n xs) (hk : Kp (fun k => some k = blk x) v v') (hb : blk y = blk x ∨ blk y = some v.heap.size) (hn : n = l.length + m.length) (hx : xs = bs l ++ bs m) : RB w0 v' y (l ++ m) P S oP oS := by
  refine ⟨h.fr.app hown hk hb hn hx, hk.heap_some (fun e => (h.ne P e.symm).1 rfl) h.p, hk.heap_some (fun e => (h.ne S e.symm).2 rfl) h.s, fun k e => ?_⟩
  rcases hb with hb | hb
  · exact h.ne k (hb ▸ e)
  · rw [hb] at e
    injection e with e
    have := heap_lt h.p
    have := heap_lt h.s
    omega
theorem FrB.rb {w0 v : World} {x : Value} {l : List UInt8} (h : FrB w0 v x l) {P S : Nat} {oP oS : Obj} (hp : v.heap[P]? = some oP) (hs : v.heap[S]? = some oS) (hne : ∀ k, blk x = some k → k ≠ P ∧ k ≠ S) : RB w0 v x l P S oP oS := ⟨h, hp, hs, hne⟩
end Go.Proofs.YtcikjcjfcanloaaGreat
namespace Go.Proofs.YtcikjcjfcanloaaGreat
open Go.RowKit
attribute [local irreducible] perm fAdd fMul fPow fSub fNeg fRed hashU
set_option maxRecDepth 100000 in
set_option maxHeartbeats 800000 in
theorem reduced41_any (v : Value) (l : List UInt64) (w : World) (h : RdU' w v l) (hL : l.length ≤ 10000000000) :
    Calls Tryz.prog 128 #[v] w fun e w' => e = .returned (.bool (allE l)) ∧ Ext w w' := by
  obtain ⟨a, c, rfl, -⟩ := id h
  have HX := hid h
  have hL1 : (l.length : Int) ≤ 10000000000 := by omega
  obtain ⟨R, hR⟩ : ∃ R, R = allE l := ⟨_, rfl⟩
  rw [← hR]
  have HR := hid hR
  clear h hR
  go_enter Tryz.func128, Tryz.ntmps128
  go_wp2_with fail
  go_loop [3] (fun iv => ∃ i : Nat, i ≤ l.length ∧ iv = .int .i64 i ∧ Hid ((l.take i).all (fun x => decide (x < big)) = true)) (fun iv => l.length - (intOf iv).toNat)
  case atStart => exact ⟨0, by omega, rfl, hid rfl⟩
  case round =>
    obtain ⟨i, hi, rfl, HI⟩ := hrel
    by_cases hlt : i < l.length
    · have hltB : decide ((i : Int) < (l.length : Int)) = true := by simp; omega
      obtain ⟨y, hy⟩ : ∃ y, l[i]? = some y := ⟨_, List.getElem?_eq_getElem hlt⟩
      obtain ⟨b, o, rfl, hc⟩ := HX.out.uat hy
      have hi0 : (0 : Int) ≤ (i : Int) := Int.natCast_nonneg _
      have hil : (i : Int) < (l.length : Int) := by omega
      have HY := hid hy
      have hd := ge_big y
      clear hy
      by_cases hb : y < big
      · rw [show decide (y < big) = true by simpa using hb] at hd
        have HA := hid (allE_snoc HY.out HI.out hb)
        clear hb
        go_wp2_with fail
        go_round
        case rel => exact ⟨i + 1, by omega, by go_num, HA⟩
        case measure => simp [intOf]; omega
      · rw [show decide (y < big) = false by simpa using hb] at hd
        have hr : R = false := by rw [HR.out]; exact allE_bad HY.out hb
        subst hr
        clear hb
        go_wp2_with fail
        go_ret
        exact ⟨rfl, Ext.refl _⟩
    · have hie : i = l.length := by omega
      subst hie
      have hltB : decide ((l.length : Int) < (l.length : Int)) = false := by simp
      have hr : R = true := by
        have h1 := HI.out
        rw [List.take_length] at h1
        rw [HR.out]
        exact h1
      subst hr
      go_wp2_with fail
      go_ret
      exact ⟨rfl, Ext.refl _⟩
theorem txV_bad {t : TxT} (h : txOk t = false) : txV t = 1 := by unfold txV; rw [h]; rfl
theorem three_rdu (w : World) (a b c : UInt64) : RdU' (w.alloc (.cells #[uv a, uv b, uv c] 22)) (.slice (some ⟨w.heap.size, 0, none⟩) 3 3) [a, b, c] := by
  refine ⟨_, 3, rfl, by simp, by unfold maxLen; omega, (fun h => by cases h), fun ad ha j u hu => ?_⟩
  injection ha with ha
  subst ha
  rw [Addr.add_lit, Nat.zero_add, cell_of (heap_new _ _)]
  match j, hu with
  | 0, hu => simpa [us] using hu
  | 1, hu => simpa [us] using hu
  | 2, hu => simpa [us] using hu
  | j + 3, hu => simp [us] at hu
set_option maxRecDepth 100000 in
set_option maxHeartbeats 12800000 in
theorem rTxValid_any (t : TxT) (mv ov pv : Value) (w : World) (h : RdT w t mv ov pv) (hs : TSm t) :
    Calls Tryz.prog 102 #[txVal t mv ov pv] w fun e w' => e = .returned (.int .i64 (txV t)) ∧ Ext w w' := by
  obtain ⟨ma, mc, oa, oc, pa, pc, rfl, rfl, rfl⟩ := h.shape
  obtain ⟨R, hR⟩ : ∃ R, R = txV t := ⟨_, rfl⟩
  rw [← hR]
  have HR := hid hR
  have HBAD : Hid (txOk t = false → R = 1) := hid fun h => by rw [hR]; exact txV_bad h
  obtain ⟨N, hN⟩ : ∃ N, N = w.heap.size := ⟨_, rfl⟩
  obtain ⟨w0, hw0⟩ : ∃ w0, w0 = w.alloc (.cells #[uv t.anchor, .slice ma t.marks.length mc, .slice oa t.outs.length oc, uv t.deposit, uv t.withdraw, uv t.fee, uv t.account, uv t.nonce, .int .i64 t.expiry, .slice pa t.proof.length pc] 101) := ⟨_, rfl⟩
  have hx0 : Ext w w0 := by rw [hw0]; exact (Ext.refl w).alloc _
  have hb0 : w0.heap[N]? = some (.cells #[uv t.anchor, .slice ma t.marks.length mc, .slice oa t.outs.length oc, uv t.deposit, uv t.withdraw, uv t.fee, uv t.account, uv t.nonce, .int .i64 t.expiry, .slice pa t.proof.length pc] 101 (0, 0)) := by rw [hw0, hN]; exact heap_new _ _
  have HB := hid hb0
  have HW := hid hw0
  have HX0 := hid hx0
  have HH := hid h
  have HS := hid hs
  have hml : (t.marks.length : Int) ≤ 1000 := by have := hs.m; omega
  have hol : (t.outs.length : Int) ≤ 1000 := by have := hs.o; omega
  clear hw0 hx0 hb0 h hs hR
  obtain ⟨c0, c1, c2, c3, c4, c5, c6, c7, c8, c9⟩ := ten_cells HB.out
  go_enter Tryz.func102, Tryz.ntmps102
  go_upto_region 1 with fail
  rw [← HW.out, ← hN]
  clear hN
  by_cases h4 : t.marks.length ≤ 4
  case neg =>
    have h4B : decide ((4 : Int) < (t.marks.length : Int)) = true := by simp; omega
    have hr := HBAD.out (by unfold txOk; rw [show decide (t.marks.length ≤ 4) = false by simpa using h4]; rfl)
    subst hr
    clear h4
    go_wp2_with fail
    go_ret
    exact ⟨rfl, HX0.out⟩
  have h4B : decide ((4 : Int) < (t.marks.length : Int)) = false := by simp; omega
  have H4 : Hid (decide (t.marks.length ≤ 4) = true) := hid (by simpa using h4)
  clear h4
  by_cases h5 : t.outs.length ≤ 4
  case neg =>
    have h5B : decide ((4 : Int) < (t.outs.length : Int)) = true := by simp; omega
    have hr := HBAD.out (by unfold txOk; rw [show decide (t.outs.length ≤ 4) = false by simpa using h5]; simp)
    subst hr
    clear h5
    go_wp2_with fail
    go_ret
    exact ⟨rfl, HX0.out⟩
  have h5B : decide ((4 : Int) < (t.outs.length : Int)) = false := by simp; omega
  have H5 : Hid (decide (t.outs.length ≤ 4) = true) := hid (by simpa using h5)
  clear h5
  go_wp2_with fail
  refine (reduced41_any _ t.marks _ (HH.out.m.ext HX0.out) (by have := HS.out.m; omega)).mono ?_
  rintro e w1 ⟨rfl, hx⟩
  have HX1 := hid hx
  clear hx c0 c1 c2 c3 c4 c5 c6 c7 c8 c9
  cases ham : allE t.marks with
  | false =>
    have hr := HBAD.out (by unfold txOk; rw [ham]; simp)
    subst hr
    clear ham
    go_wp2_with fail
    go_ret
    exact ⟨rfl, HX0.out.trans HX1.out⟩
  | true =>
  have HAM := hid ham
  clear ham
  obtain ⟨c0, c1, c2, c3, c4, c5, c6, c7, c8, c9⟩ := ten_cells (HX1.out.heap_some HB.out)
  go_wp2_with fail
  refine (reduced41_any _ [t.anchor, t.account, t.nonce] _ (three_rdu w1 t.anchor t.account t.nonce) (by simp)).mono ?_
  rintro e w2 ⟨rfl, hx⟩
  have HX2 := hid (HX1.out.trans (((Ext.refl w1).alloc _).trans hx))
  clear hx c0 c1 c2 c3 c4 c5 c6 c7 c8 c9
  cases hab : allE [t.anchor, t.account, t.nonce] with
  | false =>
    have hr := HBAD.out (by
      unfold txOk amtOk
      simp [allE] at hab
      by_cases q1 : t.anchor < big
      · by_cases q2 : t.account < big
        · have q3 := hab q1 q2
          rw [show decide (t.nonce < big) = false by simpa using q3]; simp
        · rw [show decide (t.account < big) = false by simpa using q2]; simp
      · rw [show decide (t.anchor < big) = false by simpa using q1]; simp)
    subst hr
    clear hab
    go_wp2_with fail
    go_ret
    exact ⟨rfl, HX0.out.trans HX2.out⟩
  | true =>
  have HAB : Hid (t.anchor < big ∧ t.account < big ∧ t.nonce < big) := hid (by simpa [allE] using hab)
  clear hab
  go_wp2_with fail
  go_loopw [3] (fun iv wr => ∃ i : Nat, i ≤ t.marks.length ∧ iv = .int .i64 i ∧ Hid ((t.marks.take i).Nodup) ∧ Hid (Ext w0 wr)) (fun iv _ => t.marks.length - (intOf iv).toNat)
  case atStart => exact ⟨0, by omega, rfl, hid (by simp), HX2⟩
  case round =>
    obtain ⟨i, hi, rfl, HI, HXR⟩ := hrel
    obtain ⟨c0, c1, c2, c3, c4, c5, c6, c7, c8, c9⟩ := ten_cells (HXR.out.heap_some HB.out)
    by_cases hlt : i < t.marks.length
    · have hltB : decide ((i : Int) < (t.marks.length : Int)) = true := by simp; omega
      have hi0 : (0 : Int) ≤ (i : Int) := Int.natCast_nonneg _
      have hil : (i : Int) < (t.marks.length : Int) := by omega
      obtain ⟨x, hx⟩ : ∃ x, t.marks[i]? = some x := ⟨_, List.getElem?_eq_getElem hlt⟩
      have HXI := hid hx
      clear hx
      go_wp2_with fail
      clear c0 c1 c2 c3 c4 c5 c6 c7 c8 c9
      go_loopw [4] (fun kv wr => ∃ k : Nat, k ≤ i ∧ kv = .int .i64 k ∧ Hid ((t.marks.take k).contains x = false) ∧ Hid (Ext w0 wr)) (fun kv _ => i - (intOf kv).toNat)
      case atStart => exact ⟨0, by omega, rfl, hid rfl, HXR⟩
      case round =>
        obtain ⟨k, hk, rfl, HK, HXK⟩ := hrel
        by_cases hlk : k < i
        · have hlkB : decide ((k : Int) < (i : Int)) = true := by simp; omega
          have hk0 : (0 : Int) ≤ (k : Int) := Int.natCast_nonneg _
          have hkl : (k : Int) < (t.marks.length : Int) := by omega
          have hki : (k : Int) < (i : Int) := by omega
          obtain ⟨y, hy⟩ : ∃ y, t.marks[k]? = some y := ⟨_, List.getElem?_eq_getElem (by omega)⟩
          obtain ⟨b, o, rfl, hcx⟩ := (HH.out.m.ext (HX0.out.trans HXK.out)).uat HXI.out
          obtain ⟨b', o', he, hcy⟩ := (HH.out.m.ext (HX0.out.trans HXK.out)).uat hy
          injection he with he
          injection he with he1 he2
          subst he1 he2
          obtain ⟨-, c1, -⟩ := ten_cells (HXK.out.heap_some HB.out)
          have HCC : Hid (∀ v, Ext wr v → (v.cell? ⟨N, 1, none⟩ = some (.slice (some ⟨b, o, none⟩) t.marks.length mc) ∧ v.cell? ⟨b, o + i, none⟩ = some (uv x) ∧ v.cell? ⟨b, o + k, none⟩ = some (uv y))) := hid fun v q => ⟨q.cell_some c1, q.cell_some hcx, q.cell_some hcy⟩
          have HTK : Hid (t.marks.take (k + 1) = t.marks.take k ++ [y]) := hid (by rw [List.take_add_one, hy]; rfl)
          have HYK := hid hy
          clear hy hcx hcy c1
          go_upto_region 9 with fail
          refine wp_region_T (fun v => (v.cell? ⟨N, 1, none⟩ = some (.slice (some ⟨b, o, none⟩) t.marks.length mc) ∧ v.cell? ⟨b, o + i, none⟩ = some (uv x) ∧ v.cell? ⟨b, o + k, none⟩ = some (uv y)) ∧ Ext wr v) 10 [(0, true), (1, true), (2, true), (3, true), (4, true), (5, true), (6, true), (7, true), (8, true), (9, true), (10, false)] (by kernel_rfl) (by kernel_rfl) (by intro c a d v w h; cases d <;> exact h) ?_
          intro ops hops
          have HSS := keep0 HCC.out
          iterate 10
            refine wpT_take (v := ?_) (by rw [hops, List.getElem?_toArray]; rfl) (by first | rfl | (rw [hops]; rfl)) ?_ HSS ?_
            rotate_left
            · intro v h; go_simp; with_reducible rfl
            simp only [Act.put, List.getElem_toArray, List.getElem_cons_zero, List.getElem_cons_succ, List.setIfInBounds_toArray, List.set_cons_zero, List.set_cons_succ]
          clear HSS
          by_cases hxy : x = y
          · have he : ((x.toNat : Int) == (y.toNat : Int)) = true := by rw [hxy]; simp
            have hr := HBAD.out (by
              have hn : decide t.marks.Nodup = false := by
                rw [decide_eq_false_iff_not]
                intro hn
                have h1 := ((nodup_snoc HXI.out).1 (nodup_take (i + 1) hn)).2
                rw [List.contains_eq_mem] at h1
                simp only [decide_eq_false_iff_not] at h1
                apply h1
                rw [hxy]
                exact List.mem_of_getElem? (i := k) (by rw [List.getElem?_take_of_lt (by omega)]; exact HYK.out)
              unfold txOk
              rw [hn]; simp)
            subst hr
            clear hxy
            refine wpT_step (by rw [hops, List.getElem?_toArray]; rfl) (by first | rfl | (rw [hops]; rfl)) ?_
            intro K hK
            go_wp2_with fail
            try (with_reducible refine ⟨fun h => absurd h (by decide), ?_⟩)
            try rw [wpT_nil]
            try clear hops ops
            go_wp2_with fail
            go_ret
            exact ⟨rfl, (HX0.out.trans HXK.out).drew⟩
          · have he : ((x.toNat : Int) == (y.toNat : Int)) = false := by
              have : x.toNat ≠ y.toNat := fun h => hxy (UInt64.toNat_inj.1 h)
              simp; omega
            have HN : Hid ((t.marks.take (k + 1)).contains x = false) := hid (by
              rw [HTK.out]
              have := HK.out
              rw [List.contains_eq_mem] at this ⊢
              simp at this ⊢
              exact ⟨this, hxy⟩)
            have HXD := hid HXK.out.drew
            clear hxy
            refine wpT_step (by rw [hops, List.getElem?_toArray]; rfl) (by first | rfl | (rw [hops]; rfl)) ?_
            intro K hK
            go_wp2_with fail
            try (with_reducible refine ⟨fun h => absurd h (by decide), ?_⟩)
            try rw [wpT_nil]
            try clear hops ops
            go_wp2_with fail
            go_roundw
            case rel => exact ⟨k + 1, by omega, by go_num, HN, HXD⟩
            case measure => simp [intOf]; omega
        · have hke : k = i := by omega
          subst hke
          have hlkB : decide ((k : Int) < (k : Int)) = false := by simp
          have HN : Hid ((t.marks.take (k + 1)).Nodup) := hid ((nodup_snoc HXI.out).2 ⟨HI.out, HK.out⟩)
          go_wp2_with fail
          go_roundw
          case rel => exact ⟨k + 1, by omega, by go_num, HN, HXK⟩
          case measure => simp [intOf]; omega
    · have hie : i = t.marks.length := by omega
      subst hie
      have hltB : decide ((t.marks.length : Int) < (t.marks.length : Int)) = false := by simp
      have HND : Hid (decide t.marks.Nodup = true) := hid (by have := HI.out; rw [List.take_length] at this; simpa using this)
      go_wp2_with fail
      clear c0 c1 c2 c3 c4 c5 c6 c7 c8 c9
      go_loopw [5] (fun iv wr => ∃ i : Nat, i ≤ t.outs.length ∧ iv = .int .i64 i ∧ Hid ((t.outs.take i).all outOk = true) ∧ Hid (Ext w0 wr)) (fun iv _ => t.outs.length - (intOf iv).toNat)
      case atStart => exact ⟨0, by omega, rfl, hid rfl, HXR⟩
      case round =>
        clear HI HXR
        obtain ⟨i, hi, rfl, HI, HXR⟩ := hrel
        obtain ⟨c0, c1, c2, c3, c4, c5, c6, c7, c8, c9⟩ := ten_cells (HXR.out.heap_some HB.out)
        by_cases hlt : i < t.outs.length
        · have hltB : decide ((i : Int) < (t.outs.length : Int)) = true := by simp; omega
          obtain ⟨x, hxi⟩ : ∃ x, t.outs[i]? = some x := ⟨_, List.getElem?_eq_getElem hlt⟩
          obtain ⟨b, q, ca, cc, rfl, e0, e1, e2, e3, hrc⟩ := (HH.out.o.ext (HX0.out.trans HXR.out)).at hxi
          have hi0 : (0 : Int) ≤ (i : Int) := Int.natCast_nonneg _
          have hil : (i : Int) < (t.outs.length : Int) := by omega
          have HXI := hid hxi
          have HCL : Hid (x.cipher.length ≤ 1000) := hid (HS.out.c x (List.mem_of_getElem? hxi))
          have HOB : Hid (outOk x = false → R = 1) := hid fun h => HBAD.out (by unfold txOk; rw [all_bad hxi h]; simp)
          clear hxi
          go_upto_region 15 with fail
          clear e0 e1 e2 e3 c0 c1 c2 c3 c4 c5 c6 c7 c8 c9
          obtain ⟨P, hP⟩ : ∃ P, P = wr.heap.size := ⟨_, rfl⟩
          obtain ⟨x1, hx1⟩ : ∃ x1, x1 = wr.alloc (.cells #[uv x.commit, uv x.p.a, uv x.p.b, .slice ca x.cipher.length cc] 103) := ⟨_, rfl⟩
          have hy1 : Ext wr x1 := by rw [hx1]; exact (Ext.refl wr).alloc _
          have hb1 : x1.heap[P]? = some (.cells #[uv x.commit, uv x.p.a, uv x.p.b, .slice ca x.cipher.length cc] 103 (0, 0)) := by rw [hx1, hP]; exact heap_new _ _
          rw [← hx1, ← hP]
          obtain ⟨o0, o1, o2, o3⟩ := four_cellsO hb1
          have HY1 := hid hy1
          have HB1 := hid hb1
          have HRC := hid hrc
          have HV := hid (rpValid_any x.p)
          have hd := ge_big x.commit
          clear hx1 hy1 hb1 hP hrc
          by_cases hb : x.commit < big
          case neg =>
            rw [show decide (x.commit < big) = false by simpa using hb] at hd
            have hr := HOB.out (by unfold outOk; rw [show decide (x.commit < big) = false by simpa using hb]; rfl)
            subst hr
            clear hb
            go_wp2_with fail
            go_ret
            exact ⟨rfl, (HX0.out.trans HXR.out).trans HY1.out⟩
          rw [show decide (x.commit < big) = true by simpa using hb] at hd
          have HO1 : Hid (outOk x = (validP x.p && decide (x.cipher.length = 3) && allE x.cipher)) := hid (by
            unfold outOk
            rw [show decide (x.commit < big) = true by simpa using hb, Bool.true_and])
          clear hb
          go_wp2_with fail
          refine (HV.out _).mono ?_
          rintro e x2 ⟨rfl, hx⟩
          have HY2 := hid (HY1.out.trans hx)
          obtain ⟨p0, p1, p2, p3⟩ := four_cellsO (hx.heap_some HB1.out)
          have HB2 := hid (hx.heap_some HB1.out)
          clear hx o0 o1 o2 o3 HV
          obtain ⟨vp, hvp⟩ : ∃ vp, vp = validP x.p := ⟨_, rfl⟩
          rw [← hvp] at HO1 ⊢
          clear hvp
          cases vp with
          | false =>
            have hr := HOB.out (by rw [HO1.out]; rfl)
            subst hr
            go_wp2_with fail
            go_ret
            exact ⟨rfl, (HX0.out.trans HXR.out).trans HY2.out⟩
          | true =>
            by_cases h3 : x.cipher.length = 3
            case neg =>
              have h3B : ((x.cipher.length : Int) != 3) = true := by simp; omega
              have hr := HOB.out (by rw [HO1.out, show decide (x.cipher.length = 3) = false by simpa using h3]; rfl)
              subst hr
              clear h3
              go_wp2_with fail
              go_ret
              exact ⟨rfl, (HX0.out.trans HXR.out).trans HY2.out⟩
            have h3B : ((x.cipher.length : Int) != 3) = false := by simp; omega
            have HO2 : Hid (outOk x = allE x.cipher) := hid (by rw [HO1.out, show decide (x.cipher.length = 3) = true by simpa using h3]; simp)
            have HRD := hid (reduced41_any _ x.cipher _ (HRC.out.ext HY2.out) (by have := HCL.out; omega))
            obtain ⟨L, hL3⟩ : ∃ L, L = x.cipher.length := ⟨_, rfl⟩
            rw [← hL3] at h3B p3 HRD
            clear h3 hL3
            go_wp2_with fail
            refine (HRD.out).mono ?_
            rintro e x3 ⟨rfl, hx⟩
            have HY3 := hid (HY2.out.trans hx)
            clear hx p0 p1 p2 p3 HRD
            cases hae : allE x.cipher with
            | false =>
              have hr := HOB.out (by rw [HO2.out]; exact hae)
              subst hr
              clear hae
              go_wp2_with fail
              go_ret
              exact ⟨rfl, (HX0.out.trans HXR.out).trans HY3.out⟩
            | true =>
              have HN : Hid ((t.outs.take (i + 1)).all outOk = true) := hid (all_snoc HXI.out HI.out (by rw [HO2.out]; exact hae))
              clear hae
              go_wp2_with fail
              go_roundw
              case rel => exact ⟨i + 1, by omega, by go_num, HN, hid (HXR.out.trans HY3.out)⟩
              case measure => simp [intOf]; omega
        · have hie : i = t.outs.length := by omega
          subst hie
          have hltB : decide ((t.outs.length : Int) < (t.outs.length : Int)) = false := by simp
          have HR2 : Hid (R = if (amtOk t && (decide (0 ≤ t.expiry) && decide (t.expiry ≤ 1048576))) then (if decide (t.proof.length ≤ 1048576) then 0 else 3) else 1) := hid (by
            rw [HR.out]
            unfold txV
            have h1 : txOk t = (amtOk t && (decide (0 ≤ t.expiry) && decide (t.expiry ≤ 1048576))) := by
              have h2 := HI.out
              rw [List.take_length] at h2
              unfold txOk
              rw [H4.out, H5.out, HAM.out, HND.out, h2, show decide (t.anchor < big) = true by simpa using HAB.out.1]
              simp [Bool.and_assoc]
            rw [h1]
            by_cases hp : t.proof.length ≤ 1048576
            · rw [if_pos hp, show decide (t.proof.length ≤ 1048576) = true by simpa using hp]; rfl
            · rw [if_neg hp, show decide (t.proof.length ≤ 1048576) = false by simpa using hp]; rfl)
          rw [amtOk_B, show decide (t.account < big) = true by simpa using HAB.out.2.1, show decide (t.nonce < big) = true by simpa using HAB.out.2.2] at HR2
          have a1 := gt_max t.deposit
          have a2 := gt_max t.withdraw
          have a3 := gt_max t.fee
          have a6 := gt_zero t.deposit
          have z6 : ((t.deposit.toNat : Int) == 0) = !decide (0 < t.deposit.toNat) := by
            rw [eq_zero]
            by_cases h : t.deposit.toNat = 0
            · simp [h]
            · rw [show decide (t.deposit.toNat = 0) = false by simpa using h, show decide (0 < t.deposit.toNat) = true by simp; omega]; rfl
          have z7 : ((t.withdraw.toNat : Int) == 0) = !decide (0 < t.withdraw.toNat) := by
            rw [eq_zero]
            by_cases h : t.withdraw.toNat = 0
            · simp [h]
            · rw [show decide (t.withdraw.toNat = 0) = false by simpa using h, show decide (0 < t.withdraw.toNat) = true by simp; omega]; rfl
          have z8 : decide (t.withdraw.toNat = 0) = !decide (0 < t.withdraw.toNat) := by rw [← eq_zero]; exact z7
          rw [z8] at HR2
          have a8 := len_zero t.marks
          have a9 := ne_zero' t.nonce
          have a10 := gt_zero t.withdraw
          have a11 := ne_zero' t.account
          have a12 : decide (t.expiry < 0) = !decide (0 ≤ t.expiry) := by
            by_cases h : 0 ≤ t.expiry
            · rw [show decide (0 ≤ t.expiry) = true by simpa using h]; simp; omega
            · rw [show decide (0 ≤ t.expiry) = false by simpa using h]; simp; omega
          have a13 : decide ((1048576 : Int) < t.expiry) = !decide (t.expiry ≤ 1048576) := by
            by_cases h : t.expiry ≤ 1048576
            · rw [show decide (t.expiry ≤ 1048576) = true by simpa using h]; simp; omega
            · rw [show decide (t.expiry ≤ 1048576) = false by simpa using h]; simp; omega
          have a14 : decide ((1048576 : Int) < (t.proof.length : Int)) = !decide (t.proof.length ≤ 1048576) := by
            by_cases h : t.proof.length ≤ 1048576
            · rw [show decide (t.proof.length ≤ 1048576) = true by simpa using h]; simp; omega
            · rw [show decide (t.proof.length ≤ 1048576) = false by simpa using h]; simp; omega
          obtain ⟨dp, hdp⟩ : ∃ dp, decide (0 < t.deposit.toNat) = dp := ⟨_, rfl⟩
          rw [hdp] at a6 z6 HR2
          obtain ⟨wp, hwp⟩ : ∃ wp, decide (0 < t.withdraw.toNat) = wp := ⟨_, rfl⟩
          rw [hwp] at a10 z7 HR2
          clear z8
          generalize decide (t.deposit.toNat ≤ 4294967295) = d1 at *
          generalize decide (t.withdraw.toNat ≤ 4294967295) = d2 at *
          generalize decide (t.fee.toNat ≤ 4294967295) = d3 at *
          generalize decide (t.marks.length ≠ 0) = mn at *
          generalize decide (t.nonce.toNat = 0) = nz at *
          generalize decide (t.account.toNat = 0) = az at *
          generalize decide (0 ≤ t.expiry) = f1 at *
          generalize decide (t.expiry ≤ 1048576) = f2 at *
          generalize decide (t.proof.length ≤ 1048576) = f3 at *
          have HXF := hid (HX0.out.trans HXR.out)
          clear HBAD HR HI HND HAM HAB
          cases d1 with
          | false =>
            have hr : R = 1 := HR2.out
            subst hr
            go_wp2_with fail
            go_ret
            exact ⟨rfl, HXF.out⟩
          | true =>
            cases d2 with
            | false =>
              have hr : R = 1 := HR2.out
              subst hr
              go_wp2_with fail
              go_ret
              exact ⟨rfl, HXF.out⟩
            | true =>
              cases d3 with
              | false =>
                have hr : R = 1 := HR2.out
                subst hr
                go_wp2_with fail
                go_ret
                exact ⟨rfl, HXF.out⟩
              | true =>
                cases dp with
                | false =>
                  cases nz with
                  | false =>
                    have hr : R = 1 := by rw [HR2.out]; cases mn <;> rfl
                    subst hr
                    go_wp2_with fail
                    go_ret
                    exact ⟨rfl, HXF.out⟩
                  | true =>
                    cases mn with
                    | false =>
                      have hr : R = 1 := HR2.out
                      subst hr
                      go_wp2_with fail
                      go_ret
                      exact ⟨rfl, HXF.out⟩
                    | true =>
                      cases wp with
                      | false =>
                        cases az with
                        | false =>
                          have hr : R = 1 := HR2.out
                          subst hr
                          go_wp2_with fail
                          go_ret
                          exact ⟨rfl, HXF.out⟩
                        | true =>
                          cases f1 with
                          | false =>
                            have hr : R = 1 := HR2.out
                            subst hr
                            go_wp2_with fail
                            go_ret
                            exact ⟨rfl, HXF.out⟩
                          | true =>
                            cases f2 with
                            | false =>
                              have hr : R = 1 := HR2.out
                              subst hr
                              go_wp2_with fail
                              go_ret
                              exact ⟨rfl, HXF.out⟩
                            | true =>
                              cases f3 with
                              | false =>
                                have hr : R = 3 := HR2.out
                                subst hr
                                go_wp2_with fail
                                go_ret
                                exact ⟨rfl, HXF.out⟩
                              | true =>
                                have hr : R = 0 := HR2.out
                                subst hr
                                go_wp2_with fail
                                go_ret
                                exact ⟨rfl, HXF.out⟩
                      | true =>
                        cases f1 with
                        | false =>
                          have hr : R = 1 := HR2.out
                          subst hr
                          go_wp2_with fail
                          go_ret
                          exact ⟨rfl, HXF.out⟩
                        | true =>
                          cases f2 with
                          | false =>
                            have hr : R = 1 := HR2.out
                            subst hr
                            go_wp2_with fail
                            go_ret
                            exact ⟨rfl, HXF.out⟩
                          | true =>
                            cases f3 with
                            | false =>
                              have hr : R = 3 := HR2.out
                              subst hr
                              go_wp2_with fail
                              go_ret
                              exact ⟨rfl, HXF.out⟩
                            | true =>
                              have hr : R = 0 := HR2.out
                              subst hr
                              go_wp2_with fail
                              go_ret
                              exact ⟨rfl, HXF.out⟩
                | true =>
                  cases wp with
                  | false =>
                    cases f1 with
                    | false =>
                      have hr : R = 1 := HR2.out
                      subst hr
                      go_wp2_with fail
                      go_ret
                      exact ⟨rfl, HXF.out⟩
                    | true =>
                      cases f2 with
                      | false =>
                        have hr : R = 1 := HR2.out
                        subst hr
                        go_wp2_with fail
                        go_ret
                        exact ⟨rfl, HXF.out⟩
                      | true =>
                        cases f3 with
                        | false =>
                          have hr : R = 3 := HR2.out
                          subst hr
                          go_wp2_with fail
                          go_ret
                          exact ⟨rfl, HXF.out⟩
                        | true =>
                          have hr : R = 0 := HR2.out
                          subst hr
                          go_wp2_with fail
                          go_ret
                          exact ⟨rfl, HXF.out⟩
                  | true =>
                    have hr : R = 1 := HR2.out
                    subst hr
                    go_wp2_with fail
                    go_ret
                    exact ⟨rfl, HXF.out⟩
end Go.Proofs.YtcikjcjfcanloaaGreat
