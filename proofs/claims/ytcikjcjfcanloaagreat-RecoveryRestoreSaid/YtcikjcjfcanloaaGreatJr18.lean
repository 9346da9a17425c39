/- Texts of this claim, joined: WalNew, RefKeys, RefExt, RefM, Reduced. -/
import Derived.Test.YtcikjcjfcanloaaGreatJr1
import Derived.Test.YtcikjcjfcanloaaGreatJr3
import Derived.Test.YtcikjcjfcanloaaGreatJr4
import Derived.Test.YtcikjcjfcanloaaGreatJr5
import Derived.Test.YtcikjcjfcanloaaGreatJr7
import Derived.Test.YtcikjcjfcanloaaGreatJr8
import Derived.Test.YtcikjcjfcanloaaGreatJr10
import Derived.Test.YtcikjcjfcanloaaGreatJr13
import Derived.Test.YtcikjcjfcanloaaGreatJr15
import Derived.Test.YtcikjcjfcanloaaGreatJr17
set_option linter.unusedSimpArgs false
namespace Go.Proofs.YtcikjcjfcanloaaGreat
open Go.RowKit
attribute [local irreducible] perm fAdd fMul fPow fSub fNeg fRed hashU drawOf nextState
abbrev rlVal (r : Rl) : Value := .agg #[.int .i64 r.mode, .int .i64 r.depth, .int .i64 r.pb, .int .i64 r.pu, .int .i64 r.pq, uv r.reward, .int .i64 r.window, .int .i64 r.finality, uv r.work]
theorem isIdeal_any {w : World} {b : Nat} {M : Orc} {F : Nat → Prop} (h : OrcAt w b M F) : Calls Tryz.prog 67 #[.pointer (some ⟨b, 0, none⟩)] w fun e w' => e = .returned (.bool M.ideal) ∧ Ext w w' := by
  obtain ⟨qv, mk, ms, mp, Q, S, hin⟩ := h
  have c0 := cell_of hin.self 0
  clear hin
  generalize M.ideal = i at *
  change w.cell? ⟨b, 0, none⟩ = some (.bool i) at c0
  go_enter Tryz.func67, Tryz.ntmps67
  go_wp2_with fail
  go_ret
  exact ⟨rfl, Ext.refl w⟩
/-- The wallet at W (its oracle at ob is a real one) has scanned the blocks l; G: its blocks. -/
def WalAt (w : World) (W d : Nat) (seed : UInt64) (l : List BlkT) (G : Nat → Prop) : Prop :=
  ∃ r ps ob LB nv pv FO FT, WalIn w W d r seed (stW seed l).leaves (stW seed l).notes ps ob LB nv pv FO FT (WF W FT nv pv) ∧ ps.map (·.1) = psW seed l ∧ G = WF W FT nv pv
theorem WalAt.ext {w w' : World} {W d : Nat} {seed : UInt64} {l : List BlkT} {G : Nat → Prop} (h : WalAt w W d seed l G) (k : Ext w w') : WalAt w' W d seed l G := by
  obtain ⟨r, ps, ob, LB, nv, pv, FO, FT, h1, h2, h3⟩ := h
  exact ⟨r, ps, ob, LB, nv, pv, FO, FT, h1.ext k, h2, h3⟩
theorem WalAt.lt {w : World} {W d : Nat} {seed : UInt64} {l : List BlkT} {G : Nat → Prop} (h : WalAt w W d seed l G) (i : Nat) (hi : G i) : i < w.heap.size := by
  obtain ⟨r, ps, ob, LB, nv, pv, FO, FT, h1, h2, rfl⟩ := h
  rcases hi with e | e | e | e
  · subst e; exact heap_lt h1.self
  · exact h1.tl i e
  · exact ownsRow_lt h1.notes e
  · exact ownsRow_lt h1.past e
theorem nine_cells {w : World} {b : Nat} {c0 c1 c2 c3 c4 c5 c6 c7 c8 : Value} {T : TypeId} (h : w.heap[b]? = some (.cells #[c0, c1, c2, c3, c4, c5, c6, c7, c8] T (0, 0))) :
    w.cell? ⟨b, 0, none⟩ = some c0 ∧ w.cell? ⟨b, 1, none⟩ = some c1 ∧ w.cell? ⟨b, 2, none⟩ = some c2 ∧ w.cell? ⟨b, 3, none⟩ = some c3 ∧ w.cell? ⟨b, 4, none⟩ = some c4 ∧ w.cell? ⟨b, 5, none⟩ = some c5 ∧ w.cell? ⟨b, 6, none⟩ = some c6 ∧ w.cell? ⟨b, 7, none⟩ = some c7 ∧ w.cell? ⟨b, 8, none⟩ = some c8 :=
  ⟨cell_of h 0, cell_of h 1, cell_of h 2, cell_of h 3, cell_of h 4, cell_of h 5, cell_of h 6, cell_of h 7, cell_of h 8⟩
set_option maxRecDepth 100000 in
set_option maxHeartbeats 12800000 in
theorem walNew_any {w : World} {ob : Nat} {FO : Nat → Prop} (ho : OrcAt w ob realM FO) (r : Rl) (d : Nat) (hd : r.depth = (d : Int)) (h1 : 1 ≤ d) (h12 : d ≤ 12) (hm : r.mode ≠ 3) (seed : UInt64)
    (RU : ∀ v, Calls Tryz.prog 66 #[rlVal r] v fun e w' => e = .returned (.int .i64 0) ∧ Ext v w') :
    Calls Tryz.prog 27 #[.pointer (some ⟨ob, 0, none⟩), rlVal r, uv seed] w fun e w' => ∃ W G, e = .returned (.tuple #[.pointer (some ⟨W, 0, none⟩), .int .i64 0]) ∧ Ext w w' ∧ WalAt w' W d (fRed seed) [] G ∧ ∀ i, G i → w.heap.size ≤ i := by
  have HO := hid ho
  have HRU := hid RU
  have II : Hid (∀ v, Ext w v → Calls Tryz.prog 67 #[.pointer (some ⟨ob, 0, none⟩)] v fun e w' => e = .returned (.bool false) ∧ Ext v w') := hid fun v k => isIdeal_any (ho.ext k)
  have TN := hid (treeNew_any d h1 h12)
  have KS := hid (kSpend_any (fRed seed))
  have HDEP := hid (And.intro hd (And.intro h1 h12))
  obtain ⟨mode, depth, pb, pu, pq, reward, window, finality, work⟩ := r
  simp only at hd hm RU
  unfold rlVal at HRU ⊢
  simp only at HRU ⊢
  subst hd
  obtain ⟨N, hN⟩ : ∃ N, N = w.heap.size := ⟨_, rfl⟩
  obtain ⟨w0, hw0⟩ : ∃ w0, w0 = w.alloc (.cells #[.int .i64 mode, .int .i64 (d : Int), .int .i64 pb, .int .i64 pu, .int .i64 pq, uv reward, .int .i64 window, .int .i64 finality, uv work] 45) := ⟨_, rfl⟩
  have hx0 : Ext w w0 := by rw [hw0]; exact (Ext.refl w).alloc _
  have hb0 : w0.heap[N]? = some (.cells #[.int .i64 mode, .int .i64 (d : Int), .int .i64 pb, .int .i64 pu, .int .i64 pq, uv reward, .int .i64 window, .int .i64 finality, uv work] 45 (0, 0)) := by rw [hw0, hN]; exact heap_new _ _
  have HB := hid hb0
  have HX0 := hid hx0
  have HW := hid hw0
  have hmB : decide (mode = 3) = false := decide_eq_false hm
  have hmB2 : (mode == 3) = false := by rw [beq_eq_false_iff_ne]; exact hm
  have HC : Hid (∀ u, Ext w0 u → (u.cell? ⟨N, 0, none⟩ = some (.int .i64 mode) ∧ u.cell? ⟨N, 1, none⟩ = some (.int .i64 (d : Int)) ∧ u.cell? ⟨N, 2, none⟩ = some (.int .i64 pb) ∧ u.cell? ⟨N, 3, none⟩ = some (.int .i64 pu) ∧ u.cell? ⟨N, 4, none⟩ = some (.int .i64 pq) ∧ u.cell? ⟨N, 5, none⟩ = some (uv reward) ∧ u.cell? ⟨N, 6, none⟩ = some (.int .i64 window) ∧ u.cell? ⟨N, 7, none⟩ = some (.int .i64 finality) ∧ u.cell? ⟨N, 8, none⟩ = some (uv work)) ∧ Ext w0 u) := hid fun u k => ⟨nine_cells (k.heap_some HB.out), k⟩
  have hsm : ((seed.toNat : Int)).tmod 18446744069414584321 = ((fRed seed).toNat : Int) := by rw [Int.tmod_eq_emod_of_nonneg (Int.natCast_nonneg _), fRed_toNat]; rfl
  have HSM := hid hsm
  obtain ⟨s', hs'⟩ : ∃ s', s' = fRed seed := ⟨_, rfl⟩
  rw [← hs'] at HSM KS ⊢
  have HSPR : Hid (s' = fRed seed) := hid hs'
  clear hw0 hx0 hb0 ho RU hsm hs'
  obtain ⟨⟨c0, c1, c2, c3, c4, c5, c6, c7, c8⟩, -⟩ := HC.out w0 (Ext.refl w0)
  go_enter Tryz.func27, Tryz.ntmps27
  go_upto_region 1 with fail
  rw [← HW.out, ← hN]
  clear hN HW
  go_wp2_with fail
  refine (HRU.out _).mono ?_
  rintro e w1 ⟨rfl, hx⟩
  have X1 := hid hx
  clear hx c0 c1 c2 c3 c4 c5 c6 c7 c8
  go_wp2_with fail
  refine wp_region_T (fun u => (u.cell? ⟨N, 0, none⟩ = some (.int .i64 mode) ∧ u.cell? ⟨N, 1, none⟩ = some (.int .i64 (d : Int)) ∧ u.cell? ⟨N, 2, none⟩ = some (.int .i64 pb) ∧ u.cell? ⟨N, 3, none⟩ = some (.int .i64 pu) ∧ u.cell? ⟨N, 4, none⟩ = some (.int .i64 pq) ∧ u.cell? ⟨N, 5, none⟩ = some (uv reward) ∧ u.cell? ⟨N, 6, none⟩ = some (.int .i64 window) ∧ u.cell? ⟨N, 7, none⟩ = some (.int .i64 finality) ∧ u.cell? ⟨N, 8, none⟩ = some (uv work)) ∧ Ext w0 u) 5 [(0, true), (2, true), (3, true), (4, true), (1, false), (5, false)] (by kernel_rfl) (by kernel_rfl) (by intro c a d v w h; cases d <;> exact h) ?_
  intro ops hops
  have HSS := HC.out _ (X1.out.trans (Ext.refl w1).drew)
  iterate 4
    refine wpT_take (v := ?_) (by rw [hops, List.getElem?_toArray]; rfl) (by first | rfl | (rw [hops]; rfl)) ?_ HSS ?_
    rotate_left
    · intro v h; go_simp; with_reducible rfl
    simp only [Act.put, List.getElem_toArray, List.getElem_cons_zero, List.getElem_cons_succ, List.setIfInBounds_toArray, List.set_cons_zero, List.set_cons_succ]
  refine wpT_step (by rw [hops, List.getElem?_toArray]; rfl) (by first | rfl | (rw [hops]; rfl)) ?_
  intro K hK
  go_wp2_with fail
  refine (II.out _ (HX0.out.trans HSS.2)).mono ?_
  rintro e w2 ⟨rfl, hx⟩
  have X2 := hid (HSS.2.trans hx)
  clear hx HSS II
  refine hK _ _ ⟨fun _ => HC.out _ X2.out, ?_⟩
  clear hK K
  refine wpT_step (by rw [hops, List.getElem?_toArray]; rfl) (by first | rfl | (rw [hops]; rfl)) ?_
  intro K hK
  go_wp2_with fail
  try (with_reducible refine ⟨fun h => absurd h (by decide), ?_⟩)
  try rw [wpT_nil]
  try clear hops ops
  obtain ⟨⟨c0, c1, c2, c3, c4, c5, c6, c7, c8⟩, -⟩ := HC.out w2 X2.out
  go_wp2_with fail
  refine (TN.out _).mono ?_
  rintro e w3 ⟨LB, FT, rfl, hx, ht, hf⟩
  have X3 := hid (X2.out.trans hx)
  have HT := hid (And.intro ht (fun i hi => Nat.le_trans (HX0.out.trans X2.out).size (hf i hi)))
  clear hx ht hf TN c0 c1 c2 c3 c4 c5 c6 c7 c8
  have hsm := HSM.out
  go_wp2_with fail
  clear hsm
  refine wp_region_T (fun u => (u.cell? ⟨N, 0, none⟩ = some (.int .i64 mode) ∧ u.cell? ⟨N, 1, none⟩ = some (.int .i64 (d : Int)) ∧ u.cell? ⟨N, 2, none⟩ = some (.int .i64 pb) ∧ u.cell? ⟨N, 3, none⟩ = some (.int .i64 pu) ∧ u.cell? ⟨N, 4, none⟩ = some (.int .i64 pq) ∧ u.cell? ⟨N, 5, none⟩ = some (uv reward) ∧ u.cell? ⟨N, 6, none⟩ = some (.int .i64 window) ∧ u.cell? ⟨N, 7, none⟩ = some (.int .i64 finality) ∧ u.cell? ⟨N, 8, none⟩ = some (uv work)) ∧ Ext w0 u) 6 [(0, true), (1, true), (2, true), (3, true), (5, true), (4, false), (6, false), (7, false), (8, false), (9, false)] (by kernel_rfl) (by kernel_rfl) (by intro c a d v w h; cases d <;> exact h) ?_
  intro ops hops
  have HSS := HC.out _ (X3.out.trans (Ext.refl w3).drew)
  have HXD : Ext w3 w3.drew := (Ext.refl w3).drew
  iterate 5
    refine wpT_take (v := ?_) (by rw [hops, List.getElem?_toArray]; rfl) (by first | rfl | (rw [hops]; rfl)) ?_ HSS ?_
    rotate_left
    · intro v h; go_simp; with_reducible rfl
    simp only [Act.put, List.getElem_toArray, List.getElem_cons_zero, List.getElem_cons_succ, List.setIfInBounds_toArray, List.set_cons_zero, List.set_cons_succ]
  refine wpT_step (by rw [hops, List.getElem?_toArray]; rfl) (by first | rfl | (rw [hops]; rfl)) ?_
  intro K hK
  go_wp2_with fail
  refine (KS.out _).mono ?_
  rintro e w4 ⟨rfl, hx⟩
  have X4 := hid (HXD.trans hx)
  clear hx HSS KS HXD
  refine hK _ _ ⟨fun _ => HC.out _ (X3.out.trans X4.out), ?_⟩
  clear hK K
  refine wpT_step (by rw [hops, List.getElem?_toArray]; rfl) (by first | rfl | (rw [hops]; rfl)) ?_
  intro K hK
  go_wp2_with fail
  try (with_reducible refine ⟨fun h => absurd h (by decide), ?_⟩)
  try rw [← hops]
  refine wpT_step (by rw [hops, List.getElem?_toArray]; rfl) (by first | rfl | (rw [hops]; rfl)) ?_
  intro K hK
  go_wp2_with fail
  try (with_reducible refine ⟨fun h => absurd h (by decide), ?_⟩)
  try rw [← hops]
  refine wpT_step (by rw [hops, List.getElem?_toArray]; rfl) (by first | rfl | (rw [hops]; rfl)) ?_
  intro K hK
  go_wp2_with fail
  try (with_reducible refine ⟨fun h => absurd h (by decide), ?_⟩)
  try rw [← hops]
  refine wpT_step (by rw [hops, List.getElem?_toArray]; rfl) (by first | rfl | (rw [hops]; rfl)) ?_
  intro K hK
  go_wp2_with fail
  try (with_reducible refine ⟨fun h => absurd h (by decide), ?_⟩)
  try rw [wpT_nil]
  try clear hops ops
  go_wp2_with fail
  refine bodyPost_ret (v := .tuple #[.pointer (some ⟨w4.heap.size, 0, none⟩), .int .i64 0]) (by simp [results, Tryz.results27, go_sem]) rfl ?_
  have hx4 := X3.out.trans X4.out
  have hxa := hx4.alloc (.cells #[.pointer (some ⟨ob, 0, none⟩), .int .i64 mode, .int .i64 (d : Int), .int .i64 pb, .int .i64 pu, .int .i64 pq, uv reward, .int .i64 window, .int .i64 finality, uv work, uv s', uv (kSpend s'), .pointer (some ⟨LB, 0, none⟩), .slice none 0 0, .slice none 0 0] 115)
  have hxw := HX0.out.trans hxa
  have ht4 := (HT.out.1.ext X4.out).ext ((Ext.refl w4).alloc (.cells #[.pointer (some ⟨ob, 0, none⟩), .int .i64 mode, .int .i64 (d : Int), .int .i64 pb, .int .i64 pu, .int .i64 pq, uv reward, .int .i64 window, .int .i64 finality, uv work, uv s', uv (kSpend s'), .pointer (some ⟨LB, 0, none⟩), .slice none 0 0, .slice none 0 0] 115))
  have hnew := heap_new w4 (.cells #[.pointer (some ⟨ob, 0, none⟩), .int .i64 mode, .int .i64 (d : Int), .int .i64 pb, .int .i64 pu, .int .i64 pq, uv reward, .int .i64 window, .int .i64 finality, uv work, uv s', uv (kSpend s'), .pointer (some ⟨LB, 0, none⟩), .slice none 0 0, .slice none 0 0] 115)
  have hftl : ∀ i, FT i → i < w4.heap.size := fun i hi => by
    obtain ⟨LV, vs, ls, h1, -⟩ := HT.out.1
    exact Nat.lt_of_lt_of_le (h1.foot.2.2.2 i hi) X4.out.size
  have hw4 := (HX0.out.trans hx4).size
  have hG : ∀ i, WF w4.heap.size FT (.slice none 0 0) (.slice none 0 0) i → w.heap.size ≤ i := fun i hi => by
    rcases hi with e | e | e | e
    · omega
    · exact HT.out.2 i e
    · cases e
    · cases e
  refine ⟨w4.heap.size, WF w4.heap.size FT (.slice none 0 0) (.slice none 0 0), rfl, hxw, ⟨⟨mode, d, pb, pu, pq, reward, window, finality, work⟩, [], ob, LB, .slice none 0 0, .slice none 0 0, FO, FT, { self := hnew, dep := ⟨rfl, HDEP.out.2.1, HDEP.out.2.2⟩, sub := fun i hi => hi, orc := fun u ku => (HO.out.ext (hxw.kp ku hG)), tree := ht4, notes := World.ownsRow_nil _ _ _ _, past := World.ownsRow_nil _ _ _ _, sps := (fun x hx => by cases hx), wt := fun e => by have := hftl _ e; omega, wn := (fun e => by cases e), wp := (fun e => by cases e), tn := (fun i e => by cases e), tp := (fun i e => by cases e), np := (fun i e => by cases e), tl := fun i hi => Nat.lt_of_lt_of_le (hftl i hi) ((Ext.refl w4).alloc _).size }, rfl, rfl⟩, hG⟩
/-- It has scanned l' now. -/
def WalTo (w : World) (W d : Nat) (seed : UInt64) (l' : List BlkT) (G : Nat → Prop) (w' : World) : Prop := ∃ G', WalAt w' W d seed l' G' ∧ Kp G w w' ∧ ∀ i, G' i → G i ∨ w.heap.size ≤ i
theorem WalTo.refl {w w' : World} {W d : Nat} {seed : UInt64} {l : List BlkT} {G : Nat → Prop} (h : WalAt w W d seed l G) (k : Ext w w') : WalTo w W d seed l G w' := ⟨G, h.ext k, .of_ext k, fun _ e => .inl e⟩
theorem WalTo.trans {w w' w'' : World} {W d : Nat} {seed : UInt64} {l'' : List BlkT} {G G' : Nat → Prop} (hk : Kp G w w') (hn : ∀ i, G' i → G i ∨ w.heap.size ≤ i) (h : WalTo w' W d seed l'' G' w'') : WalTo w W d seed l'' G w'' := by
  obtain ⟨G2, h1, h2, h3⟩ := h
  refine ⟨G2, h1, hk.chain hn h2, fun i hi => ?_⟩
  rcases h3 i hi with e | e
  · exact hn i e
  · have := hk.size
    exact .inr (by omega)
theorem depth_le {w : World} {W d : Nat} {seed : UInt64} {l : List BlkT} {G : Nat → Prop} (h : WalAt w W d seed l G) : d ≤ 12 := by
  obtain ⟨r, ps, ob, LB, nv, pv, FO, FT, h1, h2, rfl⟩ := h
  exact h1.dep.2.2
theorem pow12 {d : Nat} (h : d ≤ 12) : 2 ^ d ≤ 4096 := by
  have : 2 ^ d ≤ 2 ^ 12 := Nat.pow_le_pow_right (by omega) h
  omega
theorem wApply_sub {w : World} {W d : Nat} {seed : UInt64} {l : List BlkT} {G : Nat → Prop} (h : WalAt w W d seed l G) (hl : l.length ≤ 1000) (hok : okAll d l) {wB : World} (hB : ∀ u, Kp G w u → Sub wB u) (b : BlkT) (tv : Value) (hb : RdTs wB tv b.txs) (hn : b.txs.length ≤ 100) (hs : ∀ t ∈ b.txs, TSm t) :
    Calls Tryz.prog 42 #[.pointer (some ⟨W, 0, none⟩), blkVal b tv] w fun e w' => e = .returned (.int .i64 (checkW d l b)) ∧ WalTo w W d seed (if checkW d l b = 0 then l ++ [b] else l) G w' := by
  have h0 := h
  have hd := depth_le h
  obtain ⟨r, ps, ob, LB, nv, pv, FO, FT, h1, h2, rfl⟩ := h
  have hpl : ps.length = l.length := by rw [← psW_length seed l, ← h2, List.length_map]
  have hL := fitsAll_stW ((okAll_fits (seed := seed)).2 hok)
  have hp := pow12 hd
  have hc : fitsW d ps.length (stW seed l).leaves.length b = checkW d l b := by rw [hpl]; exact fits_check d seed l b
  refine (walApply_sub h1 (stW_ok seed l) (by omega) (by omega) hB b tv hb hn hs).mono ?_
  rintro e w' ⟨rfl, hno, hyes⟩
  rw [hc] at hno hyes ⊢
  refine ⟨rfl, ?_⟩
  by_cases hz : checkW d l b = 0
  · rw [if_pos hz]
    obtain ⟨nv', pv', FT', sv', g1, g2, g3⟩ := hyes hz
    refine ⟨_, ⟨r, _, ob, LB, nv', pv', FO, FT', by rw [stW_snoc, ← hpl]; exact g1, ?_, rfl⟩, g2, g3⟩
    rw [List.map_append, h2, psW_snoc, stW_snoc, ← hpl]
    rfl
  · rw [if_neg hz]
    exact .refl h0 (hno hz)
theorem wApply_any {w : World} {W d : Nat} {seed : UInt64} {l : List BlkT} {G : Nat → Prop} (h : WalAt w W d seed l G) (hl : l.length ≤ 1000) (hok : okAll d l) {wB : World} (hB : Ext wB w) (hA : ∀ i, G i → wB.heap.size ≤ i) (b : BlkT) (tv : Value) (hb : RdTs wB tv b.txs) (hn : b.txs.length ≤ 100) (hs : ∀ t ∈ b.txs, TSm t) :
    Calls Tryz.prog 42 #[.pointer (some ⟨W, 0, none⟩), blkVal b tv] w fun e w' => e = .returned (.int .i64 (checkW d l b)) ∧ WalTo w W d seed (if checkW d l b = 0 then l ++ [b] else l) G w' := by
  exact wApply_sub h hl hok (fun u k => .of_ext (hB.kp k hA)) b tv hb hn hs
open Classical in
/-- The world without the blocks of G. -/
noncomputable def hole (G : Nat → Prop) (w : World) : World := { w with heap := w.heap.mapIdx fun i o => if G i then .cells #[] 0 (0, 0) else o }
theorem hole_block {G : Nat → Prop} {w : World} {i : Nat} (h : ¬ G i) : (hole G w).heap[i]? = w.heap[i]? := by
  unfold hole
  simp only [Array.getElem?_mapIdx]
  cases w.heap[i]? with
  | none => rfl
  | some o => simp [h]
theorem hole_none {G : Nat → Prop} {w : World} {p : Addr} {v : Value} (h : (hole G w).cell? p = some v) : ¬ G p.block ∧ p.block < w.heap.size := by
  have hlt : p.block < w.heap.size := by
    rcases Nat.lt_or_ge p.block w.heap.size with hl | hl
    · exact hl
    · unfold hole at h
      simp [World.cell?, Array.getElem?_mapIdx, Array.getElem?_eq_none hl] at h
  refine ⟨fun hg => ?_, hlt⟩
  unfold hole at h
  simp [World.cell?, Array.getElem?_mapIdx, Array.getElem?_eq_getElem hlt, hg] at h
theorem hole_sub {G : Nat → Prop} {w u : World} (k : Kp G w u) : Sub (hole G w) u := fun p v hp => by
  obtain ⟨h1, h2⟩ := hole_none hp
  rw [World.cell?_of_block (w := hole G w) (by rw [hole_block h1]; exact k.block p.block h2 h1)]
  exact hp
theorem RdC'.hole {G : Nat → Prop} {w : World} {v : Value} {n : Nat} {cells : List Value} (h : RdC' w v n cells) (hb : ∀ k, blk v = some k → ¬ G k) : RdC' (hole G w) v n cells :=
  h.of_blocks fun k hk _ => hole_block (hb k hk)
theorem wUndo_any {w : World} {W d : Nat} {seed : UInt64} {l : List BlkT} {G : Nat → Prop} (h : WalAt w W d seed l G) (hl : l.length ≤ 1000) (hok : okAll d l) (hbs : ∀ b ∈ l, b.txs.length ≤ 100) :
    Calls Tryz.prog 30 #[.pointer (some ⟨W, 0, none⟩)] w fun e w' => e = .returned (.bool (decide (0 < l.length))) ∧ WalTo w W d seed l.dropLast G w' := by
  have h0 := h
  have hd := depth_le h
  obtain ⟨r, ps, ob, LB, nv, pv, FO, FT, h1, h2, rfl⟩ := h
  have hpl : ps.length = l.length := by rw [← psW_length seed l, ← h2, List.length_map]
  rcases List.eq_nil_or_concat l with rfl | ⟨m, b, hm⟩
  · obtain rfl : ps = [] := List.eq_nil_of_length_eq_zero hpl
    exact (walUndo_none h1).mono fun e w' hh => ⟨hh.1, .refl h0 hh.2⟩
  · rw [List.concat_eq_append] at hm
    subst hm
    have hL := fitsAll_stW ((okAll_fits (seed := seed)).2 hok)
    have hp := pow12 hd
    have hn := (stW_ok seed (m ++ [b])).n
    simp only at hn
    obtain ⟨u1, u2, u3, u4⟩ := undo_st seed m b
    rw [psW_snoc] at h2
    obtain ⟨ps0, x, rfl⟩ : ∃ ps0 x, ps = ps0 ++ [x] := by
      rcases List.eq_nil_or_concat ps with e | ⟨p, x, e⟩
      · rw [e] at hpl; simp at hpl
      · exact ⟨p, x, by rw [e, List.concat_eq_append]⟩
    rw [List.map_append] at h2
    obtain ⟨e1, e2⟩ := List.append_inj' h2 rfl
    simp only [List.map_cons, List.map_nil, List.cons.injEq, and_true] at e2
    have hml : ps0.length = m.length := by
      have := hpl
      rw [List.length_append, List.length_append, List.length_singleton, List.length_singleton] at this
      omega
    have hlm : (stW seed m).leaves.length ≤ (stW seed (m ++ [b])).leaves.length := by
      rw [stW_snoc, blkW_leaves]
      omega
    have hsp : (stW seed (m ++ [b])).sp.length ≤ 10000000 := by
      have h3 := (blkW_ok (seed := seed) (h := m.length + 1) b (stW_ok seed m)).s
      rw [← stW_snoc] at h3
      have h4 : (stW seed m).leaves.length + outsN b.txs = (stW seed (m ++ [b])).leaves.length := by rw [stW_snoc, blkW_leaves]
      have h3 : (stW seed (m ++ [b])).sp.length ≤ b.txs.length * ((stW seed m).leaves.length + outsN b.txs) := h3
      rw [h4] at h3
      have h5 := hbs b (by simp)
      have h6 : b.txs.length * (stW seed (m ++ [b])).leaves.length ≤ 100 * 4096 := Nat.mul_le_mul h5 (by omega)
      omega
    have hml2 : m.length ≤ 1000 := by
      rw [List.length_append, List.length_singleton] at hl
      omega
    refine (walUndo_any h1 (by omega) (by omega) (by omega) (by rw [e2]; exact hlm) (by rw [e2]; exact u4) (by rw [e2]; exact u3) (by rw [e2]; exact hsp)).mono ?_
    rintro e w' ⟨rfl, nv', pv', FT', g1, g2, g3⟩
    rw [e2] at g1
    simp only at g1
    rw [u1, u2] at g1
    refine ⟨by simp, ?_⟩
    rw [List.dropLast_concat]
    exact ⟨_, ⟨r, ps0, ob, LB, nv', pv', FO, FT', g1, e1, rfl⟩, g2, g3⟩
end Go.Proofs.YtcikjcjfcanloaaGreat
namespace Go.Proofs.YtcikjcjfcanloaaGreat
open Go.RowKit
attribute [local irreducible] perm fAdd fMul fPow fSub fNeg fRed hashU drawOf nextState
theorem rNumber_any (n : Int) (w : World) : Calls Tryz.prog 60 #[.int .i64 n] w fun e w' => e = .returned (.bool (isNumK n)) ∧ Ext w w' := by
  unfold isNumK
  by_cases h0 : 0 ≤ n
  · by_cases h4 : n < 4
    · have d0 : decide (0 ≤ n) = true := by simp [h0]
      have d4 : decide (n < 4) = true := by simp [h4]
      rw [d0, d4]
      go_enter Tryz.func60, Tryz.ntmps60
      go_wp2_with fail
      go_ret
      exact ⟨rfl, Ext.refl _⟩
    · have d0 : decide (0 ≤ n) = true := by simp [h0]
      have d4 : decide (n < 4) = false := by simp [h4]
      rw [d0, d4]
      go_enter Tryz.func60, Tryz.ntmps60
      go_wp2_with fail
      go_ret
      exact ⟨rfl, Ext.refl _⟩
  · have d0 : decide (0 ≤ n) = false := by simp [h0]
    rw [d0, Bool.false_and]
    go_enter Tryz.func60, Tryz.ntmps60
    go_wp2_with fail
    go_ret
    exact ⟨rfl, Ext.refl _⟩
set_option maxRecDepth 100000 in
set_option maxHeartbeats 3200000 in
theorem rKeysHash_any (label : UInt64) (lv : Value) (l : List UInt64) (w : World) (hl : RdU w lv l) (hL : l.length ≤ 1000000000) :
    Calls Tryz.prog 61 #[uv label, lv] w fun e w' => e = .returned (uv (hashU label l)) ∧ Ext w w' := by
  have HL := hid hl
  obtain ⟨la, lc, rfl, -⟩ := hl
  obtain ⟨i0, hi1, hz0, hz1, hz2⟩ := info_parts Tryz.infoU
  have HI1 := hid (And.intro hi1 (And.intro hz0 (And.intro hz1 hz2)))
  have HOW : Hid (OwnU (w.alloc (.cells #[] 22)) (.slice (some ⟨w.heap.size, 0, none⟩) 0 0) []) := hid ⟨rfl, .inr ⟨w.heap.size, 0, #[], rfl, Nat.zero_le _, heap_new _ _, Nat.le_refl _, Nat.zero_le _, rfl, rfl⟩⟩
  have hx0 := hid ((Ext.refl w).alloc (.cells #[] 22))
  clear hi1 hz0 hz1 hz2
  go_enter Tryz.func61, Tryz.ntmps61
  go_wp2_with fail
  go_loopw [5, 6] (fun xv iv wr => ∃ (i : Nat) (m : List UInt64) (xa : Option Addr) (xc : Nat), i ≤ l.length ∧ iv = .int .i64 i ∧ xv = .slice xa m.length xc ∧ Hid (m = (l.take i).map fRed) ∧ Hid (OwnU wr (.slice xa m.length xc) m) ∧ Hid (Ext w wr) ∧ Hid (∀ t, blk (.slice xa m.length xc) = some t → w.heap.size ≤ t)) (fun _ iv _ => l.length - (intOf iv).toNat)
  case atStart => exact ⟨0, [], some ⟨w.heap.size, 0, none⟩, 0, by omega, rfl, rfl, hid rfl, HOW, hx0, hid (fun t h => by first | (simp [Value.ownBlock] at h; omega) | (simp [Value.ownBlock] at h) | (have h' : some w.heap.size = some t := h; injection h' with h'; omega))⟩
  case round =>
    obtain ⟨i, m, xa, xc, hi, rfl, rfl, HM, HO, HX, HN⟩ := hrel
    by_cases hlt : i < l.length
    · have hltB : decide ((i : Int) < (l.length : Int)) = true := by simp; omega
      obtain ⟨x, hx⟩ : ∃ x, l[i]? = some x := ⟨_, List.getElem?_eq_getElem hlt⟩
      obtain ⟨b, o, rfl, hcx⟩ := (HL.out.ext HX.out).at hx
      have hxi := hid hx
      have hil : (i : Int) < (l.length : Int) := by omega
      have hi0 : (0 : Int) ≤ (i : Int) := Int.natCast_nonneg _
      have hm : ((x.toNat : Int)).tmod 18446744069414584321 = ((fRed x).toNat : Int) := by rw [Int.tmod_eq_emod_of_nonneg (Int.natCast_nonneg _), fRed_toNat]; rfl
      have hml : m.length = i := by rw [HM.out, List.length_map, List.length_take]; omega
      have HML := hid hml
      have HOWNA := hid (ownsRow_ext HO.out ((Ext.refl wr).alloc (.cells #[uv (fRed x)] 22)))
      have hone : ∀ u ∈ [uv (fRed x)], u.oneCell' = true := by simp [Value.oneCell']
      have hm1 : m.length + 1 ≤ maxLen := by unfold maxLen; omega
      have HM1 := hid hm1
      have HML2 : Hid (m.length ≤ 1000000000) := hid (by omega)
      clear hx hml hm1
      go_wp2_with (at_builtin; refine wpList_app rfl _ _ 57 rfl 22 i0 (.int .u64 0) 1 8 Tryz.underlying57 HI1.out.1 HI1.out.2.1 HI1.out.2.2.1 HI1.out.2.2.2 rfl (by decide) (.slice xa m.length xc) m.length (us m) rfl HOWNA.out _ 1 [uv (fRed x)] rfl (RdC.new1 _ _ _) rfl hone (by have := HML2.out; unfold maxLen; omega) (by have := HML2.out; omega) ?_)
      intro v' w5 hown0 hk hb
      have hown : OwnU w5 v' (m ++ [fRed x]) := by
        show w5.ownsRow 0 22 1 v' (m ++ [fRed x]).length (us (m ++ [fRed x]))
        rw [show (m ++ [fRed x]).length = m.length + 1 from by simp, show us (m ++ [fRed x]) = us m ++ [uv (fRed x)] from by simp]
        exact hown0
      have hx5 : Ext w w5 := ((HX.out.alloc (.cells #[uv (fRed x)] 22))).kp hk (fun k h => HN.out k h.symm)
      have hn5 : ∀ t, blk v' = some t → w.heap.size ≤ t := by
        intro t ht
        have := HX.out.size
        rcases hb with h | h
        · exact HN.out t (by rw [← h]; exact ht)
        · rw [h] at ht; simp at ht; omega
      obtain ⟨xa', xc', rfl, -⟩ := ownsRow_rd hown
      obtain ⟨m', hm'⟩ : ∃ m', m' = m ++ [fRed x] := ⟨_, rfl⟩
      rw [← hm'] at hown hn5
      have HM' : Hid (m' = (l.take (i + 1)).map fRed) := hid (by rw [hm', HM.out, List.take_add_one, hxi.out]; simp)
      have hlen : m'.length = m.length + 1 := by rw [hm']; simp
      rw [show (m ++ [fRed x]).length = m'.length by rw [hm']]
      have HO' := hid hown
      have HX' := hid hx5
      have HN' := hid hn5
      clear hown0 hown hk hb hx5 hn5 hm' hlen hone hm HOWNA
      go_wp2_with fail
      go_roundw
      case rel => exact ⟨i + 1, m', xa', xc', by omega, by go_num, rfl, HM', HO', HX', HN'⟩
      case measure => simp [intOf]; omega
    · obtain rfl : i = l.length := by omega
      have hltB : decide ((l.length : Int) < (l.length : Int)) = false := by simp
      have hm : m = l.map fRed := by have := HM.out; rwa [List.take_length] at this
      have hlm : m.length = l.length := by rw [hm, List.length_map]
      have h := rHash_any _ isBig label (.slice xa m.length xc) m wr (OwnU.rdu HO.out) (by omega)
      have hk : hashU label m = hashU label l := by rw [hm, hashU_red]
      rw [hk] at h
      obtain ⟨k, hk0⟩ : ∃ k, k = hashU label l := ⟨_, rfl⟩
      rw [← hk0] at h
      have HH := hid h
      have HK := hid hk0
      clear h hk hm hlm hk0
      go_wp2_with fail
      refine (HH.out).mono ?_
      rintro e w6 ⟨rfl, hx⟩
      have HX6 := hid (HX.out.trans hx)
      clear hx HH
      go_wp2_with fail
      go_ret
      exact ⟨by rw [← HK.out]; rfl, HX6.out⟩
theorem rkSpend_any (seed : UInt64) (w : World) : Calls Tryz.prog 21 #[uv seed] w fun e w' => e = .returned (uv (kSpend seed)) ∧ Ext w w' := by
  have hrd : RdU (w.alloc (.cells #[uv seed] 22)) (.slice (some ⟨w.heap.size, 0, none⟩) 1 1) [seed] := (RdC.block (heap_new w _) (n := 1) (by unfold maxLen; omega)).rdu rfl
  have HH := hid (rKeysHash_any 8 _ [seed] _ hrd (by simp))
  obtain ⟨k, hk⟩ : ∃ k, k = kSpend seed := ⟨_, rfl⟩
  have hk2 : hashU 8 [seed] = k := by rw [hk]; rfl
  rw [hk2] at HH
  rw [← hk]
  clear hrd hk hk2
  go_enter Tryz.func21, Tryz.ntmps21
  go_wp2_with fail
  refine (HH.out).mono ?_
  rintro e w1 ⟨rfl, hx⟩
  have HX1 := hid (((Ext.refl w).alloc _).trans hx)
  clear hx HH
  go_wp2_with fail
  go_ret
  exact ⟨rfl, HX1.out⟩
theorem rkView_in (seed : UInt64) (m : Nat) (hm : m < 4) (w : World) : Calls Tryz.prog 97 #[uv seed, .int .i64 (m : Int)] w fun e w' => e = .returned (uv (hashU 10 [seed, UInt64.ofNat m])) ∧ Ext w w' := by
  have hN : isNumK (m : Int) = true := by unfold isNumK; simp; omega
  have hmm : ((UInt64.ofNat m).toNat : Int) = (m : Int) := by simp; omega
  have hwr : IntKind.u64.wrap (m : Int) = (m : Int) := by rw [← hmm]; exact wrap_u _
  have HN := hid (rNumber_any (m : Int) w)
  rw [hN] at HN
  have HH : Hid (∀ v : World, Calls Tryz.prog 61 #[.int .u64 10, .slice (some ⟨v.heap.size, 0, none⟩) 2 2] (v.alloc (.cells #[uv seed, .int .u64 (m : Int)] 22)) fun e w' => e = .returned (uv (hashU 10 [seed, UInt64.ofNat m])) ∧ Ext (v.alloc (.cells #[uv seed, .int .u64 (m : Int)] 22)) w') := hid fun v => by
    have hrd : RdU (v.alloc (.cells #[uv seed, uv (UInt64.ofNat m)] 22)) (.slice (some ⟨v.heap.size, 0, none⟩) 2 2) [seed, UInt64.ofNat m] := (RdC.block (heap_new v _) (n := 2) (by unfold maxLen; omega)).rdu rfl
    have h := rKeysHash_any 10 _ [seed, UInt64.ofNat m] _ hrd (by simp)
    rw [show uv (UInt64.ofNat m) = .int .u64 (m : Int) by unfold uv; rw [hmm]] at h
    exact h
  generalize hashU 10 [seed, UInt64.ofNat m] = k at *
  clear hN hmm
  go_enter Tryz.func97, Tryz.ntmps97
  go_wp2_with fail
  refine (HN.out).mono ?_
  rintro e w1 ⟨rfl, hx⟩
  have HX1 := hid hx
  clear hx HN
  go_wp2_with fail
  refine (HH.out _).mono ?_
  rintro e w2 ⟨rfl, hx⟩
  have HX2 := hid ((HX1.out.alloc _).trans hx)
  clear hx HH
  go_wp2_with fail
  go_ret
  exact ⟨rfl, HX2.out⟩
theorem rkView_any (seed : UInt64) (n : Int) (w : World) : Calls Tryz.prog 97 #[uv seed, .int .i64 n] w fun e w' => e = .returned (uv (kView seed n)) ∧ Ext w w' := by
  unfold kView
  by_cases h : isNumK n = true
  · rw [if_pos h]
    obtain ⟨m, rfl⟩ : ∃ m : Nat, n = (m : Int) := ⟨n.toNat, by unfold isNumK at h; simp at h; omega⟩
    exact rkView_in seed m (by unfold isNumK at h; simp at h; omega) w
  · rw [if_neg h]
    have HN := hid (rNumber_any n w)
    rw [Bool.not_eq_true] at h
    rw [h] at HN
    clear h
    go_enter Tryz.func97, Tryz.ntmps97
    go_wp2_with fail
    refine (HN.out).mono ?_
    rintro e w1 ⟨rfl, hx⟩
    have HX1 := hid hx
    clear hx HN
    go_wp2_with fail
    go_ret
    exact ⟨rfl, HX1.out⟩
theorem rkOwner_in (key : UInt64) (m : Nat) (hm : m < 4) (w : World) : Calls Tryz.prog 20 #[uv key, .int .i64 (m : Int)] w fun e w' => e = .returned (uv (hashU 1 [key, UInt64.ofNat m])) ∧ Ext w w' := by
  have hN : isNumK (m : Int) = true := by unfold isNumK; simp; omega
  have hmm : ((UInt64.ofNat m).toNat : Int) = (m : Int) := by simp; omega
  have hwr : IntKind.u64.wrap (m : Int) = (m : Int) := by rw [← hmm]; exact wrap_u _
  have HN := hid (rNumber_any (m : Int) w)
  rw [hN] at HN
  have HH : Hid (∀ v : World, Calls Tryz.prog 61 #[.int .u64 1, .slice (some ⟨v.heap.size, 0, none⟩) 2 2] (v.alloc (.cells #[uv key, .int .u64 (m : Int)] 22)) fun e w' => e = .returned (uv (hashU 1 [key, UInt64.ofNat m])) ∧ Ext (v.alloc (.cells #[uv key, .int .u64 (m : Int)] 22)) w') := hid fun v => by
    have hrd : RdU (v.alloc (.cells #[uv key, uv (UInt64.ofNat m)] 22)) (.slice (some ⟨v.heap.size, 0, none⟩) 2 2) [key, UInt64.ofNat m] := (RdC.block (heap_new v _) (n := 2) (by unfold maxLen; omega)).rdu rfl
    have h := rKeysHash_any 1 _ [key, UInt64.ofNat m] _ hrd (by simp)
    rw [show uv (UInt64.ofNat m) = .int .u64 (m : Int) by unfold uv; rw [hmm]] at h
    exact h
  generalize hashU 1 [key, UInt64.ofNat m] = k at *
  clear hN hmm
  go_enter Tryz.func20, Tryz.ntmps20
  go_wp2_with fail
  refine (HN.out).mono ?_
  rintro e w1 ⟨rfl, hx⟩
  have HX1 := hid hx
  clear hx HN
  go_wp2_with fail
  refine (HH.out _).mono ?_
  rintro e w2 ⟨rfl, hx⟩
  have HX2 := hid ((HX1.out.alloc _).trans hx)
  clear hx HH
  go_wp2_with fail
  go_ret
  exact ⟨rfl, HX2.out⟩
theorem rkOwner_any (key : UInt64) (n : Int) (w : World) : Calls Tryz.prog 20 #[uv key, .int .i64 n] w fun e w' => e = .returned (uv (kOwner key n)) ∧ Ext w w' := by
  unfold kOwner
  by_cases h : isNumK n = true
  · rw [if_pos h]
    obtain ⟨m, rfl⟩ : ∃ m : Nat, n = (m : Int) := ⟨n.toNat, by unfold isNumK at h; simp at h; omega⟩
    exact rkOwner_in key m (by unfold isNumK at h; simp at h; omega) w
  · rw [if_neg h]
    have HN := hid (rNumber_any n w)
    rw [Bool.not_eq_true] at h
    rw [h] at HN
    clear h
    go_enter Tryz.func20, Tryz.ntmps20
    go_wp2_with fail
    refine (HN.out).mono ?_
    rintro e w1 ⟨rfl, hx⟩
    have HX1 := hid hx
    clear hx HN
    go_wp2_with fail
    go_ret
    exact ⟨rfl, HX1.out⟩
end Go.Proofs.YtcikjcjfcanloaaGreat
namespace Go.Proofs.YtcikjcjfcanloaaGreat
open Go.RowKit
attribute [local irreducible] fAdd fMul fPow fSub fNeg fRed fAdd0 fMul0 fPow0
set_option maxRecDepth 100000 in
set_option maxHeartbeats 800000 in
theorem rGen_any (p : Int) (hp : IsBig p) (w : World) :
    Calls Tryz.prog 174 #[.int .u64 p] w fun e w' => e = .returned (.int .u64 7) ∧ Ext w w' := by
  go_enter Tryz.func174, Tryz.ntmps174
  go_wp2_with fail
  refine (rRow_any p hp _).mono ?_
  rintro e w1 ⟨rfl, hx⟩
  have hix := index0 (.int .u64 7) (.int .u64 32) (.int .u64 7)
  have hix2 := index2 (.int .u64 7) (.int .u64 32) (.int .u64 7)
  go_wp2
  go_ret
  exact ⟨rfl, hx⟩
set_option maxRecDepth 100000 in
set_option maxHeartbeats 800000 in
theorem rReduce_one (p : Int) (hp : IsBig p) (w : World) : Calls Tryz.prog 149 #[.int .u64 p, .int .u64 1] w fun e w' => e = .returned (.int .u64 1) ∧ Ext w w' := by
  have HV := hid (rValid_any p hp)
  have hp0 := hp.pos
  have hpz : ¬ p = 0 := by omega
  have hz : (p == 0) = false := by simp; omega
  have h1 : (1 : Int).tmod p = 1 := by rw [hp]; decide
  have h2 : (1 : Int) % p = 1 := by rw [hp]; decide
  go_enter Tryz.func149, Tryz.ntmps149
  go_wp2_with fail
  refine (HV.out _).mono ?_
  rintro e w1 ⟨rfl, hx⟩
  have HX := hid hx
  clear hx
  go_wp2
  go_ret
  exact ⟨rfl, HX.out⟩
/-- The boxes of a product: the two factors, the result. -/
structure BoxR (w w0 : World) (N : Nat) (x y : E2) : Prop where
  ex : Ext w w0
  b1 : w0.heap[N]? = some x.o
  b2 : w0.heap[N + 1]? = some y.o
  b3 : w0.heap[N + 1 + 1]? = some zero2
theorem BoxR.make (w : World) (x y : E2) : BoxR w (((w.alloc x.o).alloc y.o).alloc zero2) w.heap.size x y where
  ex := (((Ext.refl w).alloc _).alloc _).alloc _
  b1 := heap_alloc_some (heap_alloc_some (heap_new _ _))
  b2 := by
    refine heap_alloc_some ?_
    have := heap_new (w.alloc x.o) y.o
    simpa using this
  b3 := by
    have := heap_new ((w.alloc x.o).alloc y.o) zero2
    simpa using this
theorem BoxR.cells {w w0 : World} {N : Nat} {x y : E2} (h : BoxR w w0 N x y) {v : World} (k : Ext w0 v) : (v.cell? ⟨N, 0, none⟩ = some (.int .u64 x.a.toNat) ∧ v.cell? ⟨N, 1, none⟩ = some (.int .u64 x.b.toNat)) ∧ (v.cell? ⟨N + 1, 0, none⟩ = some (.int .u64 y.a.toNat) ∧ v.cell? ⟨N + 1, 1, none⟩ = some (.int .u64 y.b.toNat)) :=
  ⟨two_cells (k.heap_some h.b1), two_cells (k.heap_some h.b2)⟩
set_option maxRecDepth 100000 in
set_option maxHeartbeats 1600000 in
theorem rEMul_any (p : Int) (hp : IsBig p) (x y : E2) (w : World) :
    Calls Tryz.prog 150 #[.int .u64 p, x.v, y.v] w fun e w' => e = .returned (eMul x y).v ∧ Ext w w' := by
  obtain ⟨N, hN⟩ : ∃ N, N = w.heap.size := ⟨_, rfl⟩
  obtain ⟨w0, hw0⟩ : ∃ w0, w0 = ((w.alloc x.o).alloc y.o).alloc zero2 := ⟨_, rfl⟩
  have hB : BoxR w w0 N x y := by rw [hw0, hN]; exact BoxR.make w x y
  have HB := hid hB
  have HW := hid hw0
  have HN := hid hN
  have H : Hid (∀ v, Ext w0 v → ((v.cell? ⟨N, 0, none⟩ = some (.int .u64 x.a.toNat) ∧ v.cell? ⟨N, 1, none⟩ = some (.int .u64 x.b.toNat)) ∧ (v.cell? ⟨N + 1, 0, none⟩ = some (.int .u64 y.a.toNat) ∧ v.cell? ⟨N + 1, 1, none⟩ = some (.int .u64 y.b.toNat)))) := hid fun v k => hB.cells k
  clear hB hw0
  obtain ⟨⟨c0, c1⟩, c2, c3⟩ := H.out w0 (Ext.refl _)
  go_enter Tryz.func150, Tryz.ntmps150
  go_upto_region 1 with fail
  rw [← HW.out, ← hN]
  clear hN
  go_wp2_with fail
  refine (rMul_any p hp x.a y.a _).mono ?_
  rintro e w1 ⟨rfl, hx⟩
  have HX1 := hid hx
  clear hx c0 c1 c2 c3
  have H1 : Hid (∀ v, Ext w1 v → ((v.cell? ⟨N, 0, none⟩ = some (.int .u64 x.a.toNat) ∧ v.cell? ⟨N, 1, none⟩ = some (.int .u64 x.b.toNat)) ∧ (v.cell? ⟨N + 1, 0, none⟩ = some (.int .u64 y.a.toNat) ∧ v.cell? ⟨N + 1, 1, none⟩ = some (.int .u64 y.b.toNat)))) := hid fun v k => H.out v (HX1.out.trans k)
  go_wp2_with fail
  refine wp_region_T (fun v => ((v.cell? ⟨N, 0, none⟩ = some (.int .u64 x.a.toNat) ∧ v.cell? ⟨N, 1, none⟩ = some (.int .u64 x.b.toNat)) ∧ (v.cell? ⟨N + 1, 0, none⟩ = some (.int .u64 y.a.toNat) ∧ v.cell? ⟨N + 1, 1, none⟩ = some (.int .u64 y.b.toNat))) ∧ Ext w1 v) 9 [(0, true), (1, true), (3, true), (4, true), (5, true), (6, true), (7, true), (2, false), (8, false), (9, false), (10, false)] (by kernel_rfl) (by kernel_rfl) (by intro c a d v w h; cases d <;> exact h) ?_
  intro ops hops
  have HS := keep0 H1.out
  iterate 7
    refine wpT_take (v := ?_) (by rw [hops, List.getElem?_toArray]; rfl) (by first | rfl | (rw [hops]; rfl)) ?_ HS ?_
    rotate_left
    · intro v h; go_simp; with_reducible rfl
    simp only [Act.put, List.getElem_toArray, List.getElem_cons_zero, List.getElem_cons_succ, List.setIfInBounds_toArray, List.set_cons_zero, List.set_cons_succ]
  refine wpT_step (by rw [hops, List.getElem?_toArray]; rfl) (by first | rfl | (rw [hops]; rfl)) ?_
  intro K hK
  go_wp2_with fail
  refine (rGen_any p hp _).mono ?_
  rintro e w2 ⟨rfl, hx⟩
  have HS1 := keepE H1.out HS hx
  clear HS hx
  refine hK _ _ ⟨fun _ => HS1, ?_⟩
  clear hK K
  refine wpT_step (by rw [hops, List.getElem?_toArray]; rfl) (by first | rfl | (rw [hops]; rfl)) ?_
  intro K hK
  go_wp2_with fail
  refine (rMul_any p hp x.b y.b _).mono ?_
  rintro e w3 ⟨rfl, hx⟩
  have HS2 := keepE H1.out HS1 hx
  clear HS1 hx
  refine hK _ _ ⟨fun _ => HS2, ?_⟩
  clear hK K
  refine wpT_step (by rw [hops, List.getElem?_toArray]; rfl) (by first | rfl | (rw [hops]; rfl)) ?_
  intro K hK
  go_wp2_with fail
  refine (rMul_any p hp 7 (fMul x.b y.b) _).mono ?_
  rintro e w4 ⟨rfl, hx⟩
  have HS3 := keepE H1.out HS2 hx
  clear HS2 hx
  refine hK _ _ ⟨fun h => absurd h (by decide), ?_⟩
  clear hK K
  refine wpT_step (by rw [hops, List.getElem?_toArray]; rfl) (by first | rfl | (rw [hops]; rfl)) ?_
  intro K hK
  go_wp2_with fail
  try (with_reducible refine ⟨fun h => absurd h (by decide), ?_⟩)
  try rw [wpT_nil]
  try clear hops ops
  have HX4 := hid (HX1.out.trans HS3.2)
  clear HS3
  have H4 : Hid (∀ v, Ext w4 v → ((v.cell? ⟨N, 0, none⟩ = some (.int .u64 x.a.toNat) ∧ v.cell? ⟨N, 1, none⟩ = some (.int .u64 x.b.toNat)) ∧ (v.cell? ⟨N + 1, 0, none⟩ = some (.int .u64 y.a.toNat) ∧ v.cell? ⟨N + 1, 1, none⟩ = some (.int .u64 y.b.toNat)))) := hid fun v k => H.out v (HX4.out.trans k)
  obtain ⟨sq, hsq⟩ : ∃ sq, sq = fMul 7 (fMul x.b y.b) := ⟨_, rfl⟩
  rw [← hsq]
  have HSQ := hid hsq
  clear hsq
  go_wp2_with fail
  refine wp_region_T (fun v => ((v.cell? ⟨N, 0, none⟩ = some (.int .u64 x.a.toNat) ∧ v.cell? ⟨N, 1, none⟩ = some (.int .u64 x.b.toNat)) ∧ (v.cell? ⟨N + 1, 0, none⟩ = some (.int .u64 y.a.toNat) ∧ v.cell? ⟨N + 1, 1, none⟩ = some (.int .u64 y.b.toNat))) ∧ Ext w4 v) 13 [(0, true), (1, true), (2, true), (3, true), (4, true), (5, true), (7, true), (8, true), (9, true), (10, true), (11, true), (6, false), (12, false), (13, false), (14, false)] (by kernel_rfl) (by kernel_rfl) (by intro c a d v w h; cases d <;> exact h) ?_
  intro ops hops
  have HS := keep0 H4.out
  iterate 11
    refine wpT_take (v := ?_) (by rw [hops, List.getElem?_toArray]; rfl) (by first | rfl | (rw [hops]; rfl)) ?_ HS ?_
    rotate_left
    · intro v h; go_simp; with_reducible rfl
    simp only [Act.put, List.getElem_toArray, List.getElem_cons_zero, List.getElem_cons_succ, List.setIfInBounds_toArray, List.set_cons_zero, List.set_cons_succ]
  refine wpT_step (by rw [hops, List.getElem?_toArray]; rfl) (by first | rfl | (rw [hops]; rfl)) ?_
  intro K hK
  go_wp2_with fail
  refine (rMul_any p hp x.a y.b _).mono ?_
  rintro e w5 ⟨rfl, hx⟩
  have HS1 := keepE H4.out HS hx
  clear HS hx
  refine hK _ _ ⟨fun _ => HS1, ?_⟩
  clear hK K
  refine wpT_step (by rw [hops, List.getElem?_toArray]; rfl) (by first | rfl | (rw [hops]; rfl)) ?_
  intro K hK
  go_wp2_with fail
  refine (rMul_any p hp x.b y.a _).mono ?_
  rintro e w6 ⟨rfl, hx⟩
  have HS2 := keepE H4.out HS1 hx
  clear HS1 hx
  refine hK _ _ ⟨fun _ => HS2, ?_⟩
  clear hK K
  refine wpT_step (by rw [hops, List.getElem?_toArray]; rfl) (by first | rfl | (rw [hops]; rfl)) ?_
  intro K hK
  go_wp2_with fail
  refine (rAdd_any p hp (fMul x.a y.b) (fMul x.b y.a) _).mono ?_
  rintro e w7 ⟨rfl, hx⟩
  have HS3 := keepE H4.out HS2 hx
  clear HS2 hx
  refine hK _ _ ⟨fun h => absurd h (by decide), ?_⟩
  clear hK K
  refine wpT_step (by rw [hops, List.getElem?_toArray]; rfl) (by first | rfl | (rw [hops]; rfl)) ?_
  intro K hK
  go_wp2_with fail
  try (with_reducible refine ⟨fun h => absurd h (by decide), ?_⟩)
  try rw [wpT_nil]
  try clear hops ops
  have HX7 := hid (HX4.out.trans HS3.2)
  clear HS3
  go_wp2_with fail
  refine (rAdd_any p hp (fMul x.a y.a) sq _).mono ?_
  rintro e w8 ⟨rfl, hx⟩
  have hx8 := HX7.out.trans hx
  have hb8 := hx8.heap_some HB.out.b3
  obtain ⟨k0, k1⟩ := two_cells hb8
  have kf := frozen_of hb8
  obtain ⟨hb9, hk9⟩ := two_set (d0 := .int .u64 (fAdd (fMul x.a y.a) sq).toNat) (d1 := .int .u64 (fAdd (fMul x.a y.b) (fMul x.b y.a)).toNat) hb8
  obtain ⟨r0, r1⟩ := two_cells hb9
  have hfin := (HB.out.ex.trans hx8).kp hk9 (fun k h => by have := HN.out; omega)
  have HF := hid (And.intro hfin (And.intro r0 r1))
  have HRES : Hid ((eMul x y).v = .agg #[.int .u64 (fAdd (fMul x.a y.a) sq).toNat, .int .u64 (fAdd (fMul x.a y.b) (fMul x.b y.a)).toNat]) := hid (by rw [HSQ.out]; rfl)
  clear hx hx8 hb8 hb9 hk9 r0 r1 hfin
  go_wp2_with fail
  obtain ⟨hfin, r0, r1⟩ := HF.out
  generalize (w8.setCell ⟨N + 1 + 1, 0, none⟩ (.int .u64 (fAdd (fMul x.a y.a) sq).toNat)).setCell ⟨N + 1 + 1, 1, none⟩ (.int .u64 (fAdd (fMul x.a y.b) (fMul x.b y.a)).toNat) = W at *
  rw [HRES.out]
  exact bodyPost_ret (v := .agg #[.int .u64 (fAdd (fMul x.a y.a) sq).toNat, .int .u64 (fAdd (fMul x.a y.b) (fMul x.b y.a)).toNat]) (by simp [results, Tryz.results150, go_sem, r0, r1]) rfl ⟨rfl, hfin⟩
structure QRel (w wr : World) (N R : Nat) (x r : E2) : Prop where
  ex : Ext w wr
  b0 : wr.heap[N]? = some x.o
  b1 : wr.heap[N + 1]? = some zero2
  b2 : wr.heap[R]? = some r.o
  hR : N + 1 < R
  hN : w.heap.size ≤ N
theorem QRel.keep {w wr w' : World} {N R : Nat} {x r : E2} (h : QRel w wr N R x r) (k : Ext wr w') : QRel w w' N R x r :=
  ⟨h.ex.trans k, k.heap_some h.b0, k.heap_some h.b1, k.heap_some h.b2, h.hR, h.hN⟩
theorem QRel.set {w wr w' : World} {N R : Nat} {x r r' : E2} (h : QRel w wr N R x r) (hb : w'.heap[R]? = some r'.o) (k : Kp (fun k => k = R) wr w') : QRel w w' N R x r' :=
  have h1 := h.hR
  have h2 := h.hN
  ⟨h.ex.kp k (fun k h => by omega), k.heap_some (by omega) h.b0, k.heap_some (by omega) h.b1, hb, h1, h2⟩
set_option maxRecDepth 100000 in
set_option maxHeartbeats 3200000 in
theorem rEPow_any (p : Int) (hp : IsBig p) (x : E2) (hx : x.red) (ex : UInt64) (w : World) :
    Calls Tryz.prog 127 #[.int .u64 p, x.v, .int .u64 ex.toNat] w fun e w' => e = .returned (ePow x ex).v ∧ Ext w w' := by
  obtain ⟨N, hN⟩ : ∃ N, N = w.heap.size := ⟨_, rfl⟩
  obtain ⟨w0, hw0⟩ : ∃ w0, w0 = (w.alloc x.o).alloc zero2 := ⟨_, rfl⟩
  have hx0 : Ext w w0 := by rw [hw0]; exact ((Ext.refl w).alloc _).alloc _
  have hb0 : w0.heap[N]? = some x.o := by rw [hw0, hN]; exact heap_alloc_some (heap_new _ _)
  have hb1 : w0.heap[N + 1]? = some zero2 := by
    rw [hw0, hN]
    have := heap_new (w.alloc x.o) zero2
    simpa using this
  have hz0 : w0.heap.size = N + 1 + 1 := by rw [hw0, hN]; simp
  have HX0 := hid hx0
  have HB := hid (And.intro hb0 hb1)
  have HW := hid hw0
  have HN := hid hN
  have HZ := hid hz0
  have HX := hid hx
  clear hx0 hb0 hb1 hw0 hz0 hx
  go_enter Tryz.func127, Tryz.ntmps127
  go_upto_region 1 with fail
  rw [← HW.out, ← hN]
  clear hN
  go_wp2_with fail
  refine (rReduce_one p hp _).mono ?_
  rintro e w1 ⟨rfl, hx⟩
  have hR0 : QRel w (w1.alloc eOne.o) N w1.heap.size x eOne := {
    ex := (HX0.out.trans hx).alloc _
    b0 := heap_alloc_some (hx.heap_some HB.out.1)
    b1 := heap_alloc_some (hx.heap_some HB.out.2)
    b2 := heap_new _ _
    hR := by have := hx.size; have := HZ.out; omega
    hN := by have := HN.out; omega }
  have HR0 := hid hR0
  clear hR0 hx
  go_wp2_with fail
  generalize w1.heap.size = R at *
  go_loopw [8] (fun iv wr => ∃ (i : Int), -1 ≤ i ∧ i ≤ 63 ∧ iv = .int .i64 i ∧ Hid (QRel w wr N R x (eRep x (ex.toNat / 2 ^ (i + 1).toNat)))) (fun iv _ => (intOf iv + 1).toNat)
  case atStart => exact ⟨63, by omega, by omega, rfl, hid (by rw [show ((63 : Int) + 1).toNat = 64 from rfl, down_start]; exact HR0.out)⟩
  case round =>
    obtain ⟨i, hi1, hi2, rfl, HR⟩ := hrel
    have HN1 := hid (show N + 1 < R ∧ w.heap.size ≤ N from ⟨HR.out.hR, HR.out.hN⟩)
    by_cases hi0 : 0 ≤ i
    · obtain ⟨j, rfl⟩ : ∃ j : Nat, i = (j : Int) := ⟨i.toNat, by omega⟩
      rw [show ((j : Int) + 1).toNat = j + 1 by omega] at HR
      have hge : decide ((0 : Int) ≤ (j : Int)) = true := by simp
      have hsq := down_step x ex.toNat j
      obtain ⟨r, hr⟩ : ∃ r, r = eRep x (ex.toNat / 2 ^ (j + 1)) := ⟨_, rfl⟩
      obtain ⟨r2, hr2⟩ : ∃ r2, r2 = eRep x (2 * (ex.toNat / 2 ^ (j + 1))) := ⟨_, rfl⟩
      rw [← hr, ← hr2] at hsq
      rw [← hr] at HR
      have HSQ := hid hsq
      have HR2 := hid hr2
      obtain ⟨c3, c4⟩ := two_cells HR.out.b2
      clear hsq hr hr2
      go_wp2_with fail
      refine (rEMul_any p hp r r _).mono ?_
      rintro e w2 ⟨rfl, hx⟩
      have hr2 := HR.out.keep hx
      rw [HSQ.out]
      obtain ⟨k0, k1⟩ := two_cells hr2.b2
      have kf := frozen_of hr2.b2
      obtain ⟨hb3, hk3⟩ := two_set (d0 := .int .u64 r2.a.toNat) (d1 := .int .u64 r2.b.toNat) hr2.b2
      have HR3 := hid (hr2.set (r' := r2) hb3 hk3)
      clear c3 c4 hr2 hb3 hk3 hx
      go_upto_region 6 with fail
      generalize (w2.setCell ⟨R, 0, none⟩ (.int .u64 r2.a.toNat)).setCell ⟨R, 1, none⟩ (.int .u64 r2.b.toNat) = w3 at *
      clear k0 k1 kf
      obtain ⟨q, hq⟩ : ∃ q, q = ex.toNat / 2 ^ j := ⟨_, rfl⟩
      have hs2 : (ex.toNat : Int) / 2 ^ j = (q : Int) := by rw [hq]; simp
      have hs1 : (ex.toNat : Int) / 2 ^ (min j 64) = (q : Int) := by rw [Nat.min_eq_left (by omega)]; exact hs2
      have hq64 : (q : Int) < 18446744073709551616 := by
        have h1 : q ≤ ex.toNat := by rw [hq]; exact Nat.div_le_self _ _
        have := ex.toNat_lt
        omega
      have hand : bits BinOp.and IntKind.u64 (q : Int) 1 = (q : Int) % 2 := and_one_u64 _ (Int.natCast_nonneg _) (by omega)
      have hwd : IntKind.i64.wrap ((j : Int) - 1) = (j : Int) - 1 := IntWalk.i64_in _ (by omega)
      have HQ := hid hq
      clear hq64 hq hi1
      by_cases ho2 : q % 2 = 1
      · have ho : ((q : Int) % 2 == 1) = true := by simp; omega
        have hnx := down_odd x (e := ex.toNat) (i := j) (by rw [← HQ.out]; exact ho2)
        rw [← HR2.out] at hnx
        have HNX := hid hnx
        obtain ⟨c3, c4⟩ := two_cells HR3.out.b2
        obtain ⟨c0, c1⟩ := two_cells HR3.out.b0
        clear hnx ho2
        go_wp2_with fail
        refine (rEMul_any p hp r2 x _).mono ?_
        rintro e w4 ⟨rfl, hx⟩
        have hr4 := HR3.out.keep hx
        obtain ⟨k0, k1⟩ := two_cells hr4.b2
        have kf := frozen_of hr4.b2
        obtain ⟨hb5, hk5⟩ := two_set (d0 := .int .u64 (eMul r2 x).a.toNat) (d1 := .int .u64 (eMul r2 x).b.toNat) hr4.b2
        have hr5 := hr4.set (r' := eMul r2 x) hb5 hk5
        have HR5 := hid hr5
        clear c0 c1 c3 c4 hr4 hb5 hk5 hx hr5
        go_wp2_with fail
        go_roundw
        case rel => exact ⟨(j : Int) - 1, by omega, by omega, by go_num, hid (by rw [show ((j : Int) - 1 + 1).toNat = j by omega, ← HNX.out]; exact HR5.out)⟩
        case measure => simp [intOf]
      · have ho : ((q : Int) % 2 == 1) = false := by simp; omega
        have hnx := down_even x (e := ex.toNat) (i := j) (by rw [← HQ.out]; omega)
        rw [← HR2.out] at hnx
        have HNX := hid hnx
        clear hnx ho2
        go_wp2_with fail
        go_roundw
        case rel => exact ⟨(j : Int) - 1, by omega, by omega, by go_num, hid (by rw [show ((j : Int) - 1 + 1).toNat = j by omega, ← HNX.out]; exact HR3.out)⟩
        case measure => simp [intOf]
    · obtain rfl : i = -1 := by omega
      have hge : decide ((0 : Int) ≤ -1) = false := by decide
      have hR := HR.out
      rw [show ((-1 : Int) + 1).toNat = 0 from rfl, show ex.toNat / 2 ^ 0 = ex.toNat by simp] at hR
      obtain ⟨r, hr⟩ : ∃ r, r = ePow x ex := ⟨_, rfl⟩
      rw [show eRep x ex.toNat = r from hr.symm] at hR
      have HF := hid hr
      obtain ⟨c3, c4⟩ := two_cells hR.b2
      obtain ⟨k0, k1⟩ := two_cells hR.b1
      have kf := frozen_of hR.b1
      obtain ⟨hb9, hk9⟩ := two_set (d0 := .int .u64 r.a.toNat) (d1 := .int .u64 r.b.toNat) hR.b1
      obtain ⟨r0, r1⟩ := two_cells hb9
      have hfin := hR.ex.kp hk9 (fun k h => by have := HN1.out; omega)
      have HFIN := hid (And.intro hfin (And.intro r0 r1))
      clear hb9 hk9 hfin r0 r1 hR hr hi0
      go_wp2_with fail
      obtain ⟨hfin, r0, r1⟩ := HFIN.out
      generalize (wr.setCell ⟨N + 1, 0, none⟩ (.int .u64 r.a.toNat)).setCell ⟨N + 1, 1, none⟩ (.int .u64 r.b.toNat) = W at *
      rw [← HF.out]
      exact bodyPost_ret (v := .agg #[.int .u64 r.a.toNat, .int .u64 r.b.toNat]) (by simp [results, Tryz.results127, go_sem, r0, r1]) rfl ⟨rfl, hfin⟩
set_option maxRecDepth 100000 in
set_option maxHeartbeats 1600000 in
theorem rShared_any (x : E2) (e : UInt64) (w : World) : Calls Tryz.prog 100 #[x.v, .int .u64 e.toNat] w fun e' w' => e' = .returned (pShared x e).v ∧ Ext w w' := by
  obtain ⟨N, hN⟩ : ∃ N, N = w.heap.size := ⟨_, rfl⟩
  obtain ⟨w0, hw0⟩ : ∃ w0, w0 = (w.alloc x.o).alloc zero2 := ⟨_, rfl⟩
  have hx0 : Ext w w0 := by rw [hw0]; exact ((Ext.refl w).alloc _).alloc _
  have hb0 : w0.heap[N]? = some x.o := by rw [hw0, hN]; exact heap_alloc_some (heap_new _ _)
  have hb1 : w0.heap[N + 1]? = some zero2 := by
    rw [hw0, hN]
    have := heap_new (w.alloc x.o) zero2
    simpa using this
  obtain ⟨c0, c1⟩ := two_cells hb0
  have HW := hid hw0
  have HN := hid hN
  have HB0 := hid hb0
  have HB1 := hid hb1
  have HX0 := hid hx0
  obtain ⟨r, hr⟩ : ∃ r, r = pShared x e := ⟨_, rfl⟩
  rw [← hr]
  have HR := hid hr
  clear hw0 hb0 hb1 hx0 hr
  go_enter Tryz.func100, Tryz.ntmps100
  go_upto_region 1 with fail
  rw [← HW.out, ← hN]
  clear hN
  go_wp2_with fail
  refine (rpValid_any x _).mono ?_
  rintro e' w1 ⟨rfl, hx⟩
  have HX := hid hx
  clear hx c0 c1
  cases hv : validP x with
  | true =>
    have hp : pShared x e = ePow x e := by unfold pShared; rw [hv]; rfl
    rw [hp] at HR
    have HP := hid (rEPow_any _ big_isE x (validP_red hv) e)
    rw [← HR.out] at HP
    obtain ⟨c0, c1⟩ := two_cells (HX.out.heap_some HB0.out)
    clear hv hp
    go_wp2_with fail
    refine (HP.out _).mono ?_
    rintro e' w2 ⟨rfl, hx⟩
    have hb1 := (HX.out.trans hx).heap_some HB1.out
    obtain ⟨k0, k1⟩ := two_cells hb1
    have kf := frozen_of hb1
    obtain ⟨hb9, hk9⟩ := two_set (d0 := .int .u64 r.a.toNat) (d1 := .int .u64 r.b.toNat) hb1
    have hfin := ((HX0.out.trans HX.out).trans hx).kp hk9 (fun k h => by have := HN.out; omega)
    obtain ⟨r0, r1⟩ := two_cells hb9
    have HF := hid (And.intro hfin (And.intro r0 r1))
    clear hb1 hb9 hk9 hfin r0 r1 hx
    go_wp2_with fail
    obtain ⟨hfin, r0, r1⟩ := HF.out
    generalize (w2.setCell ⟨N + 1, 0, none⟩ (.int .u64 r.a.toNat)).setCell ⟨N + 1, 1, none⟩ (.int .u64 r.b.toNat) = W at *
    exact bodyPost_ret (v := .agg #[.int .u64 r.a.toNat, .int .u64 r.b.toNat]) (by simp [results, Tryz.results100, go_sem, r0, r1]) rfl ⟨rfl, hfin⟩
  | false =>
    have hp : pShared x e = ⟨0, 0⟩ := by unfold pShared; rw [hv]; rfl
    rw [hp] at HR
    have hb1 := HX.out.heap_some HB1.out
    obtain ⟨k0, k1⟩ := two_cells hb1
    have kf := frozen_of hb1
    obtain ⟨hb9, hk9⟩ := two_set (d0 := .int .u64 0) (d1 := .int .u64 0) hb1
    have hfin := (HX0.out.trans HX.out).kp hk9 (fun k h => by have := HN.out; omega)
    obtain ⟨r0, r1⟩ := two_cells hb9
    have HF := hid (And.intro hfin (And.intro r0 r1))
    have HRV : Hid (r.v = .agg #[.int .u64 0, .int .u64 0]) := hid (by rw [HR.out]; rfl)
    clear hb1 hb9 hk9 hfin r0 r1 hv hp
    go_wp2_with fail
    obtain ⟨hfin, r0, r1⟩ := HF.out
    generalize (w1.setCell ⟨N + 1, 0, none⟩ (.int .u64 0)).setCell ⟨N + 1, 1, none⟩ (.int .u64 0) = W at *
    exact bodyPost_ret (v := .agg #[.int .u64 0, .int .u64 0]) (by simp [results, Tryz.results100, go_sem, r0, r1]) rfl ⟨by rw [HRV.out], hfin⟩
end Go.Proofs.YtcikjcjfcanloaaGreat
namespace Go.Proofs.YtcikjcjfcanloaaGreat
open Go.RowKit
attribute [local irreducible] perm fAdd fMul fPow fSub fNeg fRed hashU drawOf nextState
def isSl (v : Value) : Prop := ∃ a n c, v = .slice a n c
end Go.Proofs.YtcikjcjfcanloaaGreat
namespace Go.Proofs.YtcikjcjfcanloaaGreat
open Go.RowKit
attribute [local irreducible] perm fAdd fMul fPow fSub fNeg fRed hashU drawOf nextState
theorem RdU.sl {w : World} {v : Value} {l : List UInt64} (h : RdU w v l) : isSl v := by
  obtain ⟨a, c, rfl, _⟩ := h
  exact ⟨_, _, _, rfl⟩
end Go.Proofs.YtcikjcjfcanloaaGreat
namespace Go.Proofs.YtcikjcjfcanloaaGreat
open Go.RowKit
attribute [local irreducible] perm fAdd fMul fPow fSub fNeg fRed hashU drawOf nextState
abbrev z5 : Array Value := #[.int .u64 0, .int .i64 0, .slice none 0 0, .slice none 0 0, .slice none 0 0]
end Go.Proofs.YtcikjcjfcanloaaGreat
namespace Go.Proofs.YtcikjcjfcanloaaGreat
open Go.RowKit
attribute [local irreducible] perm fAdd fMul fPow fSub fNeg fRed hashU drawOf nextState
theorem allE_take_snoc {l : List UInt64} {i : Nat} {x : UInt64} (h : l[i]? = some x) (hx : x < big) (ha : allE (l.take i) = true) : allE (l.take (i + 1)) = true := by
  rw [List.take_add_one, h]
  simp only [allE, List.all_append, Option.toList_some, List.all_cons, List.all_nil, Bool.and_true, Bool.and_eq_true, decide_eq_true_eq] at ha ⊢
  exact ⟨ha, hx⟩
theorem allE_no {l : List UInt64} {i : Nat} {x : UInt64} (h : l[i]? = some x) (hx : ¬ x < big) : allE l = false := by
  rcases hb : allE l with _ | _
  · rfl
  · unfold allE at hb
    rw [List.all_eq_true] at hb
    have := hb x (List.mem_of_getElem? h)
    simp at this
    exact absurd this hx
set_option maxRecDepth 100000 in
set_option maxHeartbeats 800000 in
theorem rReduced_any (lv : Value) (l : List UInt64) (w : World) (hl : RdU' w lv l) (hL : l.length ≤ 1000000000000) :
    Calls Tryz.prog 124 #[lv] w fun e w' => e = .returned (.bool (allE l)) ∧ Ext w w' := by
  have HL := hid hl
  obtain ⟨aa, ac, rfl, -⟩ := hl
  have hA1 : (l.length : Int) ≤ 1000000000000 := by omega
  go_enter Tryz.func124, Tryz.ntmps124
  go_wp2
  go_loopw [3] (fun iv wr => ∃ i : Nat, i ≤ l.length ∧ iv = .int .i64 i ∧ Hid (allE (l.take i) = true) ∧ Hid (Ext w wr)) (fun iv _ => l.length - (intOf iv).toNat)
  case atStart => exact ⟨0, by omega, rfl, hid rfl, hid (Ext.refl _)⟩
  case round =>
    obtain ⟨i, hi, rfl, HI, HE⟩ := hrel
    by_cases hlt : i < l.length
    · have hx : l[i]? = some l[i] := List.getElem?_eq_getElem hlt
      generalize l[i] = x at *
      obtain ⟨ab, ao, rfl, hca⟩ := (HL.out.rdu (by rintro rfl; simp at hlt)).at hx
      have hd : decide ((i : Int) < (l.length : Int)) = true := by simp; omega
      have i1 : (i : Int) < (l.length : Int) := by omega
      have i0 : (0 : Int) ≤ (i : Int) := by omega
      have hc := HE.out.cell_some hca
      have HX := hid hx
      have HB := hid (lt_big_dec x)
      clear hx hca
      by_cases hb : x < big
      · have hbd : decide ((18446744069414584321 : Int) ≤ (x.toNat : Int)) = false := by rw [ge_big_dec]; simp [hb]
        have H1 := hid (allE_take_snoc HX.out hb HI.out)
        clear hb
        go_wp2
        go_roundw
        case rel => exact ⟨i + 1, by omega, by go_num, H1, HE⟩
        case measure => simp [intOf]; omega
      · have hbd : decide ((18446744069414584321 : Int) ≤ (x.toNat : Int)) = true := by rw [ge_big_dec]; simp [hb]
        have H1 := hid (allE_no HX.out hb)
        clear hb
        go_wp2
        go_ret
        exact ⟨ret_bool H1.out.symm, HE.out⟩
    · have hi' : i = l.length := by omega
      have hd : decide ((i : Int) < (l.length : Int)) = false := by simp; omega
      have HF : Hid (allE l = true) := by have := HI.out; rw [hi', List.take_length] at this; exact hid this
      clear hi'
      go_wp2
      go_ret
      exact ⟨ret_bool HF.out.symm, HE.out⟩
end Go.Proofs.YtcikjcjfcanloaaGreat
