/- OracleIsolated returns true for every seed and every two operations. -/
import Derived.Test.YtdkilbnocmnekaaIsoLaw
import Derived.Test.YtdkilbnocmnekaaMut
import Derived.Test.YtdkilbnocmnekaaOps
import Derived.Test.YtdkilbnocmnekaaAwk10
import Derived.Test.YtdkilbnocmnekaaPeek
import Derived.Test.YtdkilbnocmnekaaRefQ
set_option linter.unusedSimpArgs false
namespace Go.Proofs.Ytdkilbnocmnekaa
open Go.RowKit
attribute [local irreducible] perm fAdd fMul fPow fSub fNeg fRed hashU drawOf nextState

theorem two_boxes (w : World) (c0 c1 : Array Value) (T0 T1 : TypeId) :
    Ext w ((w.alloc (.cells c0 T0)).alloc (.cells c1 T1)) ∧
    ((w.alloc (.cells c0 T0)).alloc (.cells c1 T1)).heap[w.heap.size]? = some (.cells c0 T0 (0, 0)) ∧
    ((w.alloc (.cells c0 T0)).alloc (.cells c1 T1)).heap[w.heap.size + 1]? = some (.cells c1 T1 (0, 0)) := by
  have h1 := heap_new (w.alloc (.cells c0 T0)) (.cells c1 T1)
  rw [World.size_alloc] at h1
  exact ⟨((Ext.refl w).alloc _).alloc _, heap_alloc_some (heap_new _ _), h1⟩
theorem cellsOp {w : World} {b : Nat} {c0 c1 c2 c3 c4 : Value} {T : TypeId} {fz : Nat × Nat} (h : w.heap[b]? = some (.cells #[c0, c1, c2, c3, c4] T fz)) :
    w.cell? ⟨b, 0, none⟩ = some c0 ∧ w.cell? ⟨b, 1, none⟩ = some c1 ∧ w.cell? ⟨b, 2, none⟩ = some c2 ∧ w.cell? ⟨b, 3, none⟩ = some c3 ∧ w.cell? ⟨b, 4, none⟩ = some c4 :=
  ⟨cell_of h 0, cell_of h 1, cell_of h 2, cell_of h 3, cell_of h 4⟩
theorem two_ops {w : World} {b : Nat} {x y : OpV} {u v : Value} {T : TypeId} (h : w.heap[b]? = some (.cells #[.int .u8 (x.kind.toNat : Int), uv x.label, u, uv x.n, .bool x.odd, .int .u8 (y.kind.toNat : Int), uv y.label, v, uv y.n, .bool y.odd] T (0, 0)))
    (hx : RdU w u x.l) (hy : RdU w v y.l) : RdOps w (.slice (some ⟨b, 0, none⟩) 2 2) [x, y] := by
  refine ⟨_, 2, rfl, Nat.le_refl _, by unfold maxLen; omega, (fun h => by cases h), fun ad ha => ?_⟩
  obtain rfl := Option.some.inj ha
  refine ⟨rfl, fun i z hz => ?_⟩
  match i, hz with
  | 0, hz =>
    obtain rfl : x = z := by simpa using hz
    exact ⟨u, cell_of h 0, cell_of h 1, cell_of h 2, cell_of h 3, cell_of h 4, hx.rdc.weak⟩
  | 1, hz =>
    obtain rfl : y = z := by simpa using hz
    exact ⟨v, cell_of h 5, cell_of h 6, cell_of h 7, cell_of h 8, cell_of h 9, hy.rdc.weak⟩
  | i + 2, hz => simp at hz

set_option maxRecDepth 100000 in
set_option maxHeartbeats 3200000 in
theorem OracleIsolated_any (seed : UInt64) (x y : OpV) (ua ub : Value) (w : World) (hx : RdU w ua x.l) (hy : RdU w ub y.l) :
    Calls Try.prog 10 #[uv seed, .agg #[.int .u8 (x.kind.toNat : Int), uv x.label, ua, uv x.n, .bool x.odd], .agg #[.int .u8 (y.kind.toNat : Int), uv y.label, ub, uv y.n, .bool y.odd]] w
      fun e w' => e = .returned (.bool true) ∧ Ext w w' := by
  have HX := hid hx
  have HY := hid hy
  have HI := hid (Ideal_any seed)
  obtain ⟨xa, xc, rfl, -⟩ := id hx
  obtain ⟨ya, yc, rfl, -⟩ := id hy
  clear hx hy
  obtain ⟨hxw, hb0, hb1⟩ := two_boxes w #[.int .u8 (x.kind.toNat : Int), uv x.label, .slice xa x.l.length xc, uv x.n, .bool x.odd] #[.int .u8 (y.kind.toNat : Int), uv y.label, .slice ya y.l.length yc, uv y.n, .bool y.odd] 30 30
  go_enter Try.func10, Try.ntmps10
  go_wp2_with fail
  generalize (w.alloc (.cells #[.int .u8 (x.kind.toNat : Int), uv x.label, .slice xa x.l.length xc, uv x.n, .bool x.odd] 30)).alloc (.cells #[.int .u8 (y.kind.toNat : Int), uv y.label, .slice ya y.l.length yc, uv y.n, .bool y.odd] 30) = w0 at *
  refine (awake10_any _).mono ?_
  rintro e w1 ⟨rfl, hx1⟩
  have HB0 := hid (hx1.heap_some hb0)
  have HB1 := hid (hx1.heap_some hb1)
  have HX1 := hid (hxw.trans hx1)
  obtain ⟨c0, c1, c2, c3, c4⟩ := cellsOp HB0.out
  obtain ⟨d0, d1, d2, d3, d4⟩ := cellsOp HB1.out
  clear hx1 hxw hb0 hb1
  go_wp2_with fail
  have hx2 := (Ext.refl w1).alloc (.cells #[.int .u8 (x.kind.toNat : Int), uv x.label, .slice xa x.l.length xc, uv x.n, .bool x.odd, .int .u8 (y.kind.toNat : Int), uv y.label, .slice ya y.l.length yc, uv y.n, .bool y.odd] 30)
  have hops := two_ops (heap_new w1 (.cells #[.int .u8 (x.kind.toNat : Int), uv x.label, .slice xa x.l.length xc, uv x.n, .bool x.odd, .int .u8 (y.kind.toNat : Int), uv y.label, .slice ya y.l.length yc, uv y.n, .bool y.odd] 30)) (HX.out.ext (HX1.out.trans hx2)) (HY.out.ext (HX1.out.trans hx2))
  refine (few_any [x, y] _ _ hops).mono ?_
  rintro e w2 ⟨rfl, hx3⟩
  have HX12 := hid (hx2.trans hx3)
  clear hx2 hops hx3
  obtain ⟨g0, g1, g2, g3, g4⟩ := cellsOp (HX12.out.heap_some HB0.out)
  obtain ⟨k0, k1, k2, k3, k4⟩ := cellsOp (HX12.out.heap_some HB1.out)
  have HX2 := hid (HX1.out.trans HX12.out)
  have HC0 := hid (HX12.out.heap_some HB0.out)
  have HC1 := hid (HX12.out.heap_some HB1.out)
  clear c0 c1 c2 c3 c4 d0 d1 d2 d3 d4
  rcases hfew : fewB [x, y] with _ | _
  · clear hfew
    go_wp2_with fail
    go_ret
    exact ⟨rfl, HX2.out⟩
  have hlens := fewB_len hfew
  have hlx : x.l.length ≤ 20 := hlens.2 x (by simp)
  have hly : y.l.length ≤ 20 := hlens.2 y (by simp)
  clear hfew hlens
  have HLX := hid hlx
  have HLY := hid hly
  have RX := hid (HX.out.ext HX2.out)
  have RY := hid (HY.out.ext HX2.out)
  clear hlx hly
  go_wp2_with fail
  refine (Elements_any _ x.l _ RX.out (by have := HLX.out; omega)).mono ?_
  rintro e w3 ⟨rfl, rfl⟩
  rcases hex : allE x.l with _ | _
  · clear hex
    go_wp2_with fail
    go_ret
    exact ⟨rfl, HX2.out⟩
  have HEX := hid hex
  clear hex
  go_wp2_with fail
  refine (Elements_any _ y.l _ RY.out (by have := HLY.out; omega)).mono ?_
  rintro e w3 ⟨rfl, rfl⟩
  rcases hey : allE y.l with _ | _
  · clear hey
    go_wp2_with fail
    go_ret
    exact ⟨rfl, HX2.out⟩
  have HEY := hid hey
  clear hey
  go_wp2_with fail
  refine (Element_any y.label _).mono ?_
  rintro e w3 ⟨rfl, rfl⟩
  rcases hyl : decide (y.label < big) with _ | _
  · clear hyl
    go_wp2_with fail
    go_ret
    exact ⟨rfl, HX2.out⟩
  have HYL := hid hyl
  clear hyl
  go_wp2_with fail
  refine (Element_any y.n _).mono ?_
  rintro e w3 ⟨rfl, rfl⟩
  rcases hyn : decide (y.n < big) with _ | _
  · clear hyn
    go_wp2_with fail
    go_ret
    exact ⟨rfl, HX2.out⟩
  have HYN := hid hyn
  clear hyn
  obtain ⟨ans, M1, sl, M2, pr, M3, hiso⟩ := iso_law seed x.label x.l y.label y.n y.l HEX.out HYL.out HYN.out HEY.out
  have ISO := hid hiso
  clear hiso
  go_wp2_with fail
  refine (HI.out _).mono ?_
  rintro e w3 ⟨bo, F0, rfl, hat, hx3, hF0⟩
  have HAT := hid hat
  have HX23 := hid hx3
  have HF0 := hid hF0
  have B6 : Hid (∀ v, Ext w2 v → (v.cell? ⟨w.heap.size, 1, none⟩ = some (uv x.label) ∧ v.cell? ⟨w.heap.size, 2, none⟩ = some (.slice xa x.l.length xc)) ∧ v.cell? ⟨w.heap.size + 1, 1, none⟩ = some (uv y.label) ∧ v.cell? ⟨w.heap.size + 1, 2, none⟩ = some (.slice ya y.l.length yc) ∧ v.cell? ⟨w.heap.size + 1, 3, none⟩ = some (uv y.n)) :=
    hid fun v k => ⟨⟨(cellsOp (k.heap_some HC0.out)).2.1, (cellsOp (k.heap_some HC0.out)).2.2.1⟩, (cellsOp (k.heap_some HC1.out)).2.1, (cellsOp (k.heap_some HC1.out)).2.2.1, (cellsOp (k.heap_some HC1.out)).2.2.2.1⟩
  clear hat hx3 hF0 HI g0 g1 g2 g3 g4 k0 k1 k2 k3 k4
  go_wp2_with fail
  refine wp_region_T (fun v => ((v.cell? ⟨w.heap.size, 1, none⟩ = some (uv x.label) ∧ v.cell? ⟨w.heap.size, 2, none⟩ = some (.slice xa x.l.length xc)) ∧ v.cell? ⟨w.heap.size + 1, 1, none⟩ = some (uv y.label) ∧ v.cell? ⟨w.heap.size + 1, 2, none⟩ = some (.slice ya y.l.length yc) ∧ v.cell? ⟨w.heap.size + 1, 3, none⟩ = some (uv y.n)) ∧ Ext w2 v) 5 [(0, true), (1, true), (3, true), (4, true), (2, false), (5, false), (6, false), (7, false)] (by kernel_rfl) (by kernel_rfl) (by intro c a d v w h; cases d <;> exact h) ?_
  intro ops hops
  have HS : _ ∧ Ext w2 w3.drew := ⟨B6.out _ HX23.out.drew, HX23.out.drew⟩
  iterate 4
    refine wpT_take (v := ?_) (by rw [hops, List.getElem?_toArray]; rfl) (by first | rfl | (rw [hops]; rfl)) ?_ HS ?_
    rotate_left
    · intro v h; go_simp; with_reducible rfl
    simp only [Act.put, List.getElem_toArray, List.getElem_cons_zero, List.getElem_cons_succ, List.setIfInBounds_toArray, List.set_cons_zero, List.set_cons_succ]
  refine wpT_step (by rw [hops, List.getElem?_toArray]; rfl) (by first | rfl | (rw [hops]; rfl)) ?_
  intro K hK
  go_wp2_with fail
  refine (own_any _ x.l _ (RX.out.ext HX23.out.drew).rdc.weak (by have := HLX.out; omega)).mono ?_
  rintro e w4 ⟨av, rfl, hown, hx4, hfr⟩
  obtain ⟨aa, ac, rfl, -⟩ := ownsRow_rd hown
  have BA := hid (Beside.fresh (HAT.out.ext (Ext.refl w3).drew) hown hfr)
  have HAF : Hid (∀ k, blk (.slice aa x.l.length ac) = some k → w2.heap.size ≤ k) := hid fun k hk => Nat.le_trans HX23.out.size (hfr k hk)
  have hx4' := HX23.out.drew.trans hx4
  have HX4 := hid hx4'
  have HX34 := hid ((Ext.refl w3).drew.trans hx4)
  have HS4 : _ ∧ Ext w2 w4 := ⟨B6.out _ hx4', hx4'⟩
  clear hown hx4 hfr hx4' HS
  refine hK _ _ ⟨fun _ => HS4, ?_⟩
  clear hK K
  refine wpT_step (by rw [hops, List.getElem?_toArray]; rfl) (by first | rfl | (rw [hops]; rfl)) ?_
  intro K hK
  go_wp2_with fail
  refine (own_any _ y.l _ (RY.out.ext HX4.out).rdc.weak (by have := HLY.out; omega)).mono ?_
  rintro e w5 ⟨bv, rfl, hown, hx5, hfr⟩
  obtain ⟨ba, bc, rfl, -⟩ := ownsRow_rd hown
  have BB := hid (Beside.fresh (HAT.out.ext HX34.out) hown hfr)
  have HBF : Hid (∀ k, blk (.slice ba y.l.length bc) = some k → w2.heap.size ≤ k) := hid fun k hk => Nat.le_trans HX4.out.size (hfr k hk)
  have BA5 := hid (BA.out.ext hx5)
  have AT5 := hid (HAT.out.ext (HX34.out.trans hx5))
  have HX5 := hid (HX4.out.trans hx5)
  clear hown hx5 hfr HS4 BA
  refine hK _ _ ⟨fun h => absurd h (by decide), ?_⟩
  clear hK K
  refine wpT_step (by rw [hops, List.getElem?_toArray]; rfl) (by first | rfl | (rw [hops]; rfl)) ?_
  intro K hK
  go_wp2_with fail
  refine ⟨fun h => absurd h (by decide), ?_⟩
  refine wpT_step (by rw [hops, List.getElem?_toArray]; rfl) (by first | rfl | (rw [hops]; rfl)) ?_
  intro K hK
  go_wp2_with fail
  refine ⟨fun h => absurd h (by decide), ?_⟩
  rw [wpT_nil]
  clear hops ops
  obtain ⟨⟨c1, c2⟩, d1, d2, d3⟩ := B6.out _ HX5.out
  go_wp2_with fail
  have CH := Hash_orc (label := x.label) AT5.out BA5.out.own.rdu BA5.out.no (by have := HLX.out; omega) (Nat.zero_le _) (Nat.zero_le _)
  unfold HashO at CH
  rw [ISO.out.h1] at CH
  refine CH.mono ?_
  rintro e w6 ⟨rfl, F6, t6⟩
  clear CH
  have HF6 : Hid (∀ k, F6 k → w2.heap.size ≤ k) := hid fun k hk => by
    rcases t6.new k hk with h | h
    · exact HF0.out k h
    · have := HX5.out.size; omega
  have HX6 := hid (HX5.out.kp t6.kp HF0.out)
  have BA6 := hid (BA5.out.to t6)
  have BB6 := hid (BB.out.to t6)
  have AT6 := hid t6.at'
  clear t6 c1 c2 d1 d2 d3 BA5 BB AT5
  obtain ⟨⟨c1, c2⟩, d1, d2, d3⟩ := B6.out _ HX6.out
  go_wp2_with fail
  have CS := Seal_ideal (key := y.label) (nonce := y.n) AT6.out ISO.out.i1 BB6.out.own.rdu BB6.out.no (by have := HLY.out; omega) (by have := ISO.out.d1; have := HLY.out; omega)
  rw [ISO.out.h2] at CS
  refine CS.mono ?_
  rintro e w7 ⟨sv, F7, rfl, hsown, t7, hsfr⟩
  simp only at hsown t7
  obtain ⟨sa, sc, rfl, -⟩ := ownsRow_rd hsown
  have HF7 : Hid (∀ k, F7 k → w2.heap.size ≤ k) := hid fun k hk => by
    rcases t7.new k hk with h | h
    · exact HF6.out k h
    · have := HX6.out.size; omega
  have HX7 := hid (HX6.out.kp t7.kp HF6.out)
  have BA7 := hid (BA6.out.to t7)
  have BB7 := hid (BB6.out.to t7)
  have BS7 : Hid (Beside w7 F7 (.slice sa sl.length sc) sl) := hid ⟨hsown, fun k hk => (hsfr k hk).2⟩
  have HSL : Hid (∀ k, blk (.slice sa sl.length sc) = some k → w2.heap.size ≤ k) := hid fun k hk => Nat.le_trans HX6.out.size (hsfr k hk).1
  have AT7 := hid t7.at'
  clear CS t7 hsown hsfr c1 c2 d1 d2 d3 BA6 BB6 AT6
  go_wp2_with fail
  have CP := Prove_ideal (s := 9) (n := 3) AT7.out ISO.out.i2 (by decide) (by have := ISO.out.d2; have := HLY.out; omega)
  rw [ISO.out.h3] at CP
  refine CP.mono ?_
  rintro e w8 ⟨prv, rfl, hpown, t8, hpfr⟩
  simp only at hpown t8
  obtain ⟨pra, prc, rfl, -⟩ := ownsRow_rd hpown
  have HX8 := hid (HX7.out.kp t8.kp HF7.out)
  have BA8 := hid (BA7.out.to t8)
  have BB8 := hid (BB7.out.to t8)
  have BS8 := hid (BS7.out.to t8)
  have BP8 : Hid (Beside w8 F7 (.slice pra pr.length prc) pr) := hid ⟨hpown, fun k hk hf => by have := hpfr k hk; have := AT7.out.foot_lt k hf; omega⟩
  have HPR : Hid (∀ k, blk (.slice pra pr.length prc) = some k → w2.heap.size ≤ k) := hid fun k hk => Nat.le_trans HX7.out.size (hpfr k hk)
  have AT8 := hid t8.at'
  clear CP t8 hpown hpfr BA7 BB7 BS7 AT7
  go_wp2_with fail
  refine (own_any _ sl _ BS8.out.own.rdu.rdc.weak (by rw [ISO.out.sll]; have := HLY.out; omega)).mono ?_
  rintro e w9 ⟨pv, rfl, hown, hx9, hfr⟩
  obtain ⟨pa, pc, rfl, -⟩ := ownsRow_rd hown
  have BQ9 := hid (Beside.fresh AT8.out hown hfr)
  have HPF := hid hfr
  have HX89 := hid hx9
  clear hown hx9 hfr
  go_wp2_with fail
  refine (own_any _ pr _ (BP8.out.ext HX89.out).own.rdu.rdc.weak (by rw [ISO.out.prl]; omega)).mono ?_
  rintro e w10 ⟨qv, rfl, hown, hx10, hfr⟩
  obtain ⟨qa, qc, rfl, -⟩ := ownsRow_rd hown
  have HX810 := hid (HX89.out.trans hx10)
  have BR10 := hid (Beside.fresh (AT8.out.ext HX89.out) hown hfr)
  have BQ10 := hid (BQ9.out.ext hx10)
  have HQF : Hid (∀ k, blk (.slice qa pr.length qc) = some k → w8.heap.size ≤ k) := hid fun k hk => Nat.le_trans HX89.out.size (hfr k hk)
  have HX10 := hid (HX8.out.trans HX810.out)
  clear hown hx10 hfr BQ9
  go_wp2_with fail
  refine wp_region_T (fun v => ((v.cell? ⟨w.heap.size, 1, none⟩ = some (uv x.label) ∧ v.cell? ⟨w.heap.size, 2, none⟩ = some (.slice xa x.l.length xc)) ∧ v.cell? ⟨w.heap.size + 1, 1, none⟩ = some (uv y.label) ∧ v.cell? ⟨w.heap.size + 1, 2, none⟩ = some (.slice ya y.l.length yc) ∧ v.cell? ⟨w.heap.size + 1, 3, none⟩ = some (uv y.n)) ∧ Ext w2 v) 12 [(0, true), (1, true), (2, true), (3, true), (4, true), (5, true), (6, false), (7, false), (8, true), (9, true), (10, true), (11, true), (12, false)] (by kernel_rfl) (by kernel_rfl) (by intro c a d v w h; cases d <;> exact h) ?_
  intro ops hops
  have HS : _ ∧ Ext w2 w10.drew := ⟨B6.out _ HX10.out.drew, HX10.out.drew⟩
  iterate 6
    refine wpT_take (v := ?_) (by rw [hops, List.getElem?_toArray]; rfl) (by first | rfl | (rw [hops]; rfl)) ?_ HS ?_
    rotate_left
    · intro v h; go_simp; with_reducible rfl
    simp only [Act.put, List.getElem_toArray, List.getElem_cons_zero, List.getElem_cons_succ, List.setIfInBounds_toArray, List.set_cons_zero, List.set_cons_succ]
  refine wpT_step (by rw [hops, List.getElem?_toArray]; rfl) (by first | rfl | (rw [hops]; rfl)) ?_
  intro K hK
  go_wp2_with fail
  refine (own_any _ sl _ (BS8.out.ext (HX810.out.drew)).own.rdu.rdc.weak (by rw [ISO.out.sll]; have := HLY.out; omega)).mono ?_
  rintro e w11 ⟨s2v, rfl, hown, hx11, hfr⟩
  obtain ⟨s2a, s2c, rfl, -⟩ := ownsRow_rd hown
  have HS2 := hid hown.rdu
  have hx11' := HX10.out.drew.trans hx11
  have HX11 := hid hx11'
  have HX1011 := hid ((Ext.refl w10).drew.trans hx11)
  have HS11 : _ ∧ Ext w2 w11 := ⟨B6.out _ hx11', hx11'⟩
  clear hown hx11 hfr hx11' HS
  refine hK _ _ ⟨fun _ => HS11, ?_⟩
  clear hK K
  refine wpT_step (by rw [hops, List.getElem?_toArray]; rfl) (by first | rfl | (rw [hops]; rfl)) ?_
  intro K hK
  go_wp2_with fail
  have COP := Open_ideal (key := y.label) (nonce := y.n) (AT8.out.ext (HX810.out.trans HX1011.out)) ISO.out.i3 HS2.out (by rw [ISO.out.sll]; have := HLY.out; omega) (fun s hs => by rw [ISO.out.s3 s hs]; have := HLY.out; omega)
  unfold OpenO at COP
  rw [ISO.out.op] at COP
  refine COP.mono ?_
  rintro e w12 ⟨ov, rfl, hown, hx12, hfr⟩
  simp only [Option.map_some, Option.getD_some] at hown
  obtain ⟨oa, oc, rfl, -⟩ := ownsRow_rd hown
  have hx12' := HX11.out.trans hx12
  have HX12' := hid hx12'
  have HX812 := hid (HX810.out.trans (HX1011.out.trans hx12))
  have HX1012 := hid (HX1011.out.trans hx12)
  have BO12 := hid (Beside.fresh (AT8.out.ext (HX810.out.trans HX1011.out)) hown hfr)
  have HOF : Hid (∀ k, blk (.slice oa y.l.length oc) = some k → w10.heap.size ≤ k) := hid fun k hk => Nat.le_trans HX1011.out.size (hfr k hk)
  have HS12 : _ ∧ Ext w2 w12 := ⟨B6.out _ hx12', hx12'⟩
  clear hown hx12 hfr hx12' HS11 COP
  refine hK _ _ ⟨fun _ => HS12, ?_⟩
  clear hK K
  iterate 4
    refine wpT_take (v := ?_) (by rw [hops, List.getElem?_toArray]; rfl) (by first | rfl | (rw [hops]; rfl)) ?_ HS12 ?_
    rotate_left
    · intro v h; go_simp; with_reducible rfl
    simp only [Act.put, List.getElem_toArray, List.getElem_cons_zero, List.getElem_cons_succ, List.setIfInBounds_toArray, List.set_cons_zero, List.set_cons_succ]
  refine wpT_step (by rw [hops, List.getElem?_toArray]; rfl) (by first | rfl | (rw [hops]; rfl)) ?_
  intro K hK
  go_wp2_with fail
  refine ⟨fun h => absurd h (by decide), ?_⟩
  rw [wpT_nil]
  clear hops ops
  clear HS12
  go_wp2_with fail
  obtain ⟨Vs, hVs⟩ : ∃ Vs : List Value, Vs = [.slice aa x.l.length ac, .slice ba y.l.length bc, .slice sa sl.length sc, .slice pra pr.length prc, .slice oa y.l.length oc] := ⟨_, rfl⟩
  have hb13 := heap_new w12 (.cells #[.slice aa x.l.length ac, .slice ba y.l.length bc, .slice sa sl.length sc, .slice pra pr.length prc, .slice oa y.l.length oc] 28)
  have hx13 := (Ext.refl w12).alloc (.cells #[.slice aa x.l.length ac, .slice ba y.l.length bc, .slice sa sl.length sc, .slice pra pr.length prc, .slice oa y.l.length oc] 28)
  generalize w12.alloc (.cells #[.slice aa x.l.length ac, .slice ba y.l.length bc, .slice sa sl.length sc, .slice pra pr.length prc, .slice oa y.l.length oc] 28) = w13 at *
  have HB13 := hid hb13
  have HX1213 := hid hx13
  have HVS := hid hVs
  have OV0 : Hid (Over Vs w13 w13) := hid ⟨Kp.refl _ _, fun v hv => by
    rw [hVs] at hv
    simp only [List.mem_cons, List.not_mem_nil, or_false] at hv
    rcases hv with rfl | rfl | rfl | rfl | rfl
    · exact ⟨_, .of (ownsRow_ext BA8.out.own (HX812.out.trans hx13))⟩
    · exact ⟨_, .of (ownsRow_ext BB8.out.own (HX812.out.trans hx13))⟩
    · exact ⟨_, .of (ownsRow_ext BS8.out.own (HX812.out.trans hx13))⟩
    · exact ⟨_, .of (ownsRow_ext BP8.out.own (HX812.out.trans hx13))⟩
    · exact ⟨_, .of (ownsRow_ext BO12.out.own hx13)⟩⟩
  have GNB : Hid (¬ ∃ v ∈ Vs, blk v = some w12.heap.size) := hid (by
    rintro ⟨v, hv, hk⟩
    rw [hVs] at hv
    simp only [List.mem_cons, List.not_mem_nil, or_false] at hv
    have z := HX812.out.size
    rcases hv with rfl | rfl | rfl | rfl | rfl
    · have := ownsRow_lt BA8.out.own hk; omega
    · have := ownsRow_lt BB8.out.own hk; omega
    · have := ownsRow_lt BS8.out.own hk; omega
    · have := ownsRow_lt BP8.out.own hk; omega
    · have := ownsRow_lt BO12.out.own hk; omega)
  clear hb13 hx13 hVs
  go_loopw [104] (fun jv wr => ∃ j : Nat, j ≤ 5 ∧ jv = .int .i64 j ∧ Hid (Over Vs w13 wr)) (fun jv _ => (5 - (intOf jv).toNat))
  case atStart => exact ⟨0, by omega, rfl, OV0⟩
  case round =>
    obtain ⟨j, hj, rfl, HO⟩ := hrel
    by_cases hlt : j < 5
    · have hltB : decide ((j : Int) < 5) = true := by simp; omega
      have hj0 : (0 : Int) ≤ (j : Int) := Int.natCast_nonneg _
      have hj5 : (j : Int) < 5 := by omega
      obtain ⟨v, hv⟩ : ∃ v, Vs[j]? = some v := ⟨_, List.getElem?_eq_getElem (by rw [HVS.out]; exact hlt)⟩
      have hmem := List.mem_of_getElem? hv
      obtain ⟨n, hn⟩ := HO.out.cells v hmem
      obtain ⟨a, c, rfl, -⟩ := id hn
      have hcell : wr.cell? ⟨w12.heap.size, j, none⟩ = some (.slice a n c) := by
        have h1 := HO.out.kp.heap_some GNB.out HB13.out
        rw [cell_of h1 j]
        rw [HVS.out] at hv
        rw [List.getElem?_toArray]
        exact hv
      have HMEM := hid hmem
      have hn21 : n ≤ 21 := by
        rw [HVS.out] at hmem
        have z1 := HLX.out
        have z2 := HLY.out
        have z3 := ISO.out.sll
        have z4 := ISO.out.prl
        simp only [List.mem_cons, List.not_mem_nil, or_false, Value.slice.injEq] at hmem
        omega
      clear hv hn hmem
      go_wp2_with fail
      go_loopw [110] (fun iv wv => ∃ i : Nat, i ≤ n ∧ iv = .int .i64 i ∧ Hid (Over Vs w13 wv)) (fun iv _ => (n - (intOf iv).toNat))
      case atStart => exact ⟨0, by omega, rfl, HO⟩
      case round =>
        obtain ⟨i, hi, rfl, HO2⟩ := hrel
        by_cases hlt2 : i < n
        · have hltB2 : decide ((i : Int) < (n : Int)) = true := by simp; omega
          have hi0 : (0 : Int) ≤ (i : Int) := Int.natCast_nonneg _
          have hin : (i : Int) < (n : Int) := by omega
          obtain ⟨m, hm⟩ := HO2.out.cells _ HMEM.out
          obtain ⟨g, u, rfl, hcu, hfz⟩ := hm.at hlt2
          have hfz' := hfz i
          clear hm hfz
          go_wp2_with fail
          go_roundw
          case rel => exact ⟨i + 1, by omega, by go_num, hid (HO2.out.set HMEM.out rfl _ _)⟩
          case measure => simp [intOf]; omega
        · have hii : i = n := by omega
          have hltB2 : decide ((i : Int) < (n : Int)) = false := by simp; omega
          go_wp2_with fail
          go_roundw
          case rel => exact ⟨j + 1, by omega, by go_num, HO2⟩
          case measure => simp [intOf]; omega
    · have hj5 : j = 5 := by omega
      have hltB : decide ((j : Int) < 5) = false := by simp; omega
      clear OV0
      go_wp2_with fail
      have hkp := HO.out.kp
      have hdf : ∀ v ∈ Vs, ∀ k, blk v = some k → ¬ F7 k ∧ w2.heap.size ≤ k ∧ (k < w8.heap.size ∨ w10.heap.size ≤ k) := by
        intro v hv k hk
        rw [HVS.out] at hv
        simp only [List.mem_cons, List.not_mem_nil, or_false] at hv
        rcases hv with rfl | rfl | rfl | rfl | rfl
        · exact ⟨BA8.out.no k hk, HAF.out k hk, .inl (ownsRow_lt BA8.out.own hk)⟩
        · exact ⟨BB8.out.no k hk, HBF.out k hk, .inl (ownsRow_lt BB8.out.own hk)⟩
        · exact ⟨BS8.out.no k hk, HSL.out k hk, .inl (ownsRow_lt BS8.out.own hk)⟩
        · exact ⟨BP8.out.no k hk, HPR.out k hk, .inl (ownsRow_lt BP8.out.own hk)⟩
        · exact ⟨BO12.out.no k hk, Nat.le_trans HX10.out.size (HOF.out k hk), .inr (HOF.out k hk)⟩
      have AT := hid ((AT8.out.ext (HX812.out.trans HX1213.out)).kp hkp fun i hi hg => by obtain ⟨v, hv, hk⟩ := hg; exact (hdf v hv i hk).1 hi)
      have HXR : Hid (Ext w2 wr) := hid ((HX12'.out.trans HX1213.out).kp hkp fun i hg => by obtain ⟨v, hv, hk⟩ := hg; exact (hdf v hv i hk).2.1)
      have HX1013 := HX1012.out.trans HX1213.out
      have PP := hid (ownsRow_kp (ownsRow_ext BQ10.out.own HX1013) hkp fun k hk hg => by
        obtain ⟨v, hv, hk'⟩ := hg
        have h1 := (hdf v hv k hk').2.2
        have h2 := HPF.out k hk
        have h3 := ownsRow_lt BQ10.out.own hk
        omega)
      have QQ := hid (ownsRow_kp (ownsRow_ext BR10.out.own HX1013) hkp fun k hk hg => by
        obtain ⟨v, hv, hk'⟩ := hg
        have h1 := (hdf v hv k hk').2.2
        have h2 := HQF.out k hk
        have h3 := ownsRow_lt BR10.out.own hk
        omega)
      clear hkp hdf HX1013 BA8 BB8 BS8 BP8 BO12 BQ10 BR10 HAF HBF HSL HPR HOF HPF HQF HX812 HX810 HX1012 HX12' HX1213 HB13 GNB AT8 HO
      refine (Questions_any AT.out (by rw [ISO.out.q3]; decide) (fun q hq => by rw [ISO.out.e3 q hq]; have := HLX.out; omega)).mono ?_
      rintro e w14 ⟨qv', Q, rfl, hQ, hown, hel, hx14, -⟩
      have hQl : Q.length = 1 := by
        have := congrArg List.length hQ
        rwa [List.length_map, ISO.out.q3] at this
      have hQe : ∀ z ∈ Q, z.1.elems = x.l := fun z hz => ISO.out.e3 z.1 (by rw [← hQ]; exact List.mem_map.2 ⟨z, hz, rfl⟩)
      obtain ⟨ga, gc, rfl, -⟩ := ownsRow_rd hown
      obtain ⟨Qs, hQs⟩ : ∃ Qs, Qs = Q.map (·.2) := ⟨_, rfl⟩
      have OQ0 : Hid (Over Qs w14 w14) := hid ⟨Kp.refl _ _, fun v hv => by
        rw [hQs] at hv
        obtain ⟨z, hz, rfl⟩ := List.mem_map.1 hv
        exact ⟨_, .of (hel z hz).1⟩⟩
      have GQ : Hid (∀ k, (∃ v ∈ Qs, blk v = some k) → wr.heap.size ≤ k ∧ k < w14.heap.size ∧ blk (.slice ga Q.length gc) ≠ some k) := hid (by
        rintro k ⟨v, hv, hk⟩
        rw [hQs] at hv
        obtain ⟨z, hz, rfl⟩ := List.mem_map.1 hv
        refine ⟨(hel z hz).2 k hk, ownsRow_lt (hel z hz).1 hk, fun hk' => ?_⟩
        obtain ⟨cs, h1⟩ := ownsRow_block (hel z hz).1 hk
        obtain ⟨cs', h2⟩ := ownsRow_block hown hk'
        rw [h1] at h2
        injection h2 with h2
        injection h2 with _ h2
        exact absurd h2 (by decide))
      have HOWN := hid hown
      have HEL := hid hel
      have HX14 := hid hx14
      have HQE := hid hQe
      have HQS := hid hQs
      have HQL := hid hQl
      clear hQ hown hel hx14 hQe hQs hQl
      obtain ⟨nq, hnq⟩ : ∃ nq, nq = Q.length := ⟨_, rfl⟩
      rw [← hnq] at HOWN GQ ⊢
      have HNQ := hid hnq
      have hnq1 : nq ≤ 1 := by have := HQL.out; omega
      clear hnq
      go_wp2_with fail
      go_loopw [121] (fun jv wv => ∃ j : Nat, j ≤ nq ∧ jv = .int .i64 j ∧ Hid (Over Qs w14 wv)) (fun jv _ => (nq - (intOf jv).toNat))
      case atStart => exact ⟨0, by omega, rfl, OQ0⟩
      case round =>
        obtain ⟨j, hj, rfl, HO⟩ := hrel
        by_cases hlt : j < nq
        · have hltB : decide ((j : Int) < (nq : Int)) = true := by simp; omega
          have hj0 : (0 : Int) ≤ (j : Int) := Int.natCast_nonneg _
          have hjn : (j : Int) < (nq : Int) := by omega
          obtain ⟨⟨q, v⟩, hv⟩ : ∃ z, Q[j]? = some z := ⟨_, List.getElem?_eq_getElem (by have := HNQ.out; omega)⟩
          have hmem := List.mem_of_getElem? hv
          have hmem2 : v ∈ Qs := by rw [HQS.out]; exact List.mem_map.2 ⟨_, hmem, rfl⟩
          have hlen : q.elems.length ≤ 20 := by rw [HQE.out _ hmem]; exact HLX.out
          obtain ⟨a, c, hve, -⟩ := ownsRow_rd (HEL.out _ hmem).1
          simp only at hve
          subst hve
          obtain ⟨n, hn⟩ : ∃ n, n = q.elems.length := ⟨_, rfl⟩
          rw [← hn] at hmem2 hv hlen
          obtain ⟨f0, f1, f2⟩ := qCells_at Q j q _ hv
          have hr := (ownsRow_rd HOWN.out).kp HO.out.kp fun k hk hg => (GQ.out k hg).2.2 hk
          obtain ⟨a', c', he, -, -, hnil, hc⟩ := hr
          injection he with he1 he2 he3
          subst he1
          subst he3
          clear he2
          cases ga with
          | none => have h1 := (ownsRow_rd HOWN.out); obtain ⟨a2, c2, he, h2, -, h4, -⟩ := h1; injection he with he1 he2 he3; have h5 := h4 he1.symm; omega
          | some ad =>
            obtain ⟨hsp, hc⟩ := hc ad rfl
            obtain ⟨gb, go, gs⟩ := ad
            simp only at hsp
            subst hsp
            have e0 := hc _ _ f0
            have e1 := hc _ _ f1
            have e2 := hc _ _ f2
            rw [← Nat.add_assoc] at e1 e2
            have HM2 := hid hmem2
            clear hv hmem hmem2 f0 f1 f2 hnil hc hn
            simp only at e0 e1 e2
            have hzb := heap_new wr (.cells #[uv q.label, .slice a n c, uv q.answer] 39)
            have HZB := hid hzb
            have HOZ := hid (HO.out.ext ((Ext.refl wr).alloc (.cells #[uv q.label, .slice a n c, uv q.answer] 39)))
            have HZS : Hid (w14.heap.size ≤ wr.heap.size) := hid HO.out.kp.size
            clear hzb
            go_wp2_with fail
            go_loopw [128] (fun iv wu => ∃ i : Nat, i ≤ n ∧ iv = .int .i64 i ∧ Hid (Over Qs w14 wu) ∧ Hid (wu.heap[wr.heap.size]? = some (.cells #[uv q.label, .slice a n c, uv q.answer] 39 (0, 0)))) (fun iv _ => (n - (intOf iv).toNat))
            case atStart => exact ⟨0, by omega, rfl, HOZ, HZB⟩
            case round =>
              obtain ⟨i, hi, rfl, HO2, HZ2⟩ := hrel
              by_cases hlt2 : i < n
              · have hltB2 : decide ((i : Int) < (n : Int)) = true := by simp; omega
                have hi0 : (0 : Int) ≤ (i : Int) := Int.natCast_nonneg _
                have hin : (i : Int) < (n : Int) := by omega
                obtain ⟨m, hm⟩ := HO2.out.cells _ HM2.out
                obtain ⟨g, u, rfl, hcu, hfz⟩ := hm.at hlt2
                have hfz' := hfz i
                have hz1 := cell_of HZ2.out 1
                simp only [List.getElem?_toArray] at hz1
                have hz1' : World.cell? _ ⟨_, 1, none⟩ = some (.slice (some ⟨g, 0, none⟩) n c) := hz1
                have hgz : Hid (g < w14.heap.size) := hid (GQ.out g ⟨_, HM2.out, rfl⟩).2.1
                clear hm hfz hz1 e0 e1 e2
                go_wp2_with fail
                go_roundw
                case rel => exact ⟨i + 1, by omega, by go_num, hid (HO2.out.set HM2.out rfl _ _), hid ((heap_setCell_ne (by have := hgz.out; have := HZS.out; omega) _ _).trans HZ2.out)⟩
                case measure => simp [intOf]; omega
              · have hii : i = n := by omega
                have hltB2 : decide ((i : Int) < (n : Int)) = false := by simp; omega
                clear e0 e1 e2
                go_wp2_with fail
                go_roundw
                case rel => exact ⟨j + 1, by omega, by go_num, HO2⟩
                case measure => simp [intOf]; omega
        · have hjn : j = nq := by omega
          have hltB : decide ((j : Int) < (nq : Int)) = false := by simp; omega
          have hx := HX14.out.kp HO.out.kp (fun k hk => (GQ.out k hk).1)
          have HXZ := hid (HXR.out.trans hx)
          have ATZ := hid (AT.out.ext hx)
          have PZ := hid (ownsRow_ext PP.out hx)
          have QZ := hid (ownsRow_ext QQ.out hx)
          clear hx OQ0 HOWN GQ HEL HX14 HQE HQS HNQ PP QQ AT HXR
          go_wp2_with fail
          refine wp_region_T (fun v => ((v.cell? ⟨w.heap.size, 1, none⟩ = some (uv x.label) ∧ v.cell? ⟨w.heap.size, 2, none⟩ = some (.slice xa x.l.length xc)) ∧ v.cell? ⟨w.heap.size + 1, 1, none⟩ = some (uv y.label) ∧ v.cell? ⟨w.heap.size + 1, 2, none⟩ = some (.slice ya y.l.length yc) ∧ v.cell? ⟨w.heap.size + 1, 3, none⟩ = some (uv y.n)) ∧ Ext w2 v) 11 [(0, true), (1, true), (2, true), (3, true), (4, true), (5, false), (6, false), (7, true), (8, true), (9, true), (10, true), (11, false)] (by kernel_rfl) (by kernel_rfl) (by intro c a d v w h; cases d <;> exact h) ?_
          intro ops hops
          have HS : _ ∧ Ext w2 wr.drew := ⟨B6.out _ HXZ.out.drew, HXZ.out.drew⟩
          iterate 5
            refine wpT_take (v := ?_) (by rw [hops, List.getElem?_toArray]; rfl) (by first | rfl | (rw [hops]; rfl)) ?_ HS ?_
            rotate_left
            · intro v h; go_simp; with_reducible rfl
            simp only [Act.put, List.getElem_toArray, List.getElem_cons_zero, List.getElem_cons_succ, List.setIfInBounds_toArray, List.set_cons_zero, List.set_cons_succ]
          refine wpT_step (by rw [hops, List.getElem?_toArray]; rfl) (by first | rfl | (rw [hops]; rfl)) ?_
          intro K hK
          go_wp2_with fail
          refine (own_any _ x.l _ (RX.out.ext HXZ.out.drew).rdc.weak (by have := HLX.out; omega)).mono ?_
          rintro e w15 ⟨xv, rfl, hown, hx15, hfr⟩
          obtain ⟨x1, x2, rfl, -⟩ := ownsRow_rd hown
          have hx15' := HXZ.out.drew.trans hx15
          have HX15 := hid hx15'
          have HXZ15 := hid ((Ext.refl wr).drew.trans hx15)
          have XR := hid hown.rdu
          have HS15 : _ ∧ Ext w2 w15 := ⟨B6.out _ hx15', hx15'⟩
          clear hown hx15 hfr hx15' HS
          refine hK _ _ ⟨fun _ => HS15, ?_⟩
          clear hK K
          refine wpT_step (by rw [hops, List.getElem?_toArray]; rfl) (by first | rfl | (rw [hops]; rfl)) ?_
          intro K hK
          go_wp2_with fail
          have CPK := Peek_any (label := x.label) (ATZ.out.ext HXZ15.out) XR.out (by have := HLX.out; omega) (by rw [ISO.out.q3]; decide)
          unfold PeekO at CPK
          rw [ISO.out.pk] at CPK
          refine CPK.mono ?_
          rintro e w16 ⟨rfl, hx16⟩
          have hx16' := HX15.out.trans hx16
          have HX16 := hid hx16'
          have HXZ16 := hid (HXZ15.out.trans hx16)
          have HS16 : _ ∧ Ext w2 w16 := ⟨B6.out _ hx16', hx16'⟩
          clear hx16 hx16' HS15 CPK
          refine hK _ _ ⟨fun _ => HS16, ?_⟩
          clear hK K
          iterate 4
            refine wpT_take (v := ?_) (by rw [hops, List.getElem?_toArray]; rfl) (by first | rfl | (rw [hops]; rfl)) ?_ HS16 ?_
            rotate_left
            · intro v h; go_simp; with_reducible rfl
            simp only [Act.put, List.getElem_toArray, List.getElem_cons_zero, List.getElem_cons_succ, List.setIfInBounds_toArray, List.set_cons_zero, List.set_cons_succ]
          refine wpT_step (by rw [hops, List.getElem?_toArray]; rfl) (by first | rfl | (rw [hops]; rfl)) ?_
          intro K hK
          go_wp2_with fail
          refine ⟨fun h => absurd h (by decide), ?_⟩
          rw [wpT_nil]
          clear hops ops
          clear HS16
          obtain ⟨⟨c1, c2⟩, d1, d2, d3⟩ := B6.out _ HX16.out
          go_wp2_with fail
          have COP := Open_ideal (key := y.label) (nonce := y.n) (ATZ.out.ext HXZ16.out) ISO.out.i3 (OwnU.rdu (ownsRow_ext PZ.out HXZ16.out)) (by rw [ISO.out.sll]; have := HLY.out; omega) (fun s hs => by rw [ISO.out.s3 s hs]; have := HLY.out; omega)
          unfold OpenO at COP
          rw [ISO.out.op] at COP
          refine COP.mono ?_
          rintro e w17 ⟨ov2, rfl, hown, hx17, -⟩
          simp only [Option.map_some, Option.getD_some] at hown
          obtain ⟨o1, o2, rfl, -⟩ := ownsRow_rd hown
          have OW := hid hown.rdu
          have HX17 := hid (HX16.out.trans hx17)
          have HXZ17 := hid (HXZ16.out.trans hx17)
          clear hown hx17 COP c1 c2 d1 d2 d3
          obtain ⟨⟨c1, c2⟩, d1, d2, d3⟩ := B6.out _ HX17.out
          have haa : ((ans.toNat : Int) == (ans.toNat : Int)) = true := by simp
          go_wp2_with fail
          refine (Same_any _ _ y.l y.l _ OW.out (RY.out.ext HX17.out) (by have := HLY.out; omega) (by have := HLY.out; omega)).mono ?_
          rintro e w18 ⟨rfl, hx18⟩
          rw [show (y.l == y.l) = true from by simp]
          have HX18 := hid (HX17.out.trans hx18)
          have HXZ18 := hid (HXZ17.out.trans hx18)
          clear hx18 c1 c2 d1 d2 d3
          go_wp2_with fail
          have CPV := Proved_ideal (s := 9) (ATZ.out.ext HXZ18.out) ISO.out.i3 (OwnU.rdu (ownsRow_ext QZ.out HXZ18.out)) (by rw [ISO.out.prl]; omega)
          rw [ISO.out.pv] at CPV
          refine CPV.mono ?_
          rintro e w19 ⟨rfl, hx19⟩
          have HX19 := hid (HX2.out.trans (HX18.out.trans hx19))
          clear hx19 CPV
          go_wp2_with fail
          go_ret
          exact ⟨rfl, HX19.out⟩
end Go.Proofs.Ytdkilbnocmnekaa
