/- The law's small and oracles; EnvelopeForged returns true: the walk. -/
import Derived.Test.YtdpgfjnpcjpdpaaRefEnv
set_option linter.unusedSimpArgs false
namespace Go.Proofs.Ytdpgfjnpcjpdpaa
open Go.RowKit
attribute [local irreducible] perm fAdd fMul fPow fSub fNeg fRed hashU drawOf nextState cipSeal
theorem five_setP {w : World} {b : Nat} {c0 c1 c2 c3 c4 c5 d0 d1 d2 d3 d4 : Value} {T : TypeId} (h : w.heap[b]? = some (.cells #[c0, c1, c2, c3, c4, c5] T (0, 0))) :
    (((((w.setCell ⟨b, 0, none⟩ d0).setCell ⟨b, 1, none⟩ d1).setCell ⟨b, 2, none⟩ d2).setCell ⟨b, 3, none⟩ d3).setCell ⟨b, 4, none⟩ d4).heap[b]? = some (.cells #[d0, d1, d2, d3, d4, c5] T (0, 0)) ∧
      Kp (fun k => k = b) w (((((w.setCell ⟨b, 0, none⟩ d0).setCell ⟨b, 1, none⟩ d1).setCell ⟨b, 2, none⟩ d2).setCell ⟨b, 3, none⟩ d3).setCell ⟨b, 4, none⟩ d4) :=
  ⟨heap_setCell_same (heap_setCell_same (heap_setCell_same (heap_setCell_same (heap_setCell_same h 0 d0) 1 d1) 2 d2) 3 d3) 4 d4,
   (((((Kp.refl (fun k => k = b) w).setCell (p := ⟨b, 0, none⟩) (.inl rfl) _).setCell (p := ⟨b, 1, none⟩) (.inl rfl) _).setCell (p := ⟨b, 2, none⟩) (.inl rfl) _).setCell (p := ⟨b, 3, none⟩) (.inl rfl) _).setCell (p := ⟨b, 4, none⟩) (.inl rfl) _⟩
theorem two_setSix {w : World} {b : Nat} {c0 c1 c2 c3 c4 c5 d0 d1 d2 d3 d4 d5 : Value} {T : TypeId} (h : w.heap[b]? = some (.cells #[c0, c1, c2, c3, c4, c5] T (0, 0))) :
    ((((((w.setCell ⟨b, 0, none⟩ d0).setCell ⟨b, 1, none⟩ d1).setCell ⟨b, 2, none⟩ d2).setCell ⟨b, 3, none⟩ d3).setCell ⟨b, 4, none⟩ d4).setCell ⟨b, 5, none⟩ d5).heap[b]? = some (.cells #[d0, d1, d2, d3, d4, d5] T (0, 0)) ∧
      Kp (fun k => k = b) w ((((((w.setCell ⟨b, 0, none⟩ d0).setCell ⟨b, 1, none⟩ d1).setCell ⟨b, 2, none⟩ d2).setCell ⟨b, 3, none⟩ d3).setCell ⟨b, 4, none⟩ d4).setCell ⟨b, 5, none⟩ d5) := by
  obtain ⟨h1, h2⟩ := five_setP (d0 := d0) (d1 := d1) (d2 := d2) (d3 := d3) (d4 := d4) h
  exact ⟨heap_setCell_same h1 5 d5, h2.setCell (p := ⟨b, 5, none⟩) (.inl rfl) _⟩
set_option maxHeartbeats 400000 in
theorem small35_any (commit p0 p1 : UInt64) (n : Nat) (ca : Option Addr) (cc : Nat) (w : World) : Calls Try.prog 49 #[.agg #[uv commit, uv p0, uv p1, .slice ca n cc]] w fun e w' => e = .returned (.bool (decide (n ≤ 20))) ∧ Ext w w' := by
  have h1 : decide ((n : Int) ≤ 20) = decide (n ≤ 20) := by rw [decide_eq_decide]; omega
  generalize decide (n ≤ 20) = r at *
  go_enter Try.func49, Try.ntmps49
  go_wp2
  go_ret
  exact ⟨rfl, (Ext.refl _).alloc _⟩
def stP (ideal : Bool) (seed : UInt64) : UInt64 := if ideal then seed else 0
def NewP (w : World) (ideal : Bool) (seed : UInt64) (e : Ending) (w' : World) : Prop :=
  ∃ (b : Nat) (F : Nat → Prop), e = .returned (.tuple #[.pointer (some ⟨b, 0, none⟩), .agg #[.bool ideal, uv (stP ideal seed), .int .i64 0, .slice none 0 0, .slice none 0 0, .slice none 0 0]]) ∧ OrcAt w' b (Orc.fresh ideal (stP ideal seed)) F ∧ Ext w w' ∧ ∀ k, F k → w.heap.size ≤ k
set_option maxRecDepth 100000 in
set_option maxHeartbeats 1600000 in
theorem oracles_any (ideal : Bool) (seed : UInt64) (w : World) : Calls Try.prog 46 #[.agg #[uv seed, .bool ideal]] w (NewP w ideal seed) := by
  obtain ⟨N, hN⟩ : ∃ N, N = w.heap.size := ⟨_, rfl⟩
  obtain ⟨w0, hw0⟩ : ∃ w0, w0 = (w.alloc (.cells #[uv seed, .bool ideal] 89)).alloc (.cells #[.bool false, .int .u64 0, .int .i64 0, .slice none 0 0, .slice none 0 0, .slice none 0 0] 95) := ⟨_, rfl⟩
  have hx0 : Ext w w0 := by rw [hw0]; exact ((Ext.refl w).alloc _).alloc _
  have hb0 : w0.heap[N]? = some (.cells #[uv seed, .bool ideal] 89 (0, 0)) := by rw [hw0, hN]; exact heap_alloc_some (heap_new _ _)
  have hb1 : w0.heap[N + 1]? = some (.cells #[.bool false, .int .u64 0, .int .i64 0, .slice none 0 0, .slice none 0 0, .slice none 0 0] 95 (0, 0)) := by
    rw [hw0, hN]
    have := heap_new (w.alloc (.cells #[uv seed, .bool ideal] 89)) (.cells #[.bool false, .int .u64 0, .int .i64 0, .slice none 0 0, .slice none 0 0, .slice none 0 0] 95)
    simpa using this
  have H2 : Hid (∀ v, Ext w0 v → v.cell? ⟨N, 0, none⟩ = some (uv seed) ∧ v.cell? ⟨N, 1, none⟩ = some (.bool ideal)) := hid fun v k => two_cells (k.heap_some hb0)
  have HW := hid hw0
  have HX0 := hid hx0
  have HB1 := hid hb1
  have HN := hid hN
  have HRL := hid Real_any
  have HID := hid (Ideal_any seed)
  obtain ⟨c0, c1⟩ := H2.out w0 (Ext.refl _)
  clear hw0 hx0 hb0 hb1
  go_enter Try.func46, Try.ntmps46
  go_upto_region 1 with fail
  rw [← HW.out, ← hN]
  clear hN
  cases ideal with
  | true =>
    clear HRL
    go_wp2_with fail
    refine wp_region_T (fun v => (v.cell? ⟨N, 0, none⟩ = some (uv seed) ∧ v.cell? ⟨N, 1, none⟩ = some (.bool true)) ∧ Ext w0 v) 8 [(0, true), (1, true), (3, true), (4, true), (5, true), (6, true), (2, false), (7, true), (8, false)] (by kernel_rfl) (by kernel_rfl) (by intro c a d v w h; cases d <;> exact h) ?_
    intro ops hops
    have HS := keep0 H2.out
    iterate 6
      refine wpT_take (v := ?_) (by rw [hops, List.getElem?_toArray]; rfl) (by first | rfl | (rw [hops]; rfl)) ?_ HS ?_
      rotate_left
      · intro v h; go_simp; with_reducible rfl
      simp only [Act.put, List.getElem_toArray, List.getElem_cons_zero, List.getElem_cons_succ, List.setIfInBounds_toArray, List.set_cons_zero, List.set_cons_succ]
    clear c0 c1
    refine wpT_step (by rw [hops, List.getElem?_toArray]; rfl) (by first | rfl | (rw [hops]; rfl)) ?_
    intro K hK
    go_wp2_with fail
    refine (HID.out _).mono ?_
    rintro e w1 ⟨b, F, rfl, hat, hx, hF⟩
    have HS1 := keepE H2.out HS hx
    have hx1 := HS1.2
    have hb1 := hx1.heap_some HB1.out
    obtain ⟨k0, k1, k2, k3, k4, k5⟩ := six_cellsP hb1
    have kf := frozen_of hb1
    have HAT := hid hat
    have HF : Hid (∀ k, F k → w0.heap.size ≤ k) := hid fun k hk => hF k hk
    have HX1 := hid hx1
    have HB1W := hid hb1
    clear HS hat hx hF hx1 hb1
    refine hK _ _ ⟨fun _ => HS1, ?_⟩
    clear hK K
    iterate 1
      refine wpT_take (v := ?_) (by rw [hops, List.getElem?_toArray]; rfl) (by first | rfl | (rw [hops]; rfl)) ?_ HS1 ?_
      rotate_left
      · intro v h; go_simp; with_reducible rfl
      simp only [Act.put, List.getElem_toArray, List.getElem_cons_zero, List.getElem_cons_succ, List.setIfInBounds_toArray, List.set_cons_zero, List.set_cons_succ]
    clear HS1
    refine wpT_step (by rw [hops, List.getElem?_toArray]; rfl) (by first | rfl | (rw [hops]; rfl)) ?_
    intro K hK
    go_wp2_with fail
    try (with_reducible refine ⟨fun h => absurd h (by decide), ?_⟩)
    try rw [wpT_nil]
    try clear hops ops
    obtain ⟨hb9, hk9⟩ := two_setSix (d0 := .bool true) (d1 := uv seed) (d2 := .int .i64 0) (d3 := .slice none 0 0) (d4 := .slice none 0 0) (d5 := .slice none 0 0) HB1W.out
    obtain ⟨r0, r1, r2, r3, r4, r5⟩ := six_cellsP hb9
    have hfin := (HX0.out.trans HX1.out).kp hk9 (fun k h => by have := HN.out; omega)
    have hat9 := HAT.out.kp hk9 (fun k hk e => by have := HF.out k hk; have := heap_lt HB1.out; omega)
    have HFIN := hid (And.intro hfin (And.intro hat9 (And.intro r0 (And.intro r1 (And.intro r2 (And.intro r3 (And.intro r4 r5)))))))
    clear hb9 hk9 hfin hat9 r0 r1 r2 r3 r4 r5
    go_wp2_with fail
    obtain ⟨hfin, hat9, r0, r1, r2, r3, r4, r5⟩ := HFIN.out
    generalize (((((w1.setCell ⟨N + 1, 0, none⟩ (.bool true)).setCell ⟨N + 1, 1, none⟩ (uv seed)).setCell ⟨N + 1, 2, none⟩ (.int .i64 0)).setCell ⟨N + 1, 3, none⟩ (.slice none 0 0)).setCell ⟨N + 1, 4, none⟩ (.slice none 0 0)).setCell ⟨N + 1, 5, none⟩ (.slice none 0 0) = W at *
    refine bodyPost_ret (v := .tuple #[.pointer (some ⟨b, 0, none⟩), .agg #[.bool true, uv seed, .int .i64 0, .slice none 0 0, .slice none 0 0, .slice none 0 0]]) (by simp [results, Try.results46, go_sem, r0, r1, r2, r3, r4, r5]) rfl ?_
    exact ⟨b, F, rfl, hat9, hfin, fun k hk => Nat.le_trans HX0.out.size (HF.out k hk)⟩
  | false =>
    clear HID
    go_wp2_with fail
    refine (HRL.out _).mono ?_
    rintro e w1 ⟨b, F, rfl, hat, hx1, hF⟩
    have hb1 := hx1.heap_some HB1.out
    obtain ⟨k0, k1, k2, k3, k4, k5⟩ := six_cellsP hb1
    have kf := frozen_of hb1
    have HAT := hid hat
    have HF : Hid (∀ k, F k → w0.heap.size ≤ k) := hid fun k hk => hF k hk
    have HX1 := hid hx1
    have HB1W := hid hb1
    clear hat hx1 hF c0 c1 hb1
    obtain ⟨hb9, hk9⟩ := two_setSix (d0 := .bool false) (d1 := .int .u64 0) (d2 := .int .i64 0) (d3 := .slice none 0 0) (d4 := .slice none 0 0) (d5 := .slice none 0 0) HB1W.out
    obtain ⟨r0, r1, r2, r3, r4, r5⟩ := six_cellsP hb9
    have hfin := (HX0.out.trans HX1.out).kp hk9 (fun k h => by have := HN.out; omega)
    have hat9 := HAT.out.kp hk9 (fun k hk e => by have := HF.out k hk; have := heap_lt HB1.out; omega)
    have HFIN := hid (And.intro hfin (And.intro hat9 (And.intro r0 (And.intro r1 (And.intro r2 (And.intro r3 (And.intro r4 r5)))))))
    clear hb9 hk9 hfin hat9 r0 r1 r2 r3 r4 r5
    go_wp2_with fail
    obtain ⟨hfin, hat9, r0, r1, r2, r3, r4, r5⟩ := HFIN.out
    generalize (((((w1.setCell ⟨N + 1, 0, none⟩ (.bool false)).setCell ⟨N + 1, 1, none⟩ (.int .u64 0)).setCell ⟨N + 1, 2, none⟩ (.int .i64 0)).setCell ⟨N + 1, 3, none⟩ (.slice none 0 0)).setCell ⟨N + 1, 4, none⟩ (.slice none 0 0)).setCell ⟨N + 1, 5, none⟩ (.slice none 0 0) = W at *
    refine bodyPost_ret (v := .tuple #[.pointer (some ⟨b, 0, none⟩), .agg #[.bool false, .int .u64 0, .int .i64 0, .slice none 0 0, .slice none 0 0, .slice none 0 0]]) (by simp [results, Try.results46, go_sem, r0, r1, r2, r3, r4, r5]) rfl ?_
    exact ⟨b, F, rfl, hat9, hfin, fun k hk => Nat.le_trans HX0.out.size (HF.out k hk)⟩
set_option maxRecDepth 100000 in
set_option maxHeartbeats 6400000 in
theorem EnvelopeForged_any {w : World} {ideal : Bool} {seed commit view : UInt64} {pt : E2} {cv : Value} {c : List UInt64} (hc : RdU w cv c) :
    Calls Try.prog 10 #[.agg #[uv seed, .bool ideal], .agg #[uv commit, uv pt.a, uv pt.b, cv], uv view] w fun e w' => e = .returned (.bool true) ∧ Ext w w' := by
  obtain ⟨ca, cc, rfl, -⟩ := id hc
  obtain ⟨N, hN⟩ : ∃ N, N = w.heap.size := ⟨_, rfl⟩
  obtain ⟨w0, hw0⟩ : ∃ w0, w0 = (w.alloc (.cells #[uv seed, .bool ideal] 89)).alloc (.cells #[uv commit, uv pt.a, uv pt.b, .slice ca c.length cc] 83) := ⟨_, rfl⟩
  have hx0 : Ext w w0 := by rw [hw0]; exact ((Ext.refl w).alloc _).alloc _
  have hb0 : w0.heap[N]? = some (.cells #[uv seed, .bool ideal] 89 (0, 0)) := by rw [hw0, hN]; exact heap_alloc_some (heap_new _ _)
  have hb1 : w0.heap[N + 1]? = some (.cells #[uv commit, uv pt.a, uv pt.b, .slice ca c.length cc] 83 (0, 0)) := by
    rw [hw0, hN]
    have := heap_new (w.alloc (.cells #[uv seed, .bool ideal] 89)) (.cells #[uv commit, uv pt.a, uv pt.b, .slice ca c.length cc] 83)
    simpa using this
  have HW := hid hw0
  have HX0 := hid hx0
  have HB0 := hid hb0
  have HB1 := hid hb1
  have HC := hid hc
  have HA := hid awake35_any
  clear hw0 hx0 hb0 hb1 hc
  go_enter Try.func10, Try.ntmps10
  go_upto_region 1 with fail
  rw [← HW.out, ← hN]
  clear hN
  go_wp2_with fail
  refine (HA.out _).mono ?_
  rintro e w1 ⟨rfl, hx⟩
  have HX1 := hid hx
  obtain ⟨c0, c1, c2, c3⟩ := four_cells (hx.heap_some HB1.out)
  clear hx
  go_wp2_with fail
  refine (small35_any commit pt.a pt.b c.length ca cc _).mono ?_
  rintro e w2 ⟨rfl, hx⟩
  have HX2 := hid (HX1.out.trans hx)
  clear hx c0 c1 c2 c3
  by_cases hs : c.length ≤ 20
  case neg =>
    rw [show decide (c.length ≤ 20) = false by simp; omega]
    clear hs
    go_wp2_with fail
    refine (HA.out _).mono ?_
    rintro e w3 ⟨rfl, hx⟩
    have HX3 := hid ((HX0.out.trans HX2.out).trans hx)
    clear hx
    go_wp2_with fail
    go_ret
    exact ⟨rfl, HX3.out⟩
  rw [show decide (c.length ≤ 20) = true by simp; omega]
  have HSM := hid hs
  obtain ⟨d0, d1⟩ := two_cells (HX2.out.heap_some HB0.out)
  clear hs HA
  go_wp2_with fail
  refine (oracles_any ideal seed _).mono ?_
  rintro e w3 ⟨b, F, rfl, hat, hx, hF⟩
  have HX3 := hid (HX2.out.trans hx)
  have HAT := hid hat
  clear hx hat hF d0 d1
  generalize stP ideal seed = st at *
  go_upto_region 4 with fail
  obtain ⟨R, hR⟩ : ∃ R, R = w3.heap.size := ⟨_, rfl⟩
  obtain ⟨w4, hw4⟩ : ∃ w4, w4 = w3.alloc (.cells #[.bool ideal, uv st, .int .i64 0, .slice none 0 0, .slice none 0 0, .slice none 0 0] 95) := ⟨_, rfl⟩
  have hx4 : Ext w3 w4 := by rw [hw4]; exact (Ext.refl w3).alloc _
  have hb4 : w4.heap[R]? = some (.cells #[.bool ideal, uv st, .int .i64 0, .slice none 0 0, .slice none 0 0, .slice none 0 0] 95 (0, 0)) := by rw [hw4, hR]; exact heap_new _ _
  rw [← hw4, ← hR]
  have HX4 := hid (HX3.out.trans hx4)
  have HB4 := hid hb4
  have HAT4 := hid (HAT.out.ext hx4)
  clear hw4 hx4 hb4 hR
  obtain ⟨res, hres⟩ : ∃ res, res = openP ideal [] view pt c := ⟨_, rfl⟩
  have HO1 : Hid (Calls Try.prog 42 #[.pointer (some ⟨b, 0, none⟩), uv view, .agg #[uv commit, uv pt.a, uv pt.b, .slice ca c.length cc]] w4 fun e w' => e = .returned (r3 res) ∧ Ext w4 w') := hid (by
    have h := envOpen_any (view := view) (commit := commit) (pt := pt) HAT4.out (HC.out.ext (HX0.out.trans HX4.out)) (by have := HSM.out; omega) (by intro s hs; cases hs)
    rw [openP_eq, show (Orc.fresh ideal st).ideal = ideal from rfl, show (Orc.fresh ideal st).seals = [] from rfl, ← hres] at h
    exact h)
  have HO2 : Hid (∀ v, Ext w4 v → Calls Try.prog 50 #[.agg #[.bool ideal, uv st, .int .i64 0, .slice none 0 0, .slice none 0 0, .slice none 0 0], uv view, .agg #[uv commit, uv pt.a, uv pt.b, .slice ca c.length cc]] v fun e w' => e = .returned (r3 res) ∧ Ext v w') := hid fun v k => by
    have h := rEnvOpen_any (w := v) (ideal := ideal) (st := st) (nn := 0) (qv := .slice none 0 0) (sv := .slice none 0 0) (pv := .slice none 0 0) (ss := []) (view := view) (commit := commit) (pt := pt) ⟨_, _, _, rfl⟩ ⟨_, _, _, rfl⟩ (RdSc.nil v) (HC.out.ext ((HX0.out.trans HX4.out).trans k)) (by have := HSM.out; omega) (by simp) (by intro s hs; cases hs)
    rw [← hres] at h
    exact h
  clear hres
  obtain ⟨ra, rb, rk⟩ := res
  obtain ⟨c0, c1, c2, c3⟩ := four_cells (HX4.out.heap_some HB1.out)
  unfold r3 at HO1 HO2
  simp only at HO1 HO2
  go_wp2_with fail
  refine (HO1.out).mono ?_
  rintro e w5 ⟨rfl, hx⟩
  have HX5 := hid hx
  clear hx c0 c1 c2 c3 HO1
  obtain ⟨c0, c1, c2, c3⟩ := four_cells ((HX4.out.trans HX5.out).heap_some HB1.out)
  obtain ⟨d0, d1, d2, d3, d4, d5⟩ := six_cellsP (HX5.out.heap_some HB4.out)
  go_wp2_with fail
  refine (HO2.out _ HX5.out).mono ?_
  rintro e w6 ⟨rfl, hx⟩
  have HX6 := hid ((HX0.out.trans (HX4.out.trans HX5.out)).trans hx)
  have ha : ((ra.toNat : Int) == (ra.toNat : Int)) = true := by simp
  have hb : ((rb.toNat : Int) == (rb.toNat : Int)) = true := by simp
  have hk : (rk == rk) = true := by simp
  clear hx c0 c1 c2 c3 d0 d1 d2 d3 d4 d5 HO2
  go_wp2_with fail
  go_ret
  exact ⟨rfl, HX6.out⟩
end Go.Proofs.Ytdpgfjnpcjpdpaa
