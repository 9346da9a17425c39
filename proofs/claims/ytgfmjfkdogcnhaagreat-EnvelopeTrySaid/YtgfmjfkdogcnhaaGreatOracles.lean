/- The law's small and oracles. -/
import Derived.Test.YtgfmjfkdogcnhaaGreatRefEnv
set_option linter.unusedSimpArgs false
namespace Go.Proofs.YtgfmjfkdogcnhaaGreat
open Go.RowKit
attribute [local irreducible] perm fAdd fMul fPow fSub fNeg fRed hashU drawOf nextState cipSeal
theorem five_setP {w : World} {b : Nat} {c0 c1 c2 c3 c4 c5 d0 d1 d2 d3 d4 : Value} {T : TypeId} (h : w.heap[b]? = some (.cells #[c0, c1, c2, c3, c4, c5] T (0, 0))) :
    (((((w.setCell ⟨b, 0, none⟩ d0).setCell ⟨b, 1, none⟩ d1).setCell ⟨b, 2, none⟩ d2).setCell ⟨b, 3, none⟩ d3).setCell ⟨b, 4, none⟩ d4).heap[b]? = some (.cells #[d0, d1, d2, d3, d4, c5] T (0, 0)) ∧
      Kp (fun k => k = b) w (((((w.setCell ⟨b, 0, none⟩ d0).setCell ⟨b, 1, none⟩ d1).setCell ⟨b, 2, none⟩ d2).setCell ⟨b, 3, none⟩ d3).setCell ⟨b, 4, none⟩ d4) :=
  ⟨heap_setCell_same (heap_setCell_same (heap_setCell_same (heap_setCell_same (heap_setCell_same h 0 d0) 1 d1) 2 d2) 3 d3) 4 d4,
   (((((Kp.refl (fun k => k = b) w).setCell (p := ⟨b, 0, none⟩) (.inl rfl) _).setCell (p := ⟨b, 1, none⟩) (.inl rfl) _).setCell (p := ⟨b, 2, none⟩) (.inl rfl) _).setCell (p := ⟨b, 3, none⟩) (.inl rfl) _).setCell (p := ⟨b, 4, none⟩) (.inl rfl) _⟩
theorem two_setSix {w : World} {b : Nat} {c0 c1 c2 c3 c4 c5 d0 d1 d2 d3 d4 d5 : Value} {T : TypeId} (h : w.heap[b]? = some (.cells #[c0, c1, c2, c3, c4, c5] T (0, 0))) :
    ((((((w.setCell ⟨b, 0, none⟩ d0).setCell ⟨b, 1, none⟩ d1).setCell ⟨b, 2, none⟩ d2).setCell ⟨b, 3, none⟩ d3).setCell ⟨b, 4, none⟩ d4).setCell ⟨b, 5, none⟩ d5).heap[b]? = some (.cells #[d0, d1, d2, d3, d4, d5] T (0, 0)) ∧
      Kp (fun k => k = b) w ((((((w.setCell ⟨b, 0, none⟩ d0).setCell ⟨b, 1, none⟩ d1).setCell ⟨b, 2, none⟩ d2).setCell ⟨b, 3, none⟩ d3).setCell ⟨b, 4, none⟩ d4).setCell ⟨b, 5, none⟩ d5) := by
  obtain ⟨h1, h2⟩ := five_setP (d0 := d0) (d1 := d1) (d2 := d2) (d3 := d3) (d4 := d4) h
  exact ⟨heap_setCell_same h1 5 d5, h2.setCell (p := ⟨b, 5, none⟩) (.inl rfl) _⟩
set_option maxHeartbeats 400000 in
theorem small35_any (commit p0 p1 : UInt64) (n : Nat) (ca : Option Addr) (cc : Nat) (w : World) : Calls Tryz.prog 6 #[.agg #[uv commit, uv p0, uv p1, .slice ca n cc]] w fun e w' => e = .returned (.bool (decide (n ≤ 20))) ∧ Ext w w' := by
  have h1 : decide ((n : Int) ≤ 20) = decide (n ≤ 20) := by rw [decide_eq_decide]; omega
  generalize decide (n ≤ 20) = r at *
  go_enter Tryz.func6, Tryz.ntmps6
  go_wp2
  go_ret
  exact ⟨rfl, (Ext.refl _).alloc _⟩
def stP (ideal : Bool) (seed : UInt64) : UInt64 := if ideal then seed else 0
def NewP (w : World) (ideal : Bool) (seed : UInt64) (e : Ending) (w' : World) : Prop :=
  ∃ (b : Nat) (F : Nat → Prop), e = .returned (.tuple #[.pointer (some ⟨b, 0, none⟩), .agg #[.bool ideal, uv (stP ideal seed), .int .i64 0, .slice none 0 0, .slice none 0 0, .slice none 0 0]]) ∧ OrcAt w' b (Orc.fresh ideal (stP ideal seed)) F ∧ Ext w w' ∧ ∀ k, F k → w.heap.size ≤ k
set_option maxRecDepth 100000 in
set_option maxHeartbeats 1600000 in
theorem oracles_any (ideal : Bool) (seed : UInt64) (w : World) : Calls Tryz.prog 7 #[.agg #[uv seed, .bool ideal]] w (NewP w ideal seed) := by
  obtain ⟨N, hN⟩ : ∃ N, N = w.heap.size := ⟨_, rfl⟩
  obtain ⟨w0, hw0⟩ : ∃ w0, w0 = (w.alloc (.cells #[uv seed, .bool ideal] 24)).alloc (.cells #[.bool false, .int .u64 0, .int .i64 0, .slice none 0 0, .slice none 0 0, .slice none 0 0] 38) := ⟨_, rfl⟩
  have hx0 : Ext w w0 := by rw [hw0]; exact ((Ext.refl w).alloc _).alloc _
  have hb0 : w0.heap[N]? = some (.cells #[uv seed, .bool ideal] 24 (0, 0)) := by rw [hw0, hN]; exact heap_alloc_some (heap_new _ _)
  have hb1 : w0.heap[N + 1]? = some (.cells #[.bool false, .int .u64 0, .int .i64 0, .slice none 0 0, .slice none 0 0, .slice none 0 0] 38 (0, 0)) := by
    rw [hw0, hN]
    have := heap_new (w.alloc (.cells #[uv seed, .bool ideal] 24)) (.cells #[.bool false, .int .u64 0, .int .i64 0, .slice none 0 0, .slice none 0 0, .slice none 0 0] 38)
    simpa using this
  have H2 : Hid (∀ v, Ext w0 v → v.cell? ⟨N, 0, none⟩ = some (uv seed) ∧ v.cell? ⟨N, 1, none⟩ = some (.bool ideal)) := hid fun v k => two_cells (k.heap_some hb0)
  have HW := hid hw0
  have HX0 := hid hx0
  have HB1 := hid hb1
  have HN := hid hN
  have HRL := hid Real_any
  have HID := hid (Ideal_any seed)
  obtain ⟨c0, c1⟩ := H2.out w0 (Ext.refl _)
  clear hw0 hx0 hb0 hb1
  go_enter Tryz.func7, Tryz.ntmps7
  go_upto_region 1 with fail
  rw [← HW.out, ← hN]
  clear hN
  cases ideal with
  | true =>
    clear HRL
    go_wp2_with fail
    refine wp_region_T (fun v => (v.cell? ⟨N, 0, none⟩ = some (uv seed) ∧ v.cell? ⟨N, 1, none⟩ = some (.bool true)) ∧ Ext w0 v) 8 [(0, true), (1, true), (3, true), (4, true), (5, true), (6, true), (2, false), (7, true), (8, false)] (by kernel_rfl) (by kernel_rfl) (by intro c a d v w h; cases d <;> exact h) ?_
    intro ops hops
    have HS := keep0 H2.out
    iterate 6
      refine wpT_take (v := ?_) (by rw [hops, List.getElem?_toArray]; rfl) (by first | rfl | (rw [hops]; rfl)) ?_ HS ?_
      rotate_left
      · intro v h; go_simp; with_reducible rfl
      simp only [Act.put, List.getElem_toArray, List.getElem_cons_zero, List.getElem_cons_succ, List.setIfInBounds_toArray, List.set_cons_zero, List.set_cons_succ]
    clear c0 c1
    refine wpT_step (by rw [hops, List.getElem?_toArray]; rfl) (by first | rfl | (rw [hops]; rfl)) ?_
    intro K hK
    go_wp2_with fail
    refine (HID.out _).mono ?_
    rintro e w1 ⟨b, F, rfl, hat, hx, hF⟩
    have HS1 := keepE H2.out HS hx
    have hx1 := HS1.2
    have hb1 := hx1.heap_some HB1.out
    obtain ⟨k0, k1, k2, k3, k4, k5⟩ := six_cellsP hb1
    have kf := frozen_of hb1
    have HAT := hid hat
    have HF : Hid (∀ k, F k → w0.heap.size ≤ k) := hid fun k hk => hF k hk
    have HX1 := hid hx1
    have HB1W := hid hb1
    clear HS hat hx hF hx1 hb1
    refine hK _ _ ⟨fun _ => HS1, ?_⟩
    clear hK K
    iterate 1
      refine wpT_take (v := ?_) (by rw [hops, List.getElem?_toArray]; rfl) (by first | rfl | (rw [hops]; rfl)) ?_ HS1 ?_
      rotate_left
      · intro v h; go_simp; with_reducible rfl
      simp only [Act.put, List.getElem_toArray, List.getElem_cons_zero, List.getElem_cons_succ, List.setIfInBounds_toArray, List.set_cons_zero, List.set_cons_succ]
    clear HS1
    refine wpT_step (by rw [hops, List.getElem?_toArray]; rfl) (by first | rfl | (rw [hops]; rfl)) ?_
    intro K hK
    go_wp2_with fail
    try (with_reducible refine ⟨fun h => absurd h (by decide), ?_⟩)
    try rw [wpT_nil]
    try clear hops ops
    obtain ⟨hb9, hk9⟩ := two_setSix (d0 := .bool true) (d1 := uv seed) (d2 := .int .i64 0) (d3 := .slice none 0 0) (d4 := .slice none 0 0) (d5 := .slice none 0 0) HB1W.out
    obtain ⟨r0, r1, r2, r3, r4, r5⟩ := six_cellsP hb9
    have hfin := (HX0.out.trans HX1.out).kp hk9 (fun k h => by have := HN.out; omega)
    have hat9 := HAT.out.kp hk9 (fun k hk e => by have := HF.out k hk; have := heap_lt HB1.out; omega)
    have HFIN := hid (And.intro hfin (And.intro hat9 (And.intro r0 (And.intro r1 (And.intro r2 (And.intro r3 (And.intro r4 r5)))))))
    clear hb9 hk9 hfin hat9 r0 r1 r2 r3 r4 r5
    go_wp2_with fail
    obtain ⟨hfin, hat9, r0, r1, r2, r3, r4, r5⟩ := HFIN.out
    generalize (((((w1.setCell ⟨N + 1, 0, none⟩ (.bool true)).setCell ⟨N + 1, 1, none⟩ (uv seed)).setCell ⟨N + 1, 2, none⟩ (.int .i64 0)).setCell ⟨N + 1, 3, none⟩ (.slice none 0 0)).setCell ⟨N + 1, 4, none⟩ (.slice none 0 0)).setCell ⟨N + 1, 5, none⟩ (.slice none 0 0) = W at *
    refine bodyPost_ret (v := .tuple #[.pointer (some ⟨b, 0, none⟩), .agg #[.bool true, uv seed, .int .i64 0, .slice none 0 0, .slice none 0 0, .slice none 0 0]]) (by simp [results, Tryz.results7, go_sem, r0, r1, r2, r3, r4, r5]) rfl ?_
    exact ⟨b, F, rfl, hat9, hfin, fun k hk => Nat.le_trans HX0.out.size (HF.out k hk)⟩
  | false =>
    clear HID
    go_wp2_with fail
    refine (HRL.out _).mono ?_
    rintro e w1 ⟨b, F, rfl, hat, hx1, hF⟩
    have hb1 := hx1.heap_some HB1.out
    obtain ⟨k0, k1, k2, k3, k4, k5⟩ := six_cellsP hb1
    have kf := frozen_of hb1
    have HAT := hid hat
    have HF : Hid (∀ k, F k → w0.heap.size ≤ k) := hid fun k hk => hF k hk
    have HX1 := hid hx1
    have HB1W := hid hb1
    clear hat hx1 hF c0 c1 hb1
    obtain ⟨hb9, hk9⟩ := two_setSix (d0 := .bool false) (d1 := .int .u64 0) (d2 := .int .i64 0) (d3 := .slice none 0 0) (d4 := .slice none 0 0) (d5 := .slice none 0 0) HB1W.out
    obtain ⟨r0, r1, r2, r3, r4, r5⟩ := six_cellsP hb9
    have hfin := (HX0.out.trans HX1.out).kp hk9 (fun k h => by have := HN.out; omega)
    have hat9 := HAT.out.kp hk9 (fun k hk e => by have := HF.out k hk; have := heap_lt HB1.out; omega)
    have HFIN := hid (And.intro hfin (And.intro hat9 (And.intro r0 (And.intro r1 (And.intro r2 (And.intro r3 (And.intro r4 r5)))))))
    clear hb9 hk9 hfin hat9 r0 r1 r2 r3 r4 r5
    go_wp2_with fail
    obtain ⟨hfin, hat9, r0, r1, r2, r3, r4, r5⟩ := HFIN.out
    generalize (((((w1.setCell ⟨N + 1, 0, none⟩ (.bool false)).setCell ⟨N + 1, 1, none⟩ (.int .u64 0)).setCell ⟨N + 1, 2, none⟩ (.int .i64 0)).setCell ⟨N + 1, 3, none⟩ (.slice none 0 0)).setCell ⟨N + 1, 4, none⟩ (.slice none 0 0)).setCell ⟨N + 1, 5, none⟩ (.slice none 0 0) = W at *
    refine bodyPost_ret (v := .tuple #[.pointer (some ⟨b, 0, none⟩), .agg #[.bool false, .int .u64 0, .int .i64 0, .slice none 0 0, .slice none 0 0, .slice none 0 0]]) (by simp [results, Tryz.results7, go_sem, r0, r1, r2, r3, r4, r5]) rfl ?_
    exact ⟨b, F, rfl, hat9, hfin, fun k hk => Nat.le_trans HX0.out.size (HF.out k hk)⟩
end Go.Proofs.YtgfmjfkdogcnhaaGreat
