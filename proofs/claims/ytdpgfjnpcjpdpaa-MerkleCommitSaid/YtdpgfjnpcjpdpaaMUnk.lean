/- MerkleUnknown returns true. -/
import Derived.Test.YtdpgfjnpcjpdpaaAwk12
import Derived.Test.YtdpgfjnpcjpdpaaOwn12
import Derived.Test.YtdpgfjnpcjpdpaaQs
set_option linter.unusedSimpArgs false
namespace Go.Proofs.Ytdpgfjnpcjpdpaa
open Go.RowKit
attribute [local irreducible] perm fAdd fMul fPow fSub fNeg fRed hashU drawOf nextState awT

theorem ownU_stays {w : World} {F : Nat → Prop} {v : Value} {l : List UInt64} (h : OwnU w v l) (hF : ∀ k, blk v = some k → ¬ F k) : Stays F w fun w' => RdU' w' v l := fun _ k => (OwnU.rdu (ownsRow_kp h k hF)).weak
theorem fresh_verify (seed root : UInt64) (n i : Int) (x : Opn) : ((Orc.fresh true seed).verify root n i x).1 = false := by
  unfold Orc.verify
  split
  · show folOk ((Orc.fresh true seed).fol peekF i.toNat x) root = false
    have h : (peekF (Orc.fresh true seed) 16 (x.salt :: x.leaf)).1.2 = false := by
      unfold peekF Orc.peek
      split
      · rfl
      · rfl
    have := folF_no (f := peekF) (l := x.path) (i := i.toNat) (M := Orc.fresh true seed) (q := (16, x.salt :: x.leaf)) h
    unfold Orc.fol
    rw [this]; rfl
  · rfl
set_option maxRecDepth 100000 in
set_option maxHeartbeats 3200000 in
theorem MerkleUnknown_any (seed root : UInt64) (n i : Int) (x : Opn) (lf pv : Value) (w : World) (hl : RdU' w lf x.leaf) (hp : RdU' w pv x.path) :
    Calls Try.prog 5 #[uv seed, .agg #[uv root, .int .i64 n, .int .i64 i, lf, uv x.salt, pv]] w fun e w' => e = .returned (.bool true) ∧ Ext w w' := by
  obtain ⟨la, lc, rfl, -⟩ := id hl
  obtain ⟨pa, pc, rfl, -⟩ := id hp
  have HL := hid hl
  have HP := hid hp
  have HA := hid awake12_any
  have HI := hid (Ideal_any seed)
  have hx0 := (Ext.refl w).alloc (.cells #[uv root, .int .i64 n, .int .i64 i, .slice la x.leaf.length lc, uv x.salt, .slice pa x.path.length pc] 55)
  have hb0 := heap_new w (.cells #[uv root, .int .i64 n, .int .i64 i, .slice la x.leaf.length lc, uv x.salt, .slice pa x.path.length pc] 55)
  have HX0 := hid hx0
  have HB0 := hid hb0
  clear hl hp hx0 hb0
  go_enter Try.func5, Try.ntmps5
  go_wp2_with fail
  refine (HI.out _).mono ?_
  rintro e w1 ⟨b, F, rfl, hat, hx1, hF⟩
  have HAT := hid hat
  have HX1 := hid (HX0.out.trans hx1)
  have HB1 := hid (hx1.heap_some HB0.out)
  have hF0 : ∀ k, F k → w.heap.size ≤ k := fun k hk => Nat.le_trans HX0.out.size (hF k hk)
  have hFb : ¬ F w.heap.size := fun hf => by have := hF _ hf; simp at this; omega
  have HF := hid hF0
  have HFB := hid hFb
  clear hat hx1 hF HI hF0 hFb
  go_wp2_with fail
  refine (HA.out _).mono ?_
  rintro e w2 ⟨rfl, hx2⟩
  have HAT2 := hid (HAT.out.ext hx2)
  have HX2 := hid (HX1.out.trans hx2)
  have hb2 := hx2.heap_some HB1.out
  have c3 : w2.cell? ⟨w.heap.size, 3, none⟩ = some (.slice la x.leaf.length lc) := cell_of hb2 3
  have c4 : w2.cell? ⟨w.heap.size, 4, none⟩ = some (uv x.salt) := cell_of hb2 4
  have c5 : w2.cell? ⟨w.heap.size, 5, none⟩ = some (.slice pa x.path.length pc) := cell_of hb2 5
  have HB2 := hid hb2
  have HSH := hid (short_any x la pa lc pc w2)
  clear hx2 hb2
  go_wp2_with fail
  refine HSH.out.mono ?_
  rintro e w3 ⟨rfl, hx3⟩
  have HX3 := hid (HX2.out.trans hx3)
  cases hs : x.short with
  | false =>
    clear hs hx3 c3 c4 c5
    go_wp2_with fail
    refine (HA.out _).mono ?_
    rintro e w4 ⟨rfl, hx4⟩
    have HX4 := hid (HX3.out.trans hx4)
    clear hx4
    go_wp2_with fail
    go_ret
    exact ⟨rfl, HX4.out⟩
  | true =>
    have hsl : x.leaf.length ≤ 10 ∧ x.path.length ≤ 12 := by
      unfold Opn.short at hs
      simp only [Bool.and_eq_true, decide_eq_true_eq] at hs
      exact hs
    have HSL := hid hsl
    have HAT3 := hid (HAT2.out.ext hx3)
    have hb3 := hx3.heap_some HB2.out
    have hcs : ∀ v, Ext w3 v → v.cell? ⟨w.heap.size, 0, none⟩ = some (uv root) ∧ v.cell? ⟨w.heap.size, 1, none⟩ = some (.int .i64 n) ∧ v.cell? ⟨w.heap.size, 2, none⟩ = some (.int .i64 i) ∧ v.cell? ⟨w.heap.size, 3, none⟩ = some (.slice la x.leaf.length lc) ∧ v.cell? ⟨w.heap.size, 4, none⟩ = some (uv x.salt) ∧ v.cell? ⟨w.heap.size, 5, none⟩ = some (.slice pa x.path.length pc) :=
      fun v k => ⟨k.cell_some (cell_of hb3 0), k.cell_some (cell_of hb3 1), k.cell_some (cell_of hb3 2), k.cell_some (cell_of hb3 3), k.cell_some (cell_of hb3 4), k.cell_some (cell_of hb3 5)⟩
    have HCS := hid hcs
    have HL3 := hid (HL.out.ext HX3.out)
    have HP3 := hid (HP.out.ext HX3.out)
    clear hs hx3 c3 c4 c5 hsl hb3 hcs
    go_wp2_with fail
    refine wp_region_T (fun v => (v.cell? ⟨w.heap.size, 0, none⟩ = some (uv root) ∧ v.cell? ⟨w.heap.size, 1, none⟩ = some (.int .i64 n) ∧ v.cell? ⟨w.heap.size, 2, none⟩ = some (.int .i64 i) ∧ v.cell? ⟨w.heap.size, 3, none⟩ = some (.slice la x.leaf.length lc) ∧ v.cell? ⟨w.heap.size, 4, none⟩ = some (uv x.salt) ∧ v.cell? ⟨w.heap.size, 5, none⟩ = some (.slice pa x.path.length pc)) ∧ Ext w3 v) 10 [(0, true), (1, true), (2, true), (3, true), (4, true), (5, true), (6, true), (7, true), (8, true), (9, false), (10, false), (11, false), (12, false), (13, false), (14, false), (15, false), (16, false), (17, false), (18, false), (19, false), (20, false), (21, false), (22, false), (23, false)] (by kernel_rfl) (by kernel_rfl) (by intro c a d v w h; cases d <;> exact h) ?_
    intro ops hops
    have HS := keep0 HCS.out
    iterate 9
      refine wpT_take (v := ?_) (by rw [hops, List.getElem?_toArray]; rfl) (by first | rfl | (rw [hops]; rfl)) ?_ HS ?_
      rotate_left
      · intro v h; go_simp; with_reducible rfl
      simp only [Act.put, List.getElem_toArray, List.getElem_cons_zero, List.getElem_cons_succ, List.setIfInBounds_toArray, List.set_cons_zero, List.set_cons_succ]
    refine wpT_step (by rw [hops, List.getElem?_toArray]; rfl) (by first | rfl | (rw [hops]; rfl)) ?_
    intro K hK
    go_wp2_with fail
    refine (own12_any (HL3.out.ext (Ext.refl w3).drew) (HP3.out.ext (Ext.refl w3).drew) (by have := HSL.out; omega) (by have := HSL.out; omega)).mono ?_
    rintro e w4 ⟨lf', pv', rfl, ho1, ho2, hx4, hn1, hn2⟩
    have HS4 := keepE HCS.out HS hx4
    obtain ⟨qa, qc, rfl, -⟩ := ownsRow_rd ho1
    obtain ⟨ra, rc, rfl, -⟩ := ownsRow_rd ho2
    have hat4 := HAT3.out.ext ((Ext.refl w3).drew.trans hx4)
    have hft := HAT3.out.foot_lt
    have HVE := hid (mVerify_any (root := root) (n := n) (i := i) (x := x) (lf := .slice qa x.leaf.length qc) (pv := .slice ra x.path.length rc) hat4
      (ownU_stays ho1 fun j hj hf => by have h1 := hn1 j hj; have h2 := hft j hf; have h3 : w3.drew.heap.size = w3.heap.size := rfl; omega)
      (ownU_stays ho2 fun j hj hf => by have h1 := hn2 j hj; have h2 := hft j hf; have h3 : w3.drew.heap.size = w3.heap.size := rfl; omega)
      (by have := HSL.out; omega) (by have := HSL.out; omega) (by simp [Orc.fresh]) (by simp [Orc.fresh]))
    have HX4 := hid (HX3.out.trans ((Ext.refl w3).drew.trans hx4))
    refine hK _ _ ⟨fun _ => HS4, ?_⟩
    clear hK K
    clear hat4 hft ho1 ho2 hx4 hn1 hn2 HS
    refine wpT_step (by rw [hops, List.getElem?_toArray]; rfl) (by first | rfl | (rw [hops]; rfl)) ?_
    intro K hK
    go_wp2_with fail
    refine HVE.out.mono ?_
    rintro e w5 ⟨rfl, F', ht⟩
    rw [fresh_verify]
    rw [verify_ideal rfl] at ht
    have HT := hid ht
    refine hK _ _ ⟨fun h => absurd h (by decide), ?_⟩
    clear hK K
    clear ht HS4
    refine wpT_step (by rw [hops, List.getElem?_toArray]; rfl) (by first | rfl | (rw [hops]; rfl)) ?_
    intro K hK
    go_wp2_with fail
    try (with_reducible refine ⟨fun h => absurd h (by decide), ?_⟩)
    try rw [← hops]
    refine wpT_step (by rw [hops, List.getElem?_toArray]; rfl) (by first | rfl | (rw [hops]; rfl)) ?_
    intro K hK
    go_wp2_with fail
    try (with_reducible refine ⟨fun h => absurd h (by decide), ?_⟩)
    try rw [← hops]
    refine wpT_step (by rw [hops, List.getElem?_toArray]; rfl) (by first | rfl | (rw [hops]; rfl)) ?_
    intro K hK
    go_wp2_with fail
    try (with_reducible refine ⟨fun h => absurd h (by decide), ?_⟩)
    try rw [← hops]
    refine wpT_step (by rw [hops, List.getElem?_toArray]; rfl) (by first | rfl | (rw [hops]; rfl)) ?_
    intro K hK
    go_wp2_with fail
    refine HT.out.at'.draws12.mono ?_
    rintro e w6 ⟨rfl, rfl⟩
    refine hK _ _ ⟨fun h => absurd h (by decide), ?_⟩
    clear hK K
    refine wpT_step (by rw [hops, List.getElem?_toArray]; rfl) (by first | rfl | (rw [hops]; rfl)) ?_
    intro K hK
    go_wp2_with fail
    try (with_reducible refine ⟨fun h => absurd h (by decide), ?_⟩)
    try rw [← hops]
    refine wpT_step (by rw [hops, List.getElem?_toArray]; rfl) (by first | rfl | (rw [hops]; rfl)) ?_
    intro K hK
    go_wp2_with fail
    try (with_reducible refine ⟨fun h => absurd h (by decide), ?_⟩)
    try rw [← hops]
    refine wpT_step (by rw [hops, List.getElem?_toArray]; rfl) (by first | rfl | (rw [hops]; rfl)) ?_
    intro K hK
    go_wp2_with fail
    try (with_reducible refine ⟨fun h => absurd h (by decide), ?_⟩)
    try rw [← hops]
    refine wpT_step (by rw [hops, List.getElem?_toArray]; rfl) (by first | rfl | (rw [hops]; rfl)) ?_
    intro K hK
    go_wp2_with fail
    try (with_reducible refine ⟨fun h => absurd h (by decide), ?_⟩)
    try rw [← hops]
    refine wpT_step (by rw [hops, List.getElem?_toArray]; rfl) (by first | rfl | (rw [hops]; rfl)) ?_
    intro K hK
    go_wp2_with fail
    refine (Questions_any HT.out.at' (by simp [Orc.fresh]) (by simp [Orc.fresh])).mono ?_
    rintro e w7 ⟨v, Q, rfl, hQ, hown, -, hx7, -⟩
    have hQ0 : Q.length = 0 := by
      have := congrArg List.length hQ
      rw [List.length_map] at this
      exact this
    obtain ⟨ga, gc, rfl, -⟩ := ownsRow_rd hown
    rw [hQ0]
    have HX7 := hid (HX4.out.kp HT.out.kp (fun k hk => HF.out k hk))
    have HXX := hid hx7
    clear hQ hown hx7 hQ0
    refine hK _ _ ⟨fun h => absurd h (by decide), ?_⟩
    clear hK K
    refine wpT_step (by rw [hops, List.getElem?_toArray]; rfl) (by first | rfl | (rw [hops]; rfl)) ?_
    intro K hK
    go_wp2_with fail
    try (with_reducible refine ⟨fun h => absurd h (by decide), ?_⟩)
    try rw [← hops]
    refine wpT_step (by rw [hops, List.getElem?_toArray]; rfl) (by first | rfl | (rw [hops]; rfl)) ?_
    intro K hK
    go_wp2_with fail
    try (with_reducible refine ⟨fun h => absurd h (by decide), ?_⟩)
    try rw [← hops]
    refine wpT_step (by rw [hops, List.getElem?_toArray]; rfl) (by first | rfl | (rw [hops]; rfl)) ?_
    intro K hK
    go_wp2_with fail
    try (with_reducible refine ⟨fun h => absurd h (by decide), ?_⟩)
    try rw [← hops]
    refine wpT_step (by rw [hops, List.getElem?_toArray]; rfl) (by first | rfl | (rw [hops]; rfl)) ?_
    intro K hK
    go_wp2_with fail
    try (with_reducible refine ⟨fun h => absurd h (by decide), ?_⟩)
    try rw [← hops]
    rw [wpT_nil]
    clear hops ops
    go_wp2_with fail
    go_ret
    exact ⟨rfl, HX7.out.trans HXX.out⟩
end Go.Proofs.Ytdpgfjnpcjpdpaa
