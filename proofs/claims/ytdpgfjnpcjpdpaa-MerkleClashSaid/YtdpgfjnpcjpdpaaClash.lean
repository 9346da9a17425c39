/- Clash: the last questions on two ways that differ. -/
import Derived.Test.YtdpgfjnpcjpdpaaClashLaw
import Derived.Test.YtdpgfjnpcjpdpaaColl
import Derived.Test.YtdpgfjnpcjpdpaaSame
import Derived.Test.YtdpgfjnpcjpdpaaAwk12
set_option linter.unusedSimpArgs false
namespace Go.Proofs.Ytdpgfjnpcjpdpaa
open Go.RowKit
attribute [local irreducible] perm fAdd fMul fPow fSub fNeg fRed hashU drawOf nextState

set_option maxRecDepth 100000 in
set_option maxHeartbeats 800000 in
theorem Equal_any (av bv : Value) (a b : List UInt64) (w : World) (ha : RdU w av a) (hb : RdU w bv b) (hA : a.length ≤ 1000000000000) (hB : b.length ≤ 1000000000000) :
    Calls Try.prog 104 #[av, bv] w fun e w' => e = .returned (.bool (a == b)) ∧ Ext w w' := by
  have HA := hid ha
  have HB := hid hb
  obtain ⟨aa, ac, rfl, -⟩ := ha
  obtain ⟨ba, bc, rfl, -⟩ := hb
  have hA1 : (a.length : Int) ≤ 1000000000000 := by omega
  go_enter Try.func104, Try.ntmps104
  by_cases hlen : a.length = b.length
  · have hlB : ((a.length : Int) != (b.length : Int)) = false := by simp [hlen]
    have HL := hid hlen
    clear hlen
    go_wp2
    go_loopw [13] (fun iv wr => ∃ i : Nat, i ≤ a.length ∧ iv = .int .i64 i ∧ Hid (a.take i = b.take i) ∧ Ext w wr) (fun iv _ => a.length - (intOf iv).toNat)
    case atStart => exact ⟨0, by omega, rfl, hid rfl, Ext.refl _⟩
    case round =>
      obtain ⟨i, hi, rfl, hI, hE⟩ := hrel
      have HE := hid hE
      clear hE
      by_cases hlt : i < a.length
      · have hlt2 : i < b.length := by rw [← HL.out]; exact hlt
        have hx : a[i]? = some a[i] := List.getElem?_eq_getElem hlt
        have hy : b[i]? = some b[i] := List.getElem?_eq_getElem hlt2
        generalize a[i] = x at *
        generalize b[i] = y at *
        obtain ⟨ab, ao, rfl, hca⟩ := HA.out.at hx
        obtain ⟨bb, bo, rfl, hcb⟩ := HB.out.at hy
        have HX := hid hx
        have HY := hid hy
        have H : ∀ v, Ext w v → v.cell? ⟨ab, ao + i, none⟩ = some (.int .u64 x.toNat) ∧ v.cell? ⟨bb, bo + i, none⟩ = some (.int .u64 y.toNat) := fun v k => ⟨k.cell_some hca, k.cell_some hcb⟩
        have hd : decide ((i : Int) < (a.length : Int)) = true := by simp; omega
        have HS0 : (wr.drew.cell? ⟨ab, ao + i, none⟩ = some (.int .u64 x.toNat) ∧ wr.drew.cell? ⟨bb, bo + i, none⟩ = some (.int .u64 y.toNat)) ∧ Ext w wr.drew := ⟨H _ HE.out.drew, HE.out.drew⟩
        have HH := hid H
        have i1 : (i : Int) < (a.length : Int) := by omega
        have i2 : (i : Int) < (b.length : Int) := by omega
        clear hx hy hca hcb H
        go_wp2_with fail
        refine wp_region_T (fun v => (v.cell? ⟨ab, ao + i, none⟩ = some (.int .u64 x.toNat) ∧ v.cell? ⟨bb, bo + i, none⟩ = some (.int .u64 y.toNat)) ∧ Ext w v) 8 [(0, true), (1, true), (2, true), (3, true), (4, true), (5, true), (6, true), (7, true), (8, false)] (by kernel_rfl) (by kernel_rfl) (by intro c a d v w h; cases d <;> exact h) ?_
        intro ops hops
        iterate 8
          refine wpT_take (v := ?_) (by rw [hops, List.getElem?_toArray]; rfl) (by first | rfl | (rw [hops]; rfl)) ?_ HS0 ?_
          rotate_left
          · intro v h; go_simp; with_reducible rfl
          simp only [Act.put, List.getElem_toArray, List.getElem_cons_zero, List.getElem_cons_succ, List.setIfInBounds_toArray, List.set_cons_zero, List.set_cons_succ]
        by_cases hxy : x = y
        · have hd2 : ((x.toNat : Int) != (y.toNat : Int)) = false := by simp [hxy]
          have HXY := hid hxy
          clear hxy
          refine wpT_step (by rw [hops, List.getElem?_toArray]; rfl) (by first | rfl | (rw [hops]; rfl)) ?_
          intro K hK
          go_wp2_with fail
          refine ⟨fun h => absurd h (by decide), ?_⟩
          rw [wpT_nil]
          clear hops ops
          have hE2 := HS0.2
          have HE2 := hid hE2
          clear hE2 HS0
          go_wp2
          go_roundw
          case rel => exact ⟨i + 1, by omega, by go_num, hid (same_snoc HX.out HY.out hI.out HXY.out), HE2.out⟩
          case measure => simp [intOf]; omega
        · have hd2 : ((x.toNat : Int) != (y.toNat : Int)) = true := by
            simp only [bne_iff_ne, ne_eq]
            intro h; exact hxy (UInt64.toNat_inj.1 (by omega))
          have hfin : (a == b) = false := by
            rw [beq_eq_false_iff_ne]; rintro rfl
            have h1 := HX.out
            rw [HY.out] at h1
            exact hxy (Option.some.inj h1).symm
          have HF := hid hfin
          clear hfin hxy
          refine wpT_step (by rw [hops, List.getElem?_toArray]; rfl) (by first | rfl | (rw [hops]; rfl)) ?_
          intro K hK
          go_wp2_with fail
          refine ⟨fun h => absurd h (by decide), ?_⟩
          rw [wpT_nil]
          clear hops ops
          have hE2 := HS0.2
          have HE2 := hid hE2
          clear hE2 HS0
          go_wp2
          go_ret
          exact ⟨ret_bool HF.out.symm, HE2.out⟩
      · have hi' : i = a.length := by omega
        have hfin : (a == b) = true := by
          have h1 := hI.out
          rw [hi', List.take_length] at h1
          have h2 := HL.out
          rw [h2, List.take_length] at h1
          simpa using h1
        have HF := hid hfin
        have hd : decide ((i : Int) < (a.length : Int)) = false := by simp; omega
        clear hfin
        go_wp2
        go_ret
        exact ⟨ret_bool HF.out.symm, HE.out⟩
  · have hlB : ((a.length : Int) != (b.length : Int)) = true := by simp; omega
    have hfin : (a == b) = false := by
      rw [beq_eq_false_iff_ne]; rintro rfl; exact hlen rfl
    have HF := hid hfin
    clear hfin hlen
    go_wp2
    go_ret
    exact ⟨ret_bool HF.out.symm, Ext.refl _⟩

/-! ## what Clash keeps -/
structure CI (w : World) (b : Nat) (F : Nat → Prop) (M : Orc) (N : Nat) (v : World) (F' : Nat → Prop) : Prop where
  orc : OrcTo w b F M v F'
  b0 : v.heap[N]? = some (.cells #[.int .u64 0, .slice none 0 0, .int .u64 0] 49 (0, 0))
  b1 : v.heap[N + 1]? = some (.cells #[.int .u64 0, .slice none 0 0, .int .u64 0] 49 (0, 0))
  n0 : ¬ F' N
  n1 : ¬ F' (N + 1)
  ge : w.heap.size ≤ N
theorem CI.ext {w v v' : World} {b N : Nat} {F F' : Nat → Prop} {M : Orc} (h : CI w b F M N v F') (k : Ext v v') : CI w b F M N v' F' := ⟨h.orc.ext k, k.heap_some h.b0, k.heap_some h.b1, h.n0, h.n1, h.ge⟩
theorem CI.to {w v v' : World} {b N : Nat} {F F' F'' : Nat → Prop} {M : Orc} (h : CI w b F M N v F') (t : OrcTo v b F' M v' F'') : CI w b F M N v' F'' :=
  ⟨h.orc.trans t, t.kp.heap_some h.n0 h.b0, t.kp.heap_some h.n1 h.b1, t.apart (heap_lt h.b0) h.n0, t.apart (heap_lt h.b1) h.n1, h.ge⟩
theorem CI.cells {w v : World} {b N : Nat} {F F' : Nat → Prop} {M : Orc} (h : CI w b F M N v F') :
    v.cell? ⟨N, 0, none⟩ = some (.int .u64 0) ∧ v.cell? ⟨N, 1, none⟩ = some (.slice none 0 0) ∧ v.cell? ⟨N, 2, none⟩ = some (.int .u64 0) ∧ v.cell? ⟨N + 1, 0, none⟩ = some (.int .u64 0) ∧ v.cell? ⟨N + 1, 1, none⟩ = some (.slice none 0 0) ∧ v.cell? ⟨N + 1, 2, none⟩ = some (.int .u64 0) ∧
      (∀ i, v.frozen? ⟨N, i, none⟩ = false) ∧ ∀ i, v.frozen? ⟨N + 1, i, none⟩ = false :=
  ⟨cell_of h.b0 0, cell_of h.b0 1, cell_of h.b0 2, cell_of h.b1 0, cell_of h.b1 1, cell_of h.b1 2, frozen_of h.b0, frozen_of h.b1⟩
theorem CI.fin {w v : World} {b N : Nat} {F F' : Nat → Prop} {M : Orc} (h : CI w b F M N v F') (x y z x' y' z' : Value) :
    OrcTo w b F M ((((((v.setCell ⟨N, 0, none⟩ x).setCell ⟨N, 1, none⟩ y).setCell ⟨N, 2, none⟩ z).setCell ⟨N + 1, 0, none⟩ x').setCell ⟨N + 1, 1, none⟩ y').setCell ⟨N + 1, 2, none⟩ z') F' ∧
    (((((((v.setCell ⟨N, 0, none⟩ x).setCell ⟨N, 1, none⟩ y).setCell ⟨N, 2, none⟩ z).setCell ⟨N + 1, 0, none⟩ x').setCell ⟨N + 1, 1, none⟩ y').setCell ⟨N + 1, 2, none⟩ z').cell? ⟨N, 0, none⟩ = some x ∧
    ((((((v.setCell ⟨N, 0, none⟩ x).setCell ⟨N, 1, none⟩ y).setCell ⟨N, 2, none⟩ z).setCell ⟨N + 1, 0, none⟩ x').setCell ⟨N + 1, 1, none⟩ y').setCell ⟨N + 1, 2, none⟩ z').cell? ⟨N, 1, none⟩ = some y ∧
    ((((((v.setCell ⟨N, 0, none⟩ x).setCell ⟨N, 1, none⟩ y).setCell ⟨N, 2, none⟩ z).setCell ⟨N + 1, 0, none⟩ x').setCell ⟨N + 1, 1, none⟩ y').setCell ⟨N + 1, 2, none⟩ z').cell? ⟨N, 2, none⟩ = some z ∧
    ((((((v.setCell ⟨N, 0, none⟩ x).setCell ⟨N, 1, none⟩ y).setCell ⟨N, 2, none⟩ z).setCell ⟨N + 1, 0, none⟩ x').setCell ⟨N + 1, 1, none⟩ y').setCell ⟨N + 1, 2, none⟩ z').cell? ⟨N + 1, 0, none⟩ = some x' ∧
    ((((((v.setCell ⟨N, 0, none⟩ x).setCell ⟨N, 1, none⟩ y).setCell ⟨N, 2, none⟩ z).setCell ⟨N + 1, 0, none⟩ x').setCell ⟨N + 1, 1, none⟩ y').setCell ⟨N + 1, 2, none⟩ z').cell? ⟨N + 1, 1, none⟩ = some y' ∧
    ((((((v.setCell ⟨N, 0, none⟩ x).setCell ⟨N, 1, none⟩ y).setCell ⟨N, 2, none⟩ z).setCell ⟨N + 1, 0, none⟩ x').setCell ⟨N + 1, 1, none⟩ y').setCell ⟨N + 1, 2, none⟩ z').cell? ⟨N + 1, 2, none⟩ = some z') ∧
    ∀ (u : Value) (l : List UInt64), OwnU v u l → OwnU ((((((v.setCell ⟨N, 0, none⟩ x).setCell ⟨N, 1, none⟩ y).setCell ⟨N, 2, none⟩ z).setCell ⟨N + 1, 0, none⟩ x').setCell ⟨N + 1, 1, none⟩ y').setCell ⟨N + 1, 2, none⟩ z') u l := by
  obtain ⟨g0, g1, hk⟩ := six_cells h.b0 h.b1 x y z x' y' z'
  refine ⟨h.orc.kpOther hk (by rintro k (rfl | rfl); exact ⟨h.n0, h.ge⟩; exact ⟨h.n1, Nat.le_succ_of_le h.ge⟩), ⟨cell_of g0 0, cell_of g0 1, cell_of g0 2, cell_of g1 0, cell_of g1 1, cell_of g1 2⟩, fun u l hu => ownsRow_kp hu hk fun k hk' hor => ?_⟩
  rcases hor with rfl | rfl
  · exact own_ne hu h.b0 (by decide) hk'
  · exact own_ne hu h.b1 (by decide) hk'

def ClashO (w : World) (b : Nat) (F : Nat → Prop) (M : Orc) (r : Option (Qn × Qn)) (e : Ending) (w' : World) : Prop :=
  (∃ F', OrcTo w b F M w' F') ∧
  ((r = none ∧ e = .returned (.tuple #[.agg #[.int .u64 0, .slice none 0 0, .int .u64 0], .agg #[.int .u64 0, .slice none 0 0, .int .u64 0], .bool false])) ∨
   ∃ p q u v, r = some (p, q) ∧ e = .returned (.tuple #[.agg #[uv p.label, u, uv p.answer], .agg #[uv q.label, v, uv q.answer], .bool true]) ∧ OwnU w' u p.elems ∧ OwnU w' v q.elems)

theorem qrow_at {w : World} {v : Value} {A : List (Qn × Value)} (ho : w.ownsRow 0 49 3 v A.length (qCells A)) {k : Nat} {q : Qn} {u : Value} (h : A[k]? = some (q, u)) :
    ∃ g o c, v = .slice (some ⟨g, o, none⟩) A.length c ∧ w.cell? ⟨g, o + k * 3, none⟩ = some (uv q.label) ∧ w.cell? ⟨g, o + k * 3 + 1, none⟩ = some u ∧ w.cell? ⟨g, o + k * 3 + 2, none⟩ = some (uv q.answer) := by
  obtain ⟨a, c, rfl, h1, h2, h3, h4⟩ := ownsRow_rd ho
  have hk : k < A.length := (List.getElem?_eq_some_iff.1 h).1
  cases a with
  | none => have := h3 rfl; omega
  | some ad =>
    obtain ⟨hs, hh⟩ := h4 ad rfl
    obtain ⟨g, o, s⟩ := ad
    simp only at hs
    subst hs
    obtain ⟨e0, e1, e2⟩ := qCells_at A k q u h
    exact ⟨g, o, c, rfl, hh _ _ e0, by have := hh _ _ e1; rwa [← Nat.add_assoc] at this, by have := hh _ _ e2; rwa [← Nat.add_assoc] at this⟩
theorem folOk_some {r : Option (List Qn) × Orc} {root : UInt64} (h : folOk r root = true) : ∃ l, r.1 = some l ∧ lastA l = root := by
  unfold folOk at h
  obtain ⟨r1, r2⟩ := r
  cases r1 with
  | none => simp at h
  | some l => exact ⟨l, rfl, by simpa using h⟩
/-- What the loop of Clash reads. -/
structure CL (N : Nat) (v : World) (ha va : Value) (A B : List (Qn × Value)) (n : Nat) : Prop where
  la : A.length = n
  lb : B.length = n
  oa : v.ownsRow 0 49 3 ha A.length (qCells A)
  ob : v.ownsRow 0 49 3 va B.length (qCells B)
  ea : ∀ y ∈ A, OwnU v y.2 y.1.elems
  eb : ∀ y ∈ B, OwnU v y.2 y.1.elems
  na : ∀ k, blk ha = some k → N + 1 < k
  nb : ∀ k, blk va = some k → N + 1 < k
def sameFrom (A B : List Qn) (k : Nat) : Prop := ∀ (j : Nat) (a b : Qn), k ≤ j → A[j]? = some a → B[j]? = some b → a.elems = b.elems

set_option maxRecDepth 100000 in
set_option maxHeartbeats 6400000 in
theorem mClash_any {w : World} {b : Nat} {M : Orc} {F : Nat → Prop} {root : UInt64} {n i : Int} {lf pv lf2 pv2 : Value} {x y : Opn} (h : OrcAt w b M F) (hl : Stays F w fun v => RdU' v lf x.leaf) (hp : Stays F w fun v => RdU' v pv x.path)
    (hl2 : Stays F w fun v => RdU' v lf2 y.leaf) (hp2 : Stays F w fun v => RdU' v pv2 y.path)
    (hpl : x.path.length ≤ 40) (hpl2 : y.path.length ≤ 40) (hL : x.leaf.length ≤ 1000000000) (hL2 : y.leaf.length ≤ 1000000000) (hq : M.qs.length ≤ 100000000) (hd : M.draws ≤ 100000000) :
    Calls Try.prog 57 #[.pointer (some ⟨b, 0, none⟩), uv root, .int .i64 n, .int .i64 i, .agg #[lf, uv x.salt, pv], .agg #[lf2, uv y.salt, pv2]] w (ClashO w b F M (M.clash root n i x y)) := by
  obtain ⟨la, lc, rfl, -⟩ := id (hl w (Kp.refl F w))
  obtain ⟨pa, pc, rfl, -⟩ := id (hp w (Kp.refl F w))
  obtain ⟨ma, mc, rfl, -⟩ := id (hl2 w (Kp.refl F w))
  obtain ⟨ra, rc, rfl, -⟩ := id (hp2 w (Kp.refl F w))
  obtain ⟨wa, hwa⟩ : ∃ wa, wa = (w.alloc (.cells #[.slice la x.leaf.length lc, uv x.salt, .slice pa x.path.length pc] 59)).alloc (.cells #[.slice ma y.leaf.length mc, uv y.salt, .slice ra y.path.length rc] 59) := ⟨_, rfl⟩
  have hza : wa.heap.size = w.heap.size + 1 + 1 := by rw [hwa]; simp
  have hxa : Ext w wa := by rw [hwa]; exact ((Ext.refl w).alloc _).alloc _
  have hba : wa.heap[w.heap.size]? = some (.cells #[.slice la x.leaf.length lc, uv x.salt, .slice pa x.path.length pc] 59 (0, 0)) := by rw [hwa]; exact heap_alloc_some (heap_new _ _)
  have hbb : wa.heap[w.heap.size + 1]? = some (.cells #[.slice ma y.leaf.length mc, uv y.salt, .slice ra y.path.length rc] 59 (0, 0)) := by
    rw [hwa]
    have := heap_new (w.alloc (.cells #[.slice la x.leaf.length lc, uv x.salt, .slice pa x.path.length pc] 59)) (.cells #[.slice ma y.leaf.length mc, uv y.salt, .slice ra y.path.length rc] 59)
    rwa [World.size_alloc] at this
  obtain ⟨w0, hw0⟩ : ∃ w0, w0 = (wa.alloc (.cells #[.int .u64 0, .slice none 0 0, .int .u64 0] 49)).alloc (.cells #[.int .u64 0, .slice none 0 0, .int .u64 0] 49) := ⟨_, rfl⟩
  have hx0 : Ext wa w0 := by rw [hw0]; exact ((Ext.refl wa).alloc _).alloc _
  obtain ⟨N, hN⟩ : ∃ N, N = w.heap.size + 1 + 1 := ⟨_, rfl⟩
  have hz0 : w0.heap[N]? = some (.cells #[.int .u64 0, .slice none 0 0, .int .u64 0] 49 (0, 0)) := by
    rw [hw0, hN, ← hza]; exact heap_alloc_some (heap_new _ _)
  have hz1 : w0.heap[N + 1]? = some (.cells #[.int .u64 0, .slice none 0 0, .int .u64 0] 49 (0, 0)) := by
    rw [hw0, hN, ← hza]
    have := heap_new (wa.alloc (.cells #[.int .u64 0, .slice none 0 0, .int .u64 0] 49)) (.cells #[.int .u64 0, .slice none 0 0, .int .u64 0] 49)
    rwa [World.size_alloc] at this
  have hft := h.foot_lt
  have hci : CI w b F M N w0 F := ⟨.of_ext h (hxa.trans hx0), hz0, hz1, fun hf => by have := hft _ hf; omega, fun hf => by have := hft _ hf; omega, by omega⟩
  have hX : ∀ v, Ext w0 v → v.cell? ⟨w.heap.size, 0, none⟩ = some (.slice la x.leaf.length lc) ∧ v.cell? ⟨w.heap.size, 1, none⟩ = some (uv x.salt) ∧ v.cell? ⟨w.heap.size, 2, none⟩ = some (.slice pa x.path.length pc) := fun v k =>
    ⟨cell_of ((hx0.trans k).heap_some hba) 0, cell_of ((hx0.trans k).heap_some hba) 1, cell_of ((hx0.trans k).heap_some hba) 2⟩
  have hY : ∀ v F', Kp F' w0 v → ¬ F' (w.heap.size + 1) → v.cell? ⟨w.heap.size + 1, 0, none⟩ = some (.slice ma y.leaf.length mc) ∧ v.cell? ⟨w.heap.size + 1, 1, none⟩ = some (uv y.salt) ∧ v.cell? ⟨w.heap.size + 1, 2, none⟩ = some (.slice ra y.path.length rc) := fun v F' k hn =>
    ⟨cell_of (k.heap_some hn (hx0.heap_some hbb)) 0, cell_of (k.heap_some hn (hx0.heap_some hbb)) 1, cell_of (k.heap_some hn (hx0.heap_some hbb)) 2⟩
  have hFy : ¬ F (w.heap.size + 1) := fun hf => by have := hft _ hf; omega
  have hpx := possible_any (root := root) (n := n) (i := i) (x := x) (hl _ (Kp.of_ext (hxa.trans hx0))) (hp _ (Kp.of_ext (hxa.trans hx0))) (by omega) hL
  have hpy := fun (v : World) (k : Ext w v) => possible_any (root := root) (n := n) (i := i) (x := y) (hl2 _ (Kp.of_ext k)) (hp2 _ (Kp.of_ext k)) (by omega) hL2
  have hmf : ∀ (fn : Fn) (first cap : Array Value) (w : World), (Instr.makeFunc fn first cap).run Try.prog w = .ok (.func fn first cap) w := fun _ _ _ _ => rfl
  have hcd : M.clash root n i x y = if possible root n i x && possible root n i y then if folOk (M.fol peekF i.toNat x) root && folOk (M.fol peekF i.toNat y) root then clashL ((M.fol peekF i.toNat x).1.getD []) ((M.fol peekF i.toNat y).1.getD []) else none else none := rfl
  obtain ⟨R, hR⟩ : ∃ R, R = M.clash root n i x y := ⟨_, rfl⟩
  rw [← hR] at hcd ⊢
  have HCD := hid hcd
  have HPX := hid hpx
  have HPY := hid hpy
  have HX := hid hX
  have HY := hid hY
  have HFY := hid hFy
  have HCI := hid hci
  have HN := hid hN
  have HXW := hid (hxa.trans hx0)
  have HL := hid hl
  have HP := hid hp
  have HL2 := hid hl2
  have HP2 := hid hp2
  have HPL := hid (And.intro hpl hpl2)
  have HLL := hid (And.intro hL hL2)
  have HQ := hid hq
  have HD := hid hd
  go_enter Try.func57, Try.ntmps57
  try rw [← hwa]
  obtain ⟨e0, e1, e2⟩ := hX w0 (Ext.refl w0)
  clear hcd hpx hpy hX hY hFy hci hxa hx0 hl hp hl2 hp2 hpl hpl2 hL hL2 hq hd hft hba hbb hz0 hz1 hR h
  go_wp2_with fail
  rw [← hwa, ← hw0, ← hN]
  clear hwa hw0 hza hN
  go_wp2_with fail
  refine HPX.out.mono ?_
  rintro e w1 ⟨rfl, hx1⟩
  have HC1 := hid (HCI.out.ext hx1)
  have HX1 := hid hx1
  clear e0 e1 e2
  cases hpo : possible root n i x with
  | false =>
    have HF : Hid (R = none) := hid (by rw [HCD.out, hpo]; rfl)
    clear hpo hx1
    obtain ⟨d00, d01, d02, d10, d11, d12, f0, f1⟩ := HC1.out.cells
    go_wp2
    obtain ⟨ho, ⟨r0, r1, r2, r3, r4, r5⟩, -⟩ := HC1.out.fin (.int .u64 0) (.slice none 0 0) (.int .u64 0) (.int .u64 0) (.slice none 0 0) (.int .u64 0)
    generalize ((((((w1.setCell ⟨N, 0, none⟩ (.int .u64 0)).setCell ⟨N, 1, none⟩ (.slice none 0 0)).setCell ⟨N, 2, none⟩ (.int .u64 0)).setCell ⟨N + 1, 0, none⟩ (.int .u64 0)).setCell ⟨N + 1, 1, none⟩ (.slice none 0 0)).setCell ⟨N + 1, 2, none⟩ (.int .u64 0)) = wf at *
    clear d00 d01 d02 d10 d11 d12 f0 f1
    exact bodyPost_ret (v := .tuple #[.agg #[.int .u64 0, .slice none 0 0, .int .u64 0], .agg #[.int .u64 0, .slice none 0 0, .int .u64 0], .bool false]) (by simp [results, Try.results57, go_sem, r0, r1, r2, r3, r4, r5]) rfl ⟨⟨_, ho⟩, .inl ⟨HF.out, rfl⟩⟩
  | true =>
    have HPO := hid hpo
    obtain ⟨e0, e1, e2⟩ := HY.out w1 F (Kp.of_ext hx1) HFY.out
    clear hpo hx1
    go_wp2_with fail
    refine (HPY.out _ (HXW.out.trans HX1.out)).mono ?_
    rintro e w2 ⟨rfl, hx2⟩
    have HC2 := hid (HC1.out.ext hx2)
    have HX2 := hid (HX1.out.trans hx2)
    clear e0 e1 e2
    cases hpo2 : possible root n i y with
    | false =>
      have HF : Hid (R = none) := hid (by rw [HCD.out, HPO.out, hpo2]; rfl)
      clear hpo2 hx2
      obtain ⟨d00, d01, d02, d10, d11, d12, f0, f1⟩ := HC2.out.cells
      go_wp2
      obtain ⟨ho, ⟨r0, r1, r2, r3, r4, r5⟩, -⟩ := HC2.out.fin (.int .u64 0) (.slice none 0 0) (.int .u64 0) (.int .u64 0) (.slice none 0 0) (.int .u64 0)
      generalize ((((((w2.setCell ⟨N, 0, none⟩ (.int .u64 0)).setCell ⟨N, 1, none⟩ (.slice none 0 0)).setCell ⟨N, 2, none⟩ (.int .u64 0)).setCell ⟨N + 1, 0, none⟩ (.int .u64 0)).setCell ⟨N + 1, 1, none⟩ (.slice none 0 0)).setCell ⟨N + 1, 2, none⟩ (.int .u64 0)) = wf at *
      clear d00 d01 d02 d10 d11 d12 f0 f1
      exact bodyPost_ret (v := .tuple #[.agg #[.int .u64 0, .slice none 0 0, .int .u64 0], .agg #[.int .u64 0, .slice none 0 0, .int .u64 0], .bool false]) (by simp [results, Try.results57, go_sem, r0, r1, r2, r3, r4, r5]) rfl ⟨⟨_, ho⟩, .inl ⟨HF.out, rfl⟩⟩
    | true =>
      obtain ⟨j, hj⟩ := possible_parts HPO.out
      obtain ⟨j', hj'⟩ := possible_parts hpo2
      obtain rfl := hj.eq
      have hlen := possR_len HPO.out hpo2
      have hcd : R = if folOk (M.fol peekF j x) root && folOk (M.fol peekF j y) root then clashL ((M.fol peekF j x).1.getD []) ((M.fol peekF j y).1.getD []) else none := by rw [HCD.out, HPO.out, hpo2]; rfl
      have HCR := hid hcd
      have HJ := hid hj
      have HJ2' := hid hj'.l10
      have HLEN := hid hlen
      obtain ⟨e0, e1, e2⟩ := HX.out w2 HX2.out
      have hat2 : OrcAt w2 b M F := HC2.out.orc.at'
      have hpre := HXW.out.trans HX2.out
      have HFO := hid (follow_peek (root := root) (i := j) (x := x) hat2 (lf := .slice la x.leaf.length lc) (pv := .slice pa x.path.length pc) (fun w' k => HL.out w' ((Kp.of_ext hpre).trans k)) (fun w' k => HP.out w' ((Kp.of_ext hpre).trans k)) HJ.out.l10 HJ.out.j1024 HLL.out.1 HQ.out HD.out)
      clear hpo2 hx2 hj hj' hlen hcd hat2 hpre HPX HPY
      go_wp2_with fail
      refine HFO.out.mono ?_
      rintro e w3 ⟨v3, A, F3, rfl, ht3, ho3, hn3, hs3, hA⟩
      have hMx : (M.fol peekF j x).2 = M := peekF_orc _ _ _ _
      rw [hMx] at ht3
      have HC3 := hid (HC2.out.to ht3)
      have hk3 : Kp F w0 w3 := (Kp.of_ext HX2.out).trans ht3.kp
      obtain ⟨e3, e4, e5⟩ := HY.out w3 F hk3 HFY.out
      have HGO := hid (follow_peek (root := root) (i := j) (x := y) ht3.at' (lf := .slice ma y.leaf.length mc) (pv := .slice ra y.path.length rc) (Stays.to HL2.out HC3.out.orc) (Stays.to HP2.out HC3.out.orc) HJ2'.out HJ.out.j1024 HLL.out.2 HQ.out HD.out)
      have HO3 := hid ho3
      have HN3 := hid hn3
      have HS3 := hid hs3
      have HA := hid hA
      clear e0 e1 e2 ht3 ho3 hn3 hs3 hA hk3 HFO
      go_wp2_with fail
      refine HGO.out.mono ?_
      rintro e w4 ⟨v4, B, F4, rfl, ht4, ho4, hn4, hs4, hB⟩
      have hMy : (M.fol peekF j y).2 = M := peekF_orc _ _ _ _
      rw [hMy] at ht4
      have HC4 := hid (HC3.out.to ht4)
      have HO34 := hid (ownsRow_kp HO3.out ht4.kp fun k hk => (HN3.out k hk).1)
      have HS34 : Hid (∀ y ∈ A, OwnU w4 y.2 y.1.elems) := hid fun y hy => ownsRow_kp (HS3.out y hy).1 ht4.kp fun k hk => ((HS3.out y hy).2 k hk).1
      have HO4 := hid ho4
      have HN4 := hid hn4
      have HS4 : Hid (∀ y ∈ B, OwnU w4 y.2 y.1.elems) := hid fun y hy => (hs4 y hy).1
      have HB := hid hB
      clear e3 e4 e5 ht4 ho4 hn4 hs4 hB HGO
      cases hox : folOk (M.fol peekF j x) root with
      | false =>
        have HF : Hid (R = none) := hid (by rw [HCR.out, hox]; rfl)
        clear hox
        obtain ⟨d00, d01, d02, d10, d11, d12, f0, f1⟩ := HC4.out.cells
        go_wp2
        obtain ⟨ho, ⟨r0, r1, r2, r3, r4, r5⟩, -⟩ := HC4.out.fin (.int .u64 0) (.slice none 0 0) (.int .u64 0) (.int .u64 0) (.slice none 0 0) (.int .u64 0)
        generalize ((((((w4.setCell ⟨N, 0, none⟩ (.int .u64 0)).setCell ⟨N, 1, none⟩ (.slice none 0 0)).setCell ⟨N, 2, none⟩ (.int .u64 0)).setCell ⟨N + 1, 0, none⟩ (.int .u64 0)).setCell ⟨N + 1, 1, none⟩ (.slice none 0 0)).setCell ⟨N + 1, 2, none⟩ (.int .u64 0)) = wf at *
        clear d00 d01 d02 d10 d11 d12 f0 f1
        exact bodyPost_ret (v := .tuple #[.agg #[.int .u64 0, .slice none 0 0, .int .u64 0], .agg #[.int .u64 0, .slice none 0 0, .int .u64 0], .bool false]) (by simp [results, Try.results57, go_sem, r0, r1, r2, r3, r4, r5]) rfl ⟨⟨_, ho⟩, .inl ⟨HF.out, rfl⟩⟩
      | true =>
        have HOX := hid hox
        clear hox
        cases hoy : folOk (M.fol peekF j y) root with
        | false =>
          have HF : Hid (R = none) := hid (by rw [HCR.out, HOX.out, hoy]; rfl)
          clear hoy
          obtain ⟨d00, d01, d02, d10, d11, d12, f0, f1⟩ := HC4.out.cells
          go_wp2
          obtain ⟨ho, ⟨r0, r1, r2, r3, r4, r5⟩, -⟩ := HC4.out.fin (.int .u64 0) (.slice none 0 0) (.int .u64 0) (.int .u64 0) (.slice none 0 0) (.int .u64 0)
          generalize ((((((w4.setCell ⟨N, 0, none⟩ (.int .u64 0)).setCell ⟨N, 1, none⟩ (.slice none 0 0)).setCell ⟨N, 2, none⟩ (.int .u64 0)).setCell ⟨N + 1, 0, none⟩ (.int .u64 0)).setCell ⟨N + 1, 1, none⟩ (.slice none 0 0)).setCell ⟨N + 1, 2, none⟩ (.int .u64 0)) = wf at *
          clear d00 d01 d02 d10 d11 d12 f0 f1
          exact bodyPost_ret (v := .tuple #[.agg #[.int .u64 0, .slice none 0 0, .int .u64 0], .agg #[.int .u64 0, .slice none 0 0, .int .u64 0], .bool false]) (by simp [results, Try.results57, go_sem, r0, r1, r2, r3, r4, r5]) rfl ⟨⟨_, ho⟩, .inl ⟨HF.out, rfl⟩⟩
        | true =>
          have hRL : R = clashL (A.map (·.1)) (B.map (·.1)) := by rw [HCR.out, HOX.out, hoy, HA.out, HB.out]; rfl
          obtain ⟨qa, hqa, -⟩ := folOk_some HOX.out
          obtain ⟨qb, hqb, -⟩ := folOk_some hoy
          have hla := (fol_peek_all x.path j M _ qa M (Prod.ext hqa hMx)).1
          have hlb := (fol_peek_all y.path j M _ qb M (Prod.ext hqb hMy)).1
          have hlA : A.length = x.path.length + 1 := by have h1 := congrArg List.length HA.out; rw [hqa, List.length_map] at h1; rw [h1]; exact hla
          have hlB : B.length = x.path.length + 1 := by have h1 := congrArg List.length HB.out; rw [hqb, List.length_map] at h1; rw [h1, HLEN.out]; exact hlb
          have hcl : CL N w4 v3 v4 A B (x.path.length + 1) := ⟨hlA, hlB, HO34.out, HO4.out, HS34.out, HS4.out, fun k hk => Nat.lt_of_lt_of_le (heap_lt HC2.out.b1) (HN3.out k hk).2, fun k hk => Nat.lt_of_lt_of_le (heap_lt HC3.out.b1) (HN4.out k hk).2⟩
          have hea := fol_elems x.path j M _ qa M (Prod.ext hqa hMx) (by have := HLL.out.1; simp; omega)
          have heb := fol_elems y.path j M _ qb M (Prod.ext hqb hMy) (by have := HLL.out.2; simp; omega)
          have hAq : A.map (·.1) = qa := HA.out.trans (by rw [hqa]; rfl)
          have hBq : B.map (·.1) = qb := HB.out.trans (by rw [hqb]; rfl)
          rw [← hAq] at hea
          rw [← hBq] at heb
          have HRL := hid hRL
          have HCL := hid hcl
          have HEA := hid hea
          have HEB := hid heb
          obtain ⟨v3a, v3c, rfl, -⟩ := ownsRow_rd HO34.out
          obtain ⟨v4a, v4c, rfl, -⟩ := ownsRow_rd HO4.out
          have hlenA : (A.length : Int) = (x.path.length : Int) + 1 := by omega
          obtain ⟨n, hn⟩ : ∃ n : Nat, n = x.path.length + 1 := ⟨_, rfl⟩
          have hn10 : n ≤ 11 := by have := HJ.out.l10; omega
          rw [← hn] at HCL
          have hAn : A.length = n := by omega
          have hBn : B.length = n := by omega
          rw [hAn, hBn]
          rw [hAn, hBn] at HCL
          have HAN := hid hAn
          have HBN := hid hBn
          have hn1 : 1 ≤ (n : Int) := by omega
          have hn2 : (n : Int) ≤ 11 := by omega
          clear hoy hRL hAq hBq hea heb hqa hqb hla hlb hlA hlB hcl hlenA hn hAn hBn qa qb HO34 HO4 HS34 HS4 HO3 HN3 HS3
          go_wp2_with fail
          go_loopw [19] (fun iv wr => ∃ k : Nat, k ≤ n ∧ iv = .int .i64 ((k : Int) - 1) ∧ Hid (sameFrom (A.map (·.1)) (B.map (·.1)) k) ∧ Hid (Ext w4 wr)) (fun iv _ => (intOf iv + 1).toNat)
          case atStart => exact ⟨n, Nat.le_refl _, by go_num, hid (fun jj a b hjj ha _ => by rw [List.getElem?_map] at ha; rw [List.getElem?_eq_none (by have := HAN.out; omega)] at ha; cases ha), hid (Ext.refl _)⟩
          case round =>
            obtain ⟨k, hk, rfl, HSF, HX4⟩ := hrel
            by_cases hk0 : k = 0
            · subst hk0
              rw [show (((0 : Nat) : Int) - 1) = -1 by omega]
              have HC5 := hid (HC4.out.ext HX4.out)
              have HF : Hid (R = none) := hid (by
                rw [HRL.out]
                exact clash_none _ _ (by rw [List.length_map, List.length_map, HAN.out, HBN.out]) fun jj a b ha hb => HSF.out jj a b (Nat.zero_le _) ha hb)
              obtain ⟨d00, d01, d02, d10, d11, d12, f0, f1⟩ := HC5.out.cells
              go_wp2
              obtain ⟨ho, ⟨r0, r1, r2, r3, r4, r5⟩, -⟩ := HC5.out.fin (.int .u64 0) (.slice none 0 0) (.int .u64 0) (.int .u64 0) (.slice none 0 0) (.int .u64 0)
              generalize ((((((wr.setCell ⟨N, 0, none⟩ (.int .u64 0)).setCell ⟨N, 1, none⟩ (.slice none 0 0)).setCell ⟨N, 2, none⟩ (.int .u64 0)).setCell ⟨N + 1, 0, none⟩ (.int .u64 0)).setCell ⟨N + 1, 1, none⟩ (.slice none 0 0)).setCell ⟨N + 1, 2, none⟩ (.int .u64 0)) = wf at *
              clear d00 d01 d02 d10 d11 d12 f0 f1
              exact bodyPost_ret (v := .tuple #[.agg #[.int .u64 0, .slice none 0 0, .int .u64 0], .agg #[.int .u64 0, .slice none 0 0, .int .u64 0], .bool false]) (by simp [results, Try.results57, go_sem, r0, r1, r2, r3, r4, r5]) rfl ⟨⟨_, ho⟩, .inl ⟨HF.out, rfl⟩⟩
            · obtain ⟨m, rfl⟩ : ∃ m, k = m + 1 := ⟨k - 1, by omega⟩
              rw [show (((m + 1 : Nat) : Int) - 1) = (m : Int) by omega]
              obtain ⟨⟨p, u⟩, hp⟩ : ∃ z, A[m]? = some z := ⟨_, List.getElem?_eq_getElem (by have := HAN.out; omega)⟩
              obtain ⟨⟨q, v⟩, hq⟩ : ∃ z, B[m]? = some z := ⟨_, List.getElem?_eq_getElem (by have := HBN.out; omega)⟩
              have hpu := HCL.out.ea _ (List.mem_of_getElem? hp)
              have hqv := HCL.out.eb _ (List.mem_of_getElem? hq)
              obtain ⟨ua, uc, hue, -⟩ := ownsRow_rd hpu
              obtain ⟨va, vc, hve, -⟩ := ownsRow_rd hqv
              simp only at hue hve
              subst hue hve
              obtain ⟨g, o, c, he, a0, a1, a2⟩ := qrow_at HCL.out.oa hp
              injection he with he1 he2 he3
              clear he2 he3
              subst he1
              obtain ⟨g', o', c', he', b0, b1, b2⟩ := qrow_at HCL.out.ob hq
              injection he' with he1' he2 he3
              clear he2 he3
              subst he1'
              have hpA : (A.map (·.1))[m]? = some p := by rw [List.getElem?_map, hp]; rfl
              have hqB : (B.map (·.1))[m]? = some q := by rw [List.getElem?_map, hq]; rfl
              have HPU := hid hpu
              have HQV := hid hqv
              have HPA := hid hpA
              have HQB := hid hqB
              have hce : ∀ v, Ext w4 v → (v.cell? ⟨g, o + m * 3, none⟩ = some (uv p.label) ∧ v.cell? ⟨g, o + m * 3 + 1, none⟩ = some (.slice ua p.elems.length uc) ∧ v.cell? ⟨g, o + m * 3 + 2, none⟩ = some (uv p.answer)) ∧ (v.cell? ⟨g', o' + m * 3, none⟩ = some (uv q.label) ∧ v.cell? ⟨g', o' + m * 3 + 1, none⟩ = some (.slice va q.elems.length vc) ∧ v.cell? ⟨g', o' + m * 3 + 2, none⟩ = some (uv q.answer)) := fun v k => ⟨⟨k.cell_some a0, k.cell_some a1, k.cell_some a2⟩, k.cell_some b0, k.cell_some b1, k.cell_some b2⟩
              have HCE := hid hce
              have hm0 : (0 : Int) ≤ (m : Int) := by omega
              have hm1 : (m : Int) < (n : Int) := by omega
              clear hp hq hpu hqv a0 a1 a2 b0 b1 b2 hpA hqB hce
              go_wp2_with fail
              refine wp_region_T (fun v => ((v.cell? ⟨g, o + m * 3, none⟩ = some (uv p.label) ∧ v.cell? ⟨g, o + m * 3 + 1, none⟩ = some (.slice ua p.elems.length uc) ∧ v.cell? ⟨g, o + m * 3 + 2, none⟩ = some (uv p.answer)) ∧ (v.cell? ⟨g', o' + m * 3, none⟩ = some (uv q.label) ∧ v.cell? ⟨g', o' + m * 3 + 1, none⟩ = some (.slice va q.elems.length vc) ∧ v.cell? ⟨g', o' + m * 3 + 2, none⟩ = some (uv q.answer))) ∧ Ext w4 v) 10 [(0, true), (1, true), (2, true), (3, true), (4, true), (5, true), (6, true), (7, true), (8, true), (9, true), (10, false), (11, false)] (by kernel_rfl) (by kernel_rfl) (by intro c a d v w h; cases d <;> exact h) ?_
              intro ops hops
              have HS := (And.intro (HCE.out _ HX4.out.drew) HX4.out.drew : ((wr.drew.cell? ⟨g, o + m * 3, none⟩ = some (uv p.label) ∧ wr.drew.cell? ⟨g, o + m * 3 + 1, none⟩ = some (.slice ua p.elems.length uc) ∧ wr.drew.cell? ⟨g, o + m * 3 + 2, none⟩ = some (uv p.answer)) ∧ (wr.drew.cell? ⟨g', o' + m * 3, none⟩ = some (uv q.label) ∧ wr.drew.cell? ⟨g', o' + m * 3 + 1, none⟩ = some (.slice va q.elems.length vc) ∧ wr.drew.cell? ⟨g', o' + m * 3 + 2, none⟩ = some (uv q.answer))) ∧ Ext w4 wr.drew)
              iterate 10
                refine wpT_take (v := ?_) (by rw [hops, List.getElem?_toArray]; rfl) (by first | rfl | (rw [hops]; rfl)) ?_ HS ?_
                rotate_left
                · intro v h; go_simp; with_reducible rfl
                simp only [Act.put, List.getElem_toArray, List.getElem_cons_zero, List.getElem_cons_succ, List.setIfInBounds_toArray, List.set_cons_zero, List.set_cons_succ]
              have hx5' := HS.2
              clear HS
              refine wpT_step (by rw [hops, List.getElem?_toArray]; rfl) (by first | rfl | (rw [hops]; rfl)) ?_
              intro K hK
              go_wp2_with fail
              refine (Equal_any _ _ p.elems q.elems _ (HPU.out.rdu.ext hx5') (HQV.out.rdu.ext hx5') (by have := HEA.out p (List.mem_of_getElem? HPA.out); omega) (by have := HEB.out q (List.mem_of_getElem? HQB.out); omega)).mono ?_
              rintro e w5 ⟨rfl, hx5⟩
              have HX5 := hid (hx5'.trans hx5)
              clear hx5 hx5'
              refine hK _ _ ⟨fun h => absurd h (by decide), ?_⟩
              clear hK K
              cases hpq : p.elems == q.elems with
              | true =>
                have HPQ : Hid (p.elems = q.elems) := hid (by simpa using hpq)
                clear hpq
                refine wpT_step (by rw [hops, List.getElem?_toArray]; rfl) (by first | rfl | (rw [hops]; rfl)) ?_
                intro K hK
                go_wp2_with fail
                try (with_reducible refine ⟨fun h => absurd h (by decide), ?_⟩)
                try rw [← hops]
                rw [wpT_nil]
                clear hops ops
                go_wp2_with fail
                go_roundw
                case rel =>
                  refine ⟨m, by omega, by go_num, hid fun jj a b hjj ha hb => ?_, HX5⟩
                  rcases Nat.lt_or_ge m jj with h1 | h1
                  · exact HSF.out jj a b h1 ha hb
                  · obtain rfl : jj = m := by omega
                    obtain rfl := Option.some.inj (HPA.out.symm.trans ha)
                    obtain rfl := Option.some.inj (HQB.out.symm.trans hb)
                    exact HPQ.out
                case measure => simp [intOf]
              | false =>
                have HPQ : Hid (p.elems ≠ q.elems) := hid (by intro h; rw [h] at hpq; simp at hpq)
                clear hpq
                refine wpT_step (by rw [hops, List.getElem?_toArray]; rfl) (by first | rfl | (rw [hops]; rfl)) ?_
                intro K hK
                go_wp2_with fail
                try (with_reducible refine ⟨fun h => absurd h (by decide), ?_⟩)
                try rw [← hops]
                rw [wpT_nil]
                clear hops ops
                go_wp2_with fail
                refine wp_region_T (fun v => (v.cell? ⟨g, o + m * 3, none⟩ = some (uv p.label) ∧ v.cell? ⟨g, o + m * 3 + 1, none⟩ = some (.slice ua p.elems.length uc) ∧ v.cell? ⟨g, o + m * 3 + 2, none⟩ = some (uv p.answer)) ∧ (v.cell? ⟨g', o' + m * 3, none⟩ = some (uv q.label) ∧ v.cell? ⟨g', o' + m * 3 + 1, none⟩ = some (.slice va q.elems.length vc) ∧ v.cell? ⟨g', o' + m * 3 + 2, none⟩ = some (uv q.answer))) 9 [(0, true), (1, true), (2, true), (3, true), (4, true), (5, true), (6, true), (7, true), (8, false), (9, false), (10, false)] (by kernel_rfl) (by kernel_rfl) (by intro c a d v w h; cases d <;> exact h) ?_
                intro ops hops
                have HS := (HCE.out _ HX5.out.drew : (w5.drew.cell? ⟨g, o + m * 3, none⟩ = some (uv p.label) ∧ w5.drew.cell? ⟨g, o + m * 3 + 1, none⟩ = some (.slice ua p.elems.length uc) ∧ w5.drew.cell? ⟨g, o + m * 3 + 2, none⟩ = some (uv p.answer)) ∧ (w5.drew.cell? ⟨g', o' + m * 3, none⟩ = some (uv q.label) ∧ w5.drew.cell? ⟨g', o' + m * 3 + 1, none⟩ = some (.slice va q.elems.length vc) ∧ w5.drew.cell? ⟨g', o' + m * 3 + 2, none⟩ = some (uv q.answer)))
                iterate 8
                  refine wpT_take (v := ?_) (by rw [hops, List.getElem?_toArray]; rfl) (by first | rfl | (rw [hops]; rfl)) ?_ HS ?_
                  rotate_left
                  · intro v h; go_simp; with_reducible rfl
                  simp only [Act.put, List.getElem_toArray, List.getElem_cons_zero, List.getElem_cons_succ, List.setIfInBounds_toArray, List.set_cons_zero, List.set_cons_succ]
                have HC6 := hid (HC4.out.ext HX5.out.drew)
                have HX6 := hid HX5.out.drew
                clear HS
                generalize w5.drew = w6 at *
                obtain ⟨d00, d01, d02, d10, d11, d12, f0, f1⟩ := HC6.out.cells
                have hgN := HCL.out.na g rfl
                have hgN' := HCL.out.nb g' rfl
                have hks : Kp (fun k => k = N) w6 (((w6.setCell ⟨N, 0, none⟩ (uv p.label)).setCell ⟨N, 1, none⟩ (.slice ua p.elems.length uc)).setCell ⟨N, 2, none⟩ (uv p.answer)) := (((Kp.refl (fun k => k = N) w6).setCell (p := ⟨N, 0, none⟩) (.inl rfl) _).setCell (p := ⟨N, 1, none⟩) (.inl rfl) _).setCell (p := ⟨N, 2, none⟩) (.inl rfl) _
                have hc6 := HCE.out _ HX6.out
                have hs2 := And.intro (And.intro (hks.cell_some (show ¬ g = N by omega) hc6.1.1) (And.intro (hks.cell_some (show ¬ g = N by omega) hc6.1.2.1) (hks.cell_some (show ¬ g = N by omega) hc6.1.2.2))) (And.intro (hks.cell_some (show ¬ g' = N by omega) hc6.2.1) (And.intro (hks.cell_some (show ¬ g' = N by omega) hc6.2.2.1) (hks.cell_some (show ¬ g' = N by omega) hc6.2.2.2)))
                have HSS := hid hs2
                clear hgN hgN' hks hc6 hs2
                have HPW := hid (ownsRow_ext HPU.out HX6.out)
                have HQW := hid (ownsRow_ext HQV.out HX6.out)
                refine wpT_step (by rw [hops, List.getElem?_toArray]; rfl) (by first | rfl | (rw [hops]; rfl)) ?_
                intro K hK
                go_wp2_with fail
                refine ⟨fun _ => HSS.out, ?_⟩
                refine wpT_step (by rw [hops, List.getElem?_toArray]; rfl) (by first | rfl | (rw [hops]; rfl)) ?_
                intro K hK
                go_wp2_with fail
                refine ⟨fun h => absurd h (by decide), ?_⟩
                refine wpT_step (by rw [hops, List.getElem?_toArray]; rfl) (by first | rfl | (rw [hops]; rfl)) ?_
                intro K hK
                go_wp2_with fail
                refine ⟨fun h => absurd h (by decide), ?_⟩
                rw [wpT_nil]
                clear hops ops
                go_wp2_with fail
                obtain ⟨ho, ⟨r0, r1, r2, r3, r4, r5⟩, how⟩ := HC6.out.fin (uv p.label) (.slice ua p.elems.length uc) (uv p.answer) (uv q.label) (.slice va q.elems.length vc) (uv q.answer)
                have hv1 := how _ _ HPW.out
                have hv2 := how _ _ HQW.out
                generalize ((((((w6.setCell ⟨N, 0, none⟩ (uv p.label)).setCell ⟨N, 1, none⟩ (.slice ua p.elems.length uc)).setCell ⟨N, 2, none⟩ (uv p.answer)).setCell ⟨N + 1, 0, none⟩ (uv q.label)).setCell ⟨N + 1, 1, none⟩ (.slice va q.elems.length vc)).setCell ⟨N + 1, 2, none⟩ (uv q.answer)) = wf at *
                clear d00 d01 d02 d10 d11 d12 f0 f1
                have hfin : R = some (p, q) := by
                  rw [HRL.out]
                  exact clash_some _ _ m p q (by rw [List.length_map, List.length_map, HAN.out, HBN.out]) HPA.out HQB.out HPQ.out fun jj a b hjj ha hb => HSF.out jj a b hjj ha hb
                exact bodyPost_ret (v := .tuple #[.agg #[uv p.label, .slice ua p.elems.length uc, uv p.answer], .agg #[uv q.label, .slice va q.elems.length vc, uv q.answer], .bool true]) (by simp [results, Try.results57, go_sem, r0, r1, r2, r3, r4, r5]) rfl ⟨⟨_, ho⟩, .inr ⟨p, q, _, _, hfin, rfl, hv1, hv2⟩⟩
end Go.Proofs.Ytdpgfjnpcjpdpaa
