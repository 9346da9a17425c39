/- Texts of this claim, joined: WalSp, R37p, Same01. -/
import Derived.Test.YtcikjcjfcanloaaGreatJa14
import Derived.Test.YtcikjcjfcanloaaGreatJa15
import Derived.Test.YtcikjcjfcanloaaGreatJa25
import Derived.Test.YtcikjcjfcanloaaGreatJa16
import Derived.Test.YtcikjcjfcanloaaGreatJb1
set_option linter.unusedSimpArgs false
namespace Go.Proofs.YtcikjcjfcanloaaGreat
open Go.RowKit
attribute [local irreducible] perm fAdd fMul fPow fSub fNeg fRed hashU
def spHit (p : Int) (x : OwT) : Prop := (x.pos : Int) = p ∧ x.spent = 0
/-- What Spent answers. -/
def SpentP (w : World) (d : Nat) (key : UInt64) (L : List UInt64) (ns : List OwT) (p : Int) (e : Ending) (w' : World) : Prop :=
  (∃ x pv, x ∈ ns ∧ spHit p x ∧ e = .returned (.tuple #[.agg #[uv x.note.value, uv x.note.owner, uv x.note.rho, uv x.note.blind, uv key, .int .i64 (x.number : Int), .int .i64 p, pv, .bool false], .int .i64 0]) ∧ OwnU w' pv (pathU d L x.pos) ∧ Ext w w' ∧ ∀ k, blk pv = some k → w.heap.size ≤ k)
  ∨ ((∀ x ∈ ns, ¬ spHit p x) ∧ e = .returned (.tuple #[.agg #[.int .u64 0, .int .u64 0, .int .u64 0, .int .u64 0, .int .u64 0, .int .i64 0, .int .i64 0, .slice none 0 0, .bool false], .int .i64 4]) ∧ Ext w w')
abbrev spZero : Array Value := #[.int .u64 0, .int .u64 0, .int .u64 0, .int .u64 0, .int .u64 0, .int .i64 0, .int .i64 0, .slice none 0 0, .bool false]
theorem nine_set {w : World} {N : Nat} {c0 c1 c2 c3 c4 c5 c6 c7 c8 d0 d1 d2 d3 d4 d5 d6 d7 d8 : Value} {T : TypeId} (h : w.heap[N]? = some (.cells #[c0, c1, c2, c3, c4, c5, c6, c7, c8] T (0, 0))) :
    (((((((((w.setCell ⟨N, 0, none⟩ d0).setCell ⟨N, 1, none⟩ d1).setCell ⟨N, 2, none⟩ d2).setCell ⟨N, 3, none⟩ d3).setCell ⟨N, 4, none⟩ d4).setCell ⟨N, 5, none⟩ d5).setCell ⟨N, 6, none⟩ d6).setCell ⟨N, 7, none⟩ d7).setCell ⟨N, 8, none⟩ d8).heap[N]? = some (.cells #[d0, d1, d2, d3, d4, d5, d6, d7, d8] T (0, 0)) ∧ Kp (fun j => j = N) w (((((((((w.setCell ⟨N, 0, none⟩ d0).setCell ⟨N, 1, none⟩ d1).setCell ⟨N, 2, none⟩ d2).setCell ⟨N, 3, none⟩ d3).setCell ⟨N, 4, none⟩ d4).setCell ⟨N, 5, none⟩ d5).setCell ⟨N, 6, none⟩ d6).setCell ⟨N, 7, none⟩ d7).setCell ⟨N, 8, none⟩ d8) := by
  have k := Kp.refl (fun j => j = N) w
  have h0 : (w.setCell ⟨N, 0, none⟩ d0).heap[N]? = some (.cells #[d0, c1, c2, c3, c4, c5, c6, c7, c8] T (0, 0)) := heap_setCell_same h 0 d0
  have k := k.setCell (p := ⟨N, 0, none⟩) (.inl rfl) d0
  generalize w.setCell ⟨N, 0, none⟩ d0 = w1 at h0 k ⊢
  have h1 : (w1.setCell ⟨N, 1, none⟩ d1).heap[N]? = some (.cells #[d0, d1, c2, c3, c4, c5, c6, c7, c8] T (0, 0)) := heap_setCell_same h0 1 d1
  have k := k.setCell (p := ⟨N, 1, none⟩) (.inl rfl) d1
  generalize w1.setCell ⟨N, 1, none⟩ d1 = w2 at h1 k ⊢
  have h2 : (w2.setCell ⟨N, 2, none⟩ d2).heap[N]? = some (.cells #[d0, d1, d2, c3, c4, c5, c6, c7, c8] T (0, 0)) := heap_setCell_same h1 2 d2
  have k := k.setCell (p := ⟨N, 2, none⟩) (.inl rfl) d2
  generalize w2.setCell ⟨N, 2, none⟩ d2 = w3 at h2 k ⊢
  have h3 : (w3.setCell ⟨N, 3, none⟩ d3).heap[N]? = some (.cells #[d0, d1, d2, d3, c4, c5, c6, c7, c8] T (0, 0)) := heap_setCell_same h2 3 d3
  have k := k.setCell (p := ⟨N, 3, none⟩) (.inl rfl) d3
  generalize w3.setCell ⟨N, 3, none⟩ d3 = w4 at h3 k ⊢
  have h4 : (w4.setCell ⟨N, 4, none⟩ d4).heap[N]? = some (.cells #[d0, d1, d2, d3, d4, c5, c6, c7, c8] T (0, 0)) := heap_setCell_same h3 4 d4
  have k := k.setCell (p := ⟨N, 4, none⟩) (.inl rfl) d4
  generalize w4.setCell ⟨N, 4, none⟩ d4 = w5 at h4 k ⊢
  have h5 : (w5.setCell ⟨N, 5, none⟩ d5).heap[N]? = some (.cells #[d0, d1, d2, d3, d4, d5, c6, c7, c8] T (0, 0)) := heap_setCell_same h4 5 d5
  have k := k.setCell (p := ⟨N, 5, none⟩) (.inl rfl) d5
  generalize w5.setCell ⟨N, 5, none⟩ d5 = w6 at h5 k ⊢
  have h6 : (w6.setCell ⟨N, 6, none⟩ d6).heap[N]? = some (.cells #[d0, d1, d2, d3, d4, d5, d6, c7, c8] T (0, 0)) := heap_setCell_same h5 6 d6
  have k := k.setCell (p := ⟨N, 6, none⟩) (.inl rfl) d6
  generalize w6.setCell ⟨N, 6, none⟩ d6 = w7 at h6 k ⊢
  have h7 : (w7.setCell ⟨N, 7, none⟩ d7).heap[N]? = some (.cells #[d0, d1, d2, d3, d4, d5, d6, d7, c8] T (0, 0)) := heap_setCell_same h6 7 d7
  have k := k.setCell (p := ⟨N, 7, none⟩) (.inl rfl) d7
  generalize w7.setCell ⟨N, 7, none⟩ d7 = w8 at h7 k ⊢
  have h8 : (w8.setCell ⟨N, 8, none⟩ d8).heap[N]? = some (.cells #[d0, d1, d2, d3, d4, d5, d6, d7, d8] T (0, 0)) := heap_setCell_same h7 8 d8
  have k := k.setCell (p := ⟨N, 8, none⟩) (.inl rfl) d8
  exact ⟨h8, k⟩
set_option maxRecDepth 100000 in
set_option maxHeartbeats 12800000 in
theorem walSpent_any {w : World} {W d : Nat} {r : Rl} {seed : UInt64} {L : List UInt64} {ns : List OwT} {ps : List (ScT × Value)} {ob LB : Nat} {nv pv : Value} {FO FT A : Nat → Prop} (h : WalIn w W d r seed L ns ps ob LB nv pv FO FT A) (hn : ns.length ≤ 10000) (hL : L.length ≤ 10000) (hps : ∀ x ∈ ns, x.pos < L.length) (p : Int) :
    Calls Tryz.prog 34 #[.pointer (some ⟨W, 0, none⟩), .int .i64 p] w (SpentP w d (kSpend seed) L ns p) := by
  obtain ⟨na, nc, rfl, -⟩ := ownsRow_rd h.notes
  have HO := hid h.notes
  have HCW : Hid (∀ u, Ext w u → u.cell? ⟨W, 11, none⟩ = some (uv (kSpend seed)) ∧ u.cell? ⟨W, 12, none⟩ = some (.pointer (some ⟨LB, 0, none⟩)) ∧ u.cell? ⟨W, 13, none⟩ = some (.slice na ns.length nc)) := hid fun u k => by
    obtain ⟨-, -, -, e3, e4, e5, -⟩ := (h.ext k).cells
    exact ⟨e3, e4, e5⟩
  have PT : Hid (∀ u (q : Nat), Ext w u → q < L.length → Calls Tryz.prog 77 #[.pointer (some ⟨LB, 0, none⟩), .int .i64 (q : Int)] u fun e w' => ∃ v, e = .returned (.tuple #[v, .int .i64 0]) ∧ OwnU w' v (pathU d L q) ∧ Ext u w' ∧ ∀ k, blk v = some k → u.heap.size ≤ k) := hid fun u q k hq => treePath_any (h.tree.ext k) h.dep.2.1 h.dep.2.2 (by omega) q hq
  have HPS := hid hps
  have hnI : (ns.length : Int) ≤ 10000 := by omega
  generalize kSpend seed = key at *
  clear h hn hL hps
  obtain ⟨N, hN⟩ : ∃ N, N = w.heap.size := ⟨_, rfl⟩
  obtain ⟨w0, hw0⟩ : ∃ w0, w0 = w.alloc (.cells spZero 61) := ⟨_, rfl⟩
  have hx0 : Ext w w0 := by rw [hw0]; exact (Ext.refl w).alloc _
  have hb0 : w0.heap[N]? = some (.cells spZero 61 (0, 0)) := by rw [hw0, hN]; exact heap_new _ _
  have HX0 := hid hx0
  have HB0 := hid hb0
  have HW := hid hw0
  have HNN : Hid (w.heap.size ≤ N) := hid (by omega)
  clear hw0 hx0 hb0
  go_enter Tryz.func34, Tryz.ntmps34
  go_upto_region 1 with fail
  rw [← HW.out, ← hN]
  clear hN HW
  obtain ⟨e3, e4, e5⟩ := HCW.out w0 HX0.out
  go_wp2_with fail
  clear e3 e4 e5
  go_loopw [15] (fun iv wr => ∃ i : Nat, i ≤ ns.length ∧ iv = .int .i64 i ∧ Hid ((∀ j x, j < i → ns[j]? = some x → ¬ spHit p x) ∧ Ext w0 wr)) (fun iv _ => ns.length - (intOf iv).toNat)
  case atStart => exact ⟨0, by omega, rfl, hid ⟨fun j x hj => by omega, Ext.refl w0⟩⟩
  case round =>
    obtain ⟨i, hi, rfl, HX⟩ := hrel
    have hi0 : (0 : Int) ≤ (i : Int) := Int.natCast_nonneg _
    by_cases hlt : i < ns.length
    · have hltB : decide ((i : Int) < (ns.length : Int)) = true := by simp; omega
      have hil : (i : Int) < (ns.length : Int) := by omega
      obtain ⟨x, hxi⟩ : ∃ x, ns[i]? = some x := ⟨_, List.getElem?_eq_getElem hlt⟩
      obtain ⟨g, rfl⟩ : ∃ g, na = some ⟨g, 0, none⟩ := own_shape HO.out (by omega)
      have hrow : ∀ j u, j < 8 → (owCells x)[j]? = some u → wr.cell? ⟨g, i * 8 + j, none⟩ = some u := by
        obtain ⟨b, o, e, hc⟩ := rows_at owCells_len (by omega) rfl (ownsRow_rd (ownsRow_ext HO.out (HX0.out.trans HX.out.2))).weak hxi
        injection e with e
        injection e with e1 e2
        subst e1 e2
        intro j u hj hu
        have := hc j u hj hu
        rwa [Nat.zero_add] at this
      have f0 : wr.cell? ⟨g, i * 8, none⟩ = some (uv x.note.value) := hrow 0 _ (by omega) rfl
      have f1 : wr.cell? ⟨g, i * 8 + 1, none⟩ = some (uv x.note.owner) := hrow 1 _ (by omega) rfl
      have f2 : wr.cell? ⟨g, i * 8 + 2, none⟩ = some (uv x.note.rho) := hrow 2 _ (by omega) rfl
      have f3 : wr.cell? ⟨g, i * 8 + 3, none⟩ = some (uv x.note.blind) := hrow 3 _ (by omega) rfl
      have f4 : wr.cell? ⟨g, i * 8 + 4, none⟩ = some (.int .i64 (x.number : Int)) := hrow 4 _ (by omega) rfl
      have f5 : wr.cell? ⟨g, i * 8 + 5, none⟩ = some (.int .i64 (x.pos : Int)) := hrow 5 _ (by omega) rfl
      have f6 : wr.cell? ⟨g, i * 8 + 6, none⟩ = some (.int .i64 (x.height : Int)) := hrow 6 _ (by omega) rfl
      have f7 : wr.cell? ⟨g, i * 8 + 7, none⟩ = some (.int .i64 (x.spent : Int)) := hrow 7 _ (by omega) rfl
      have HXI := hid hxi
      clear hrow hxi
      go_upto_region 4 with fail
      obtain ⟨Q, hQ⟩ : ∃ Q, Q = wr.heap.size := ⟨_, rfl⟩
      obtain ⟨u1, hu1⟩ : ∃ u1, u1 = wr.alloc (.cells #[uv x.note.value, uv x.note.owner, uv x.note.rho, uv x.note.blind, .int .i64 (x.number : Int), .int .i64 (x.pos : Int), .int .i64 (x.height : Int), .int .i64 (x.spent : Int)] 39) := ⟨_, rfl⟩
      rw [← hu1, ← hQ]
      have G1 : Hid (Ext w0 u1) := hid (by rw [hu1]; exact HX.out.2.alloc _)
      have hqb : u1.heap[Q]? = some (.cells #[uv x.note.value, uv x.note.owner, uv x.note.rho, uv x.note.blind, .int .i64 (x.number : Int), .int .i64 (x.pos : Int), .int .i64 (x.height : Int), .int .i64 (x.spent : Int)] 39 (0, 0)) := by rw [hu1, hQ]; exact heap_new _ _
      have HQB := hid hqb
      clear hu1 hQ f0 f1 f2 f3 f4 f5 f6 f7
      obtain ⟨c0, c1, c2, c3, c4, c5, c6, c7⟩ := eight_cells hqb
      clear hqb
      by_cases hpe : (x.pos : Int) = p
      case neg =>
        have hpB : decide ((x.pos : Int) = p) = false := decide_eq_false hpe
        have hpB2 : ((x.pos : Int) == p) = false := by rw [beq_eq_false_iff_ne]; exact hpe
        have hpB3 : ((x.pos : Int) != p) = true := by rw [bne_iff_ne]; exact hpe
        have HN := hid (And.intro (fun j y (hj : j < i + 1) (hy : ns[j]? = some y) => show ¬ spHit p y from by
          by_cases hji : j = i
          · subst hji
            rw [HXI.out] at hy
            obtain rfl := Option.some.inj hy
            exact fun hh => hpe hh.1
          · exact HX.out.1 j y (by omega) hy) G1.out)
        go_wp2_with fail
        go_roundw
        case rel => exact ⟨i + 1, by omega, by go_num, HN⟩
        case measure => simp [intOf]; omega
      have hpB : decide ((x.pos : Int) = p) = true := decide_eq_true hpe
      have hpB3 : ((x.pos : Int) != p) = false := by rw [hpe]; simp
      by_cases hsp : x.spent = 0
      case neg =>
        have hspB : decide ((x.spent : Int) = 0) = false := decide_eq_false (by omega)
        have hspB2 : ((x.spent : Int) == 0) = false := by rw [beq_eq_false_iff_ne]; omega
        have HN := hid (And.intro (fun j y (hj : j < i + 1) (hy : ns[j]? = some y) => show ¬ spHit p y from by
          by_cases hji : j = i
          · subst hji
            rw [HXI.out] at hy
            obtain rfl := Option.some.inj hy
            exact fun hh => hsp hh.2
          · exact HX.out.1 j y (by omega) hy) G1.out)
        clear hpe
        go_wp2_with fail
        go_roundw
        case rel => exact ⟨i + 1, by omega, by go_num, HN⟩
        case measure => simp [intOf]; omega
      have hspI : (x.spent : Int) = 0 := by omega
      subst hpe
      have HSP := hid hsp
      clear hsp
      have PTC := hid (PT.out u1 x.pos (HX0.out.trans G1.out) (HPS.out x (List.mem_of_getElem? HXI.out)))
      obtain ⟨pl, hpl⟩ : ∃ pl, pl = pathU d L x.pos := ⟨_, rfl⟩
      rw [← hpl] at PTC
      have HPL := hid hpl
      clear hpl PT
      obtain ⟨e3, e4, e5⟩ := HCW.out u1 (HX0.out.trans G1.out)
      go_wp2_with fail
      refine (PTC.out).mono ?_
      rintro e w2 ⟨pv, rfl, ho, hx, hnw⟩
      obtain ⟨qa, qc, rfl, -⟩ := ownsRow_rd ho
      have X2 := hid (G1.out.trans hx)
      have O2 := hid ho
      have HQ2 := hid (hx.heap_some HQB.out)
      have HNW := hid (fun k hk => Nat.le_trans (HX0.out.trans G1.out).size (hnw k hk))
      have HNU := hid (fun k hk => Nat.le_trans G1.out.size (hnw k hk))
      clear ho hx hnw PTC e3 e4 e5 c0 c1 c2 c3 c4 c5 c6 c7
      go_wp2_with fail
      have HSV : Hid (∀ u, Ext w2 u → ((u.cell? ⟨Q, 0, none⟩ = some (uv x.note.value) ∧ u.cell? ⟨Q, 1, none⟩ = some (uv x.note.owner) ∧ u.cell? ⟨Q, 2, none⟩ = some (uv x.note.rho) ∧ u.cell? ⟨Q, 3, none⟩ = some (uv x.note.blind) ∧ u.cell? ⟨Q, 4, none⟩ = some (.int .i64 (x.number : Int)) ∧ u.cell? ⟨Q, 5, none⟩ = some (.int .i64 (x.pos : Int)) ∧ u.cell? ⟨Q, 6, none⟩ = some (.int .i64 (x.height : Int)) ∧ u.cell? ⟨Q, 7, none⟩ = some (.int .i64 (x.spent : Int))) ∧ u.cell? ⟨W, 11, none⟩ = some (uv key)) ∧ Ext w2 u) := hid fun u k => ⟨⟨eight_cells (k.heap_some HQ2.out), (HCW.out u (HX0.out.trans (X2.out.trans k))).1⟩, k⟩
      refine wp_region_T (fun u => ((u.cell? ⟨Q, 0, none⟩ = some (uv x.note.value) ∧ u.cell? ⟨Q, 1, none⟩ = some (uv x.note.owner) ∧ u.cell? ⟨Q, 2, none⟩ = some (uv x.note.rho) ∧ u.cell? ⟨Q, 3, none⟩ = some (uv x.note.blind) ∧ u.cell? ⟨Q, 4, none⟩ = some (.int .i64 (x.number : Int)) ∧ u.cell? ⟨Q, 5, none⟩ = some (.int .i64 (x.pos : Int)) ∧ u.cell? ⟨Q, 6, none⟩ = some (.int .i64 (x.height : Int)) ∧ u.cell? ⟨Q, 7, none⟩ = some (.int .i64 (x.spent : Int))) ∧ u.cell? ⟨W, 11, none⟩ = some (uv key)) ∧ Ext w2 u) 10 [(0, true), (1, true), (2, true), (3, true), (4, true), (5, true), (6, true), (7, true), (8, true), (9, true), (10, false), (11, false), (12, false)] (by kernel_rfl) (by kernel_rfl) (by intro c a d v w h; cases d <;> exact h) ?_
      intro ops hops
      have HS0 := HSV.out _ (Ext.refl w2).drew
      iterate 10
        refine wpT_take (v := ?_) (by rw [hops, List.getElem?_toArray]; rfl) (by first | rfl | (rw [hops]; rfl)) ?_ HS0 ?_
        rotate_left
        · intro v h; go_simp; with_reducible rfl
        simp only [Act.put, List.getElem_toArray, List.getElem_cons_zero, List.getElem_cons_succ, List.setIfInBounds_toArray, List.set_cons_zero, List.set_cons_succ]
      clear HS0
      have hbz := X2.out.heap_some HB0.out
      obtain ⟨z0, z1, z2, z3, z4, z5, z6, z7, z8⟩ := nine_cells hbz
      have zf := frozen_of hbz
      refine wpT_step (by rw [hops, List.getElem?_toArray]; rfl) (by first | rfl | (rw [hops]; rfl)) ?_
      intro K hK
      go_wp2_with fail
      try (with_reducible refine ⟨fun h => absurd h (by decide), ?_⟩)
      try rw [← hops]
      refine wpT_step (by rw [hops, List.getElem?_toArray]; rfl) (by first | rfl | (rw [hops]; rfl)) ?_
      intro K hK
      go_wp2_with fail
      try (with_reducible refine ⟨fun h => absurd h (by decide), ?_⟩)
      try rw [← hops]
      refine wpT_step (by rw [hops, List.getElem?_toArray]; rfl) (by first | rfl | (rw [hops]; rfl)) ?_
      intro K hK
      go_wp2_with fail
      try (with_reducible refine ⟨fun h => absurd h (by decide), ?_⟩)
      try rw [wpT_nil]
      try clear hops ops
      go_wp2_with fail
      obtain ⟨h1, h2⟩ := nine_set (d0 := .int .u64 (x.note.value.toNat : Int)) (d1 := .int .u64 (x.note.owner.toNat : Int)) (d2 := .int .u64 (x.note.rho.toNat : Int)) (d3 := .int .u64 (x.note.blind.toNat : Int)) (d4 := .int .u64 (key.toNat : Int)) (d5 := .int .i64 (x.number : Int)) (d6 := .int .i64 (x.pos : Int)) (d7 := .slice qa pl.length qc) (d8 := .bool false) hbz
      have hxf := (HX0.out.trans X2.out).kp h2 (fun j e => by have := HNN.out; omega)
      have hbn := heap_lt HB0.out
      have ho2 := ownsRow_kp O2.out h2 (fun b hb e => by
        have h3 := HNU.out b hb
        omega)
      generalize (((((((((w2.setCell ⟨N, 0, none⟩ (.int .u64 (x.note.value.toNat : Int))).setCell ⟨N, 1, none⟩ (.int .u64 (x.note.owner.toNat : Int))).setCell ⟨N, 2, none⟩ (.int .u64 (x.note.rho.toNat : Int))).setCell ⟨N, 3, none⟩ (.int .u64 (x.note.blind.toNat : Int))).setCell ⟨N, 4, none⟩ (.int .u64 (key.toNat : Int))).setCell ⟨N, 5, none⟩ (.int .i64 (x.number : Int))).setCell ⟨N, 6, none⟩ (.int .i64 (x.pos : Int))).setCell ⟨N, 7, none⟩ (.slice qa pl.length qc)).setCell ⟨N, 8, none⟩ (.bool false)) = V at *
      have ho3 := ownsRow_ext ho2 (Ext.refl V).drew
      have hxd := hxf.drew
      have h1d : V.drew.heap[N]? = some (.cells #[uv x.note.value, uv x.note.owner, uv x.note.rho, uv x.note.blind, uv key, .int .i64 (x.number : Int), .int .i64 (x.pos : Int), .slice qa pl.length qc, .bool false] 61 (0, 0)) := h1
      clear ho2 hxf h1 h2 hbz z0 z1 z2 z3 z4 z5 z6 z7 z8 zf
      generalize V.drew = Z at *
      obtain ⟨r0, r1, r2, r3, r4, r5, r6, r7, r8⟩ := nine_cells h1d
      have HF : SpentP w d key L ns (x.pos : Int) (.returned (.tuple #[.agg #[uv x.note.value, uv x.note.owner, uv x.note.rho, uv x.note.blind, uv key, .int .i64 (x.number : Int), .int .i64 (x.pos : Int), .slice qa pl.length qc, .bool false], .int .i64 0])) Z := .inl ⟨x, .slice qa pl.length qc, List.mem_of_getElem? HXI.out, ⟨rfl, HSP.out⟩, rfl, by rw [← HPL.out]; exact ho3, hxd, HNW.out⟩
      exact bodyPost_ret (v := .tuple #[.agg #[uv x.note.value, uv x.note.owner, uv x.note.rho, uv x.note.blind, uv key, .int .i64 (x.number : Int), .int .i64 (x.pos : Int), .slice qa pl.length qc, .bool false], .int .i64 0]) (by simp [results, Tryz.results34, go_sem, r0, r1, r2, r3, r4, r5, r6, r7, r8]) rfl HF
    · have hltB : decide ((i : Int) < (ns.length : Int)) = false := by simp; omega
      obtain rfl : i = ns.length := by omega
      have hbz := HX.out.2.heap_some HB0.out
      obtain ⟨z0, z1, z2, z3, z4, z5, z6, z7, z8⟩ := nine_cells hbz
      have zf := frozen_of hbz
      have HEX := hid (HX0.out.trans HX.out.2)
      have HNO : Hid (∀ x ∈ ns, ¬ spHit p x) := hid fun x hx => by
        obtain ⟨j, hj, rfl⟩ := List.getElem_of_mem hx
        exact HX.out.1 j _ hj (List.getElem?_eq_getElem hj)
      go_wp2_with fail
      obtain ⟨h1, h2⟩ := nine_set (d0 := .int .u64 0) (d1 := .int .u64 0) (d2 := .int .u64 0) (d3 := .int .u64 0) (d4 := .int .u64 0) (d5 := .int .i64 0) (d6 := .int .i64 0) (d7 := .slice none 0 0) (d8 := .bool false) hbz
      have hxf := HEX.out.kp h2 (fun j e => by have := HNN.out; omega)
      have hbn := heap_lt HB0.out
      generalize (((((((((wr.setCell ⟨N, 0, none⟩ (.int .u64 0)).setCell ⟨N, 1, none⟩ (.int .u64 0)).setCell ⟨N, 2, none⟩ (.int .u64 0)).setCell ⟨N, 3, none⟩ (.int .u64 0)).setCell ⟨N, 4, none⟩ (.int .u64 0)).setCell ⟨N, 5, none⟩ (.int .i64 0)).setCell ⟨N, 6, none⟩ (.int .i64 0)).setCell ⟨N, 7, none⟩ (.slice none 0 0)).setCell ⟨N, 8, none⟩ (.bool false)) = V at *
      obtain ⟨r0, r1, r2, r3, r4, r5, r6, r7, r8⟩ := nine_cells h1
      exact bodyPost_ret (v := .tuple #[.agg #[.int .u64 0, .int .u64 0, .int .u64 0, .int .u64 0, .int .u64 0, .int .i64 0, .int .i64 0, .slice none 0 0, .bool false], .int .i64 4]) (by simp [results, Tryz.results34, go_sem, r0, r1, r2, r3, r4, r5, r6, r7, r8]) rfl (.inr ⟨HNO.out, rfl, hxf⟩)
end Go.Proofs.YtcikjcjfcanloaaGreat
namespace Go.Proofs.YtcikjcjfcanloaaGreat
open Go.RowKit
attribute [local irreducible] perm fAdd fMul fPow fSub fNeg fRed hashU
theorem nodeR_sib (l : List UInt64) (p i : Nat) : digU i (lvl i l) (sibU p i) = nodeR l i (sibU p i) := (nodeR_dig l i _).symm
set_option maxRecDepth 100000 in
set_option maxHeartbeats 6400000 in
theorem rPath_any (d : Nat) (hd : d ≤ 12) (lv : Value) (l : List UInt64) (p : Nat) (hp : p ≤ 100000) (w : World) (h : RdU' w lv l) (hl : l.length ≤ 100000) :
    Calls Tryz.prog 36 #[.int .i64 (d : Int), lv, .int .i64 (p : Int)] w fun e w' => ∃ u, e = .returned u ∧ FrU w w' u (pathU d l p) := by
  obtain ⟨la, lc, rfl, -⟩ := id h
  have HX := hid h
  have ND : Hid (∀ u (k i : Nat), Ext w u → k ≤ 12 → i * 2 ^ k ≤ 1000000 → Calls Tryz.prog 78 #[.slice la l.length lc, .int .i64 (k : Int), .int .i64 (i : Int)] u fun e w' => e = .returned (uv (nodeR l k i)) ∧ Ext u w') := hid fun u k i ku hk hi => rNode_any l hl k i hk hi _ u (HX.out.ext ku)
  obtain ⟨R, hR⟩ : ∃ R, R = pathU d l p := ⟨_, rfl⟩
  have HRL : Hid (R.length = d) := hid (by rw [hR]; exact pathU_length d l p)
  have HRA : Hid (∀ k, k < d → R[k]? = some (nodeR l k (sibU p k))) := hid fun k hk => by rw [hR, pathU_at hk, nodeR_sib]
  rw [← hR]
  have hd0 : 0 ≤ (d : Int) := Int.natCast_nonneg _
  have hdI : (d : Int) ≤ 12 := by omega
  have hp0 : 0 ≤ (p : Int) := Int.natCast_nonneg _
  have hpI : (p : Int) ≤ 100000 := by omega
  obtain ⟨i0, hi, hz0, hz1, hz2⟩ := info_parts Tryz.infoU
  have HI0 := hid (And.intro hi (And.intro hz0 (And.intro hz1 hz2)))
  have F0 : Hid (FrU w (w.alloc (.cells #[] 22)) (.slice (some ⟨w.heap.size, 0, none⟩) 0 0) []) := hid ⟨own_empty w, (Ext.refl w).alloc _, fun k e => by change some w.heap.size = some k at e; injection e with e; omega⟩
  have HPP := hid hp
  clear h hl hi hz0 hz1 hz2 hR hp
  go_enter Tryz.func36, Tryz.ntmps36
  go_wp2_with fail
  go_loopw [7, 8] (fun bv iv wr => ∃ i : Nat, i ≤ d ∧ iv = .int .i64 i ∧ Hid (FrU w wr bv (R.take i))) (fun _ iv _ => d - (intOf iv).toNat)
  case atStart => exact ⟨0, by omega, rfl, by simpa using F0⟩
  case round =>
    clear F0
    obtain ⟨i, hin, rfl, HI⟩ := hrel
    have hi0 : (0 : Int) ≤ (i : Int) := Int.natCast_nonneg _
    by_cases hlt : i < d
    · have hltB : decide ((i : Int) < (d : Int)) = true := by simp; omega
      have hil : (i : Int) < (d : Int) := by omega
      have hi12 : (i : Int) ≤ 12 := by omega
      have hwi : IntKind.u64.wrap (i : Int) = (i : Int) := by rw [IntKind.wrap_u64]; omega
      have hq : (p : Int) / 2 ^ i = ((p / 2 ^ i : Nat) : Int) := by push_cast; rfl
      have hq2 : (p : Int) / 2 ^ (min i 64) = ((p / 2 ^ i : Nat) : Int) := by rw [Nat.min_eq_left (by omega)]; exact hq
      have HA := hid (HRA.out i hlt)
      have h2i : 2 ^ i ≤ 2 ^ 12 := Nat.pow_le_pow_right (by omega) (by omega)
      have hqm : p / 2 ^ i * 2 ^ i ≤ p := Nat.div_mul_le_self p (2 ^ i)
      have hql : p / 2 ^ i ≤ p := Nat.div_le_self _ _
      have HSB : Hid (sibU p i = if p / 2 ^ i % 2 = 0 then p / 2 ^ i + 1 else p / 2 ^ i - 1) := hid rfl
      obtain ⟨q, hqe⟩ : ∃ q, q = p / 2 ^ i := ⟨_, rfl⟩
      rw [← hqe] at hq hq2 hqm hql HSB
      have HQM := hid (And.intro hqm (And.intro h2i hlt))
      have HT : Hid (∀ y, R[i]? = some y → R.take (i + 1) = R.take i ++ [y]) := hid fun y hy => by rw [List.take_add_one, hy]; rfl
      have hcl : (R.take i).length ≤ 12 := by rw [List.length_take]; omega
      obtain ⟨cur, hcur⟩ : ∃ cur, cur = R.take i := ⟨_, rfl⟩
      rw [← hcur] at HI HT hcl
      have HCL := hid hcl
      obtain ⟨ba, bc, rfl, -⟩ := ownsRow_rd HI.out.1
      have hqI : (q : Int) ≤ 100000 := by have := HPP.out; omega
      have hq0 : (0 : Int) ≤ (q : Int) := Int.natCast_nonneg _
      by_cases hev : q % 2 = 0
      · have hs : sibU p i = q + 1 := by rw [HSB.out, if_pos hev]
        rw [hs] at HA
        have HT2 := hid (HT.out _ HA.out)
        have hmul : (q + 1) * 2 ^ i ≤ 1000000 := by
          have h1 := HQM.out
          have h2 := HPP.out
          rw [Nat.add_mul]
          omega
        have CD : Hid (Calls Tryz.prog 78 #[.slice la l.length lc, .int .i64 (i : Int), .int .i64 ((q : Int) + 1)] wr fun e w' => e = .returned (uv (nodeR l i (q + 1))) ∧ Ext wr w') := hid (by
          have := ND.out wr i (q + 1) HI.out.2.1 (by omega) hmul
          rw [show ((q + 1 : Nat) : Int) = (q : Int) + 1 by push_cast; rfl] at this
          exact this)
        obtain ⟨y, hy⟩ : ∃ y, y = nodeR l i (q + 1) := ⟨_, rfl⟩
        rw [← hy] at CD HT2
        have htm : (q : Int).tmod 2 = 0 := by rw [Int.tmod_eq_emod_of_nonneg (by omega)]; omega
        clear hy hev hs HA hqe hqm h2i hql hmul hcur hcl
        go_wp2_with fail
        refine (CD.out).mono ?_
        rintro e x2 ⟨rfl, hx⟩
        have HJ := hid (show FrU w x2 (.slice ba cur.length bc) cur from ⟨ownsRow_ext HI.out.1 hx, HI.out.2.1.trans hx, HI.out.2.2⟩)
        clear hx CD
        go_wp2_with (at_builtin; refine wpList_app rfl _ _ 57 rfl 22 i0 (.int .u64 0) 1 8 Tryz.underlying57 HI0.out.1 HI0.out.2.1 HI0.out.2.2.1 HI0.out.2.2.2 rfl (by decide) _ cur.length (us cur) rfl (ownsRow_ext HJ.out.1 ((Ext.refl _).alloc _)) _ 1 [.int .u64 y.toNat] rfl (RdC.new1 _ _ _) rfl (us_one [y]) (by have := HCL.out; unfold maxLen; omega) (by have := HCL.out; omega) ?_)
        intro v' w3 hown hk2 hb
        have G : Hid (FrU w w3 v' (cur ++ [y])) := hid (HJ.out.app hown rfl _ ((Ext.refl _).alloc _) hk2 (by simpa using hb))
        obtain ⟨va, vc, rfl, -⟩ := ownsRow_rd hown
        clear hown hk2 hb
        go_wp2_with fail
        go_roundw
        case rel => exact ⟨i + 1, by omega, by go_num, by rw [HT2.out]; exact G⟩
        case measure => simp [intOf]; omega
      · have hs : sibU p i = q - 1 := by rw [HSB.out, if_neg hev]
        rw [hs] at HA
        have HT2 := hid (HT.out _ HA.out)
        have hq1 : 1 ≤ q := by omega
        have hmul : (q - 1) * 2 ^ i ≤ 1000000 := by
          have h1 := HQM.out.1
          have h2 := HPP.out
          have h3 : (q - 1) * 2 ^ i ≤ q * 2 ^ i := Nat.mul_le_mul_right _ (by omega)
          omega
        have CD : Hid (Calls Tryz.prog 78 #[.slice la l.length lc, .int .i64 (i : Int), .int .i64 ((q : Int) - 1)] wr fun e w' => e = .returned (uv (nodeR l i (q - 1))) ∧ Ext wr w') := hid (by
          have := ND.out wr i (q - 1) HI.out.2.1 (by omega) hmul
          rw [show ((q - 1 : Nat) : Int) = (q : Int) - 1 by omega] at this
          exact this)
        obtain ⟨y, hy⟩ : ∃ y, y = nodeR l i (q - 1) := ⟨_, rfl⟩
        rw [← hy] at CD HT2
        have htm : (q : Int).tmod 2 = 1 := by rw [Int.tmod_eq_emod_of_nonneg (by omega)]; omega
        clear hy hev hs HA hqe hqm h2i hql hmul hcur hcl hq1
        go_wp2_with fail
        refine (CD.out).mono ?_
        rintro e x2 ⟨rfl, hx⟩
        have HJ := hid (show FrU w x2 (.slice ba cur.length bc) cur from ⟨ownsRow_ext HI.out.1 hx, HI.out.2.1.trans hx, HI.out.2.2⟩)
        clear hx CD
        go_wp2_with (at_builtin; refine wpList_app rfl _ _ 57 rfl 22 i0 (.int .u64 0) 1 8 Tryz.underlying57 HI0.out.1 HI0.out.2.1 HI0.out.2.2.1 HI0.out.2.2.2 rfl (by decide) _ cur.length (us cur) rfl (ownsRow_ext HJ.out.1 ((Ext.refl _).alloc _)) _ 1 [.int .u64 y.toNat] rfl (RdC.new1 _ _ _) rfl (us_one [y]) (by have := HCL.out; unfold maxLen; omega) (by have := HCL.out; omega) ?_)
        intro v' w3 hown hk2 hb
        have G : Hid (FrU w w3 v' (cur ++ [y])) := hid (HJ.out.app hown rfl _ ((Ext.refl _).alloc _) hk2 (by simpa using hb))
        obtain ⟨va, vc, rfl, -⟩ := ownsRow_rd hown
        clear hown hk2 hb
        go_wp2_with fail
        go_roundw
        case rel => exact ⟨i + 1, by omega, by go_num, by rw [HT2.out]; exact G⟩
        case measure => simp [intOf]; omega
    · have hltB : decide ((i : Int) < (d : Int)) = false := by simp; omega
      obtain rfl : i = d := by omega
      rw [← HRL.out, List.take_length] at HI
      obtain ⟨ba, bc, rfl, -⟩ := ownsRow_rd HI.out.1
      go_wp2_with fail
      go_ret
      exact ⟨_, rfl, HI.out⟩
set_option maxRecDepth 100000 in
set_option maxHeartbeats 3200000 in
theorem rClimb_any (leaf : UInt64) (p : Nat) (hp : p ≤ 100000) (pv : Value) (path : List UInt64) (w : World) (h : RdU' w pv path) (hl : path.length ≤ 12) :
    Calls Tryz.prog 37 #[uv leaf, .int .i64 (p : Int), pv] w fun e w' => e = .returned (uv (climbTo leaf p path path.length)) ∧ Ext w w' := by
  obtain ⟨la, lc, rfl, -⟩ := id h
  have HX := hid h
  have HH : Hid (∀ (a b : UInt64) (v : World), Calls Tryz.prog 64 #[.int .u64 18446744069414584321, .int .u64 6, .slice (some ⟨v.heap.size, 0, none⟩) 2 2] (v.alloc (.cells #[uv a, uv b] 22)) fun e w' => e = .returned (uv (nodeU a b)) ∧ Ext v w') := hid fun a b v => rhash2_any 6 a b v
  have hp0 : 0 ≤ (p : Int) := Int.natCast_nonneg _
  have hpI : (p : Int) ≤ 100000 := by omega
  have hlI : (path.length : Int) ≤ 12 := by omega
  have HPP := hid hp
  clear h hp
  go_enter Tryz.func37, Tryz.ntmps37
  go_wp2_with fail
  go_loopw [0, 7] (fun bv iv wr => ∃ i : Nat, i ≤ path.length ∧ bv = uv (climbTo leaf p path i) ∧ iv = .int .i64 i ∧ Hid (Ext w wr)) (fun _ iv _ => path.length - (intOf iv).toNat)
  case atStart => exact ⟨0, by omega, rfl, rfl, hid (Ext.refl w)⟩
  case round =>
    obtain ⟨i, hin, rfl, rfl, HI⟩ := hrel
    have hi0 : (0 : Int) ≤ (i : Int) := Int.natCast_nonneg _
    by_cases hlt : i < path.length
    · have hltB : decide ((i : Int) < (path.length : Int)) = true := by simp; omega
      have hil : (i : Int) < (path.length : Int) := by omega
      have hi12 : (i : Int) ≤ 12 := by omega
      have hwi : IntKind.u64.wrap (i : Int) = (i : Int) := by rw [IntKind.wrap_u64]; omega
      have hq : (p : Int) / 2 ^ i = ((p / 2 ^ i : Nat) : Int) := by push_cast; rfl
      have hq2 : (p : Int) / 2 ^ (min i 64) = ((p / 2 ^ i : Nat) : Int) := by rw [Nat.min_eq_left (by omega)]; exact hq
      obtain ⟨y, hy⟩ : ∃ y, path[i]? = some y := ⟨_, List.getElem?_eq_getElem hlt⟩
      have HC : Hid (climbTo leaf p path (i + 1) = if p / 2 ^ i % 2 = 0 then nodeU (climbTo leaf p path i) y else nodeU y (climbTo leaf p path i)) := hid (by show (if p / 2 ^ i % 2 = 0 then _ else _) = _; rw [hy]; rfl)
      obtain ⟨b, o, rfl, hc⟩ := (HX.out.ext HI.out).uat hy
      obtain ⟨c, hcc⟩ : ∃ c, c = climbTo leaf p path i := ⟨_, rfl⟩
      rw [← hcc] at HC ⊢
      have hql : p / 2 ^ i ≤ p := Nat.div_le_self _ _
      obtain ⟨q, hqe⟩ : ∃ q, q = p / 2 ^ i := ⟨_, rfl⟩
      rw [← hqe] at hq hq2 hql HC
      have hqI : (q : Int) ≤ 100000 := by have := HPP.out; omega
      have hq0 : (0 : Int) ≤ (q : Int) := Int.natCast_nonneg _
      clear hy hcc hqe hql
      by_cases hev : q % 2 = 0
      · have htm : (q : Int).tmod 2 = 0 := by rw [Int.tmod_eq_emod_of_nonneg (by omega)]; omega
        have HC2 := HC.out
        rw [if_pos hev] at HC2
        have HC3 := hid HC2
        have CD := hid (HH.out c y)
        generalize nodeU c y = r at *
        clear hev HC2 HC
        go_wp2_with fail
        refine (CD.out _).mono ?_
        rintro e x2 ⟨rfl, hx⟩
        have HN := hid (HI.out.trans hx)
        clear hx CD hc
        go_wp2_with fail
        go_roundw
        case rel => exact ⟨i + 1, by omega, by rw [HC3.out], by go_num, HN⟩
        case measure => simp [intOf]; omega
      · have htm : (q : Int).tmod 2 = 1 := by rw [Int.tmod_eq_emod_of_nonneg (by omega)]; omega
        have HC2 := HC.out
        rw [if_neg hev] at HC2
        have HC3 := hid HC2
        have CD := hid (HH.out y c)
        generalize nodeU y c = r at *
        clear hev HC2 HC
        go_wp2_with fail
        refine (CD.out _).mono ?_
        rintro e x2 ⟨rfl, hx⟩
        have HN := hid (HI.out.trans hx)
        clear hx CD hc
        go_wp2_with fail
        go_roundw
        case rel => exact ⟨i + 1, by omega, by rw [HC3.out], by go_num, HN⟩
        case measure => simp [intOf]; omega
    · have hltB : decide ((i : Int) < (path.length : Int)) = false := by simp; omega
      obtain rfl : i = path.length := by omega
      go_wp2_with fail
      go_ret
      exact ⟨rfl, HI.out⟩
end Go.Proofs.YtcikjcjfcanloaaGreat
namespace Go.Proofs.YtcikjcjfcanloaaGreat
open Go.RowKit
attribute [local irreducible] perm fAdd fMul fPow fSub fNeg fRed hashU
set_option maxRecDepth 100000 in
set_option maxHeartbeats 800000 in
theorem Same01_any (av bv : Value) (a b : List UInt64) (w : World) (ha : RdU w av a) (hb : RdU w bv b) (hA : a.length ≤ 1000000000000) (hB : b.length ≤ 1000000000000) :
    Calls Tryz.prog 35 #[av, bv] w fun e w' => e = .returned (.bool (a == b)) ∧ Ext w w' := by
  have HA := hid ha
  have HB := hid hb
  obtain ⟨aa, ac, rfl, -⟩ := ha
  obtain ⟨ba, bc, rfl, -⟩ := hb
  have hA1 : (a.length : Int) ≤ 1000000000000 := by omega
  go_enter Tryz.func35, Tryz.ntmps35
  by_cases hlen : a.length = b.length
  · have hlB : ((a.length : Int) != (b.length : Int)) = false := by simp [hlen]
    have HL := hid hlen
    clear hlen
    go_wp2
    go_loopw [5] (fun iv wr => ∃ i : Nat, i ≤ a.length ∧ iv = .int .i64 i ∧ Hid (a.take i = b.take i) ∧ Ext w wr) (fun iv _ => a.length - (intOf iv).toNat)
    case atStart => exact ⟨0, by omega, rfl, hid rfl, Ext.refl _⟩
    case round =>
      obtain ⟨i, hi, rfl, hI, hE⟩ := hrel
      have HE := hid hE
      clear hE
      by_cases hlt : i < a.length
      · have hlt2 : i < b.length := by rw [← HL.out]; exact hlt
        have hx : a[i]? = some a[i] := List.getElem?_eq_getElem hlt
        have hy : b[i]? = some b[i] := List.getElem?_eq_getElem hlt2
        generalize a[i] = x at *
        generalize b[i] = y at *
        obtain ⟨ab, ao, rfl, hca⟩ := HA.out.at hx
        obtain ⟨bb, bo, rfl, hcb⟩ := HB.out.at hy
        have HX := hid hx
        have HY := hid hy
        have H : ∀ v, Ext w v → v.cell? ⟨ab, ao + i, none⟩ = some (.int .u64 x.toNat) ∧ v.cell? ⟨bb, bo + i, none⟩ = some (.int .u64 y.toNat) := fun v k => ⟨k.cell_some hca, k.cell_some hcb⟩
        have hd : decide ((i : Int) < (a.length : Int)) = true := by simp; omega
        have HS0 : (wr.drew.cell? ⟨ab, ao + i, none⟩ = some (.int .u64 x.toNat) ∧ wr.drew.cell? ⟨bb, bo + i, none⟩ = some (.int .u64 y.toNat)) ∧ Ext w wr.drew := ⟨H _ HE.out.drew, HE.out.drew⟩
        have HH := hid H
        have i1 : (i : Int) < (a.length : Int) := by omega
        have i2 : (i : Int) < (b.length : Int) := by omega
        clear hx hy hca hcb H
        go_wp2_with fail
        refine wp_region_T (fun v => (v.cell? ⟨ab, ao + i, none⟩ = some (.int .u64 x.toNat) ∧ v.cell? ⟨bb, bo + i, none⟩ = some (.int .u64 y.toNat)) ∧ Ext w v) 8 [(0, true), (1, true), (2, true), (3, true), (4, true), (5, true), (6, true), (7, true), (8, false)] (by kernel_rfl) (by kernel_rfl) (by intro c a d v w h; cases d <;> exact h) ?_
        intro ops hops
        iterate 8
          refine wpT_take (v := ?_) (by rw [hops, List.getElem?_toArray]; rfl) (by first | rfl | (rw [hops]; rfl)) ?_ HS0 ?_
          rotate_left
          · intro v h; go_simp; with_reducible rfl
          simp only [Act.put, List.getElem_toArray, List.getElem_cons_zero, List.getElem_cons_succ, List.setIfInBounds_toArray, List.set_cons_zero, List.set_cons_succ]
        by_cases hxy : x = y
        · have hd2 : ((x.toNat : Int) != (y.toNat : Int)) = false := by simp [hxy]
          have HXY := hid hxy
          clear hxy
          refine wpT_step (by rw [hops, List.getElem?_toArray]; rfl) (by first | rfl | (rw [hops]; rfl)) ?_
          intro K hK
          go_wp2_with fail
          refine ⟨fun h => absurd h (by decide), ?_⟩
          rw [wpT_nil]
          clear hops ops
          have hE2 := HS0.2
          have HE2 := hid hE2
          clear hE2 HS0
          go_wp2
          go_roundw
          case rel => exact ⟨i + 1, by omega, by go_num, hid (same_snoc HX.out HY.out hI.out HXY.out), HE2.out⟩
          case measure => simp [intOf]; omega
        · have hd2 : ((x.toNat : Int) != (y.toNat : Int)) = true := by
            simp only [bne_iff_ne, ne_eq]
            intro h; exact hxy (UInt64.toNat_inj.1 (by omega))
          have hfin : (a == b) = false := by
            rw [beq_eq_false_iff_ne]; rintro rfl
            have h1 := HX.out
            rw [HY.out] at h1
            exact hxy (Option.some.inj h1).symm
          have HF := hid hfin
          clear hfin hxy
          refine wpT_step (by rw [hops, List.getElem?_toArray]; rfl) (by first | rfl | (rw [hops]; rfl)) ?_
          intro K hK
          go_wp2_with fail
          refine ⟨fun h => absurd h (by decide), ?_⟩
          rw [wpT_nil]
          clear hops ops
          have hE2 := HS0.2
          have HE2 := hid hE2
          clear hE2 HS0
          go_wp2
          go_ret
          exact ⟨ret_bool HF.out.symm, HE2.out⟩
      · have hi' : i = a.length := by omega
        have hfin : (a == b) = true := by
          have h1 := hI.out
          rw [hi', List.take_length] at h1
          have h2 := HL.out
          rw [h2, List.take_length] at h1
          simpa using h1
        have HF := hid hfin
        have hd : decide ((i : Int) < (a.length : Int)) = false := by simp; omega
        clear hfin
        go_wp2
        go_ret
        exact ⟨ret_bool HF.out.symm, HE.out⟩
  · have hlB : ((a.length : Int) != (b.length : Int)) = true := by simp; omega
    have hfin : (a == b) = false := by
      rw [beq_eq_false_iff_ne]; rintro rfl; exact hlen rfl
    have HF := hid hfin
    clear hfin hlen
    go_wp2
    go_ret
    exact ⟨ret_bool HF.out.symm, Ext.refl _⟩
set_option maxRecDepth 100000 in
set_option maxHeartbeats 800000 in
theorem Same01W_any (av bv : Value) (a b : List UInt64) (w : World) (ha : RdU' w av a) (hb : RdU' w bv b) (hA : a.length ≤ 1000000000000) (hB : b.length ≤ 1000000000000) :
    Calls Tryz.prog 35 #[av, bv] w fun e w' => e = .returned (.bool (a == b)) ∧ Ext w w' := by
  by_cases hlen : a.length = b.length
  · cases a with
    | nil =>
      obtain rfl : b = [] := List.length_eq_zero_iff.1 hlen.symm
      obtain ⟨aa, ac, rfl, -⟩ := ha
      obtain ⟨ba, bc, rfl, -⟩ := hb
      go_enter Tryz.func35, Tryz.ntmps35
      go_wp2
      go_loopw [5] (fun iv wr => iv = .int .i64 0 ∧ wr = w) (fun _ _ => 0)
      case atStart => exact ⟨rfl, rfl⟩
      case round =>
        obtain ⟨rfl, rfl⟩ := hrel
        go_wp2
        go_ret
        exact ⟨rfl, Ext.refl _⟩
    | cons x r =>
      cases b with
      | nil => simp at hlen
      | cons y s => exact Same01_any av bv _ _ w (ha.rdu (by simp)) (hb.rdu (by simp)) hA hB
  · obtain ⟨aa, ac, rfl, -⟩ := ha
    obtain ⟨ba, bc, rfl, -⟩ := hb
    have hlB : ((a.length : Int) != (b.length : Int)) = true := by simp; omega
    have hfin : (a == b) = false := by
      rw [beq_eq_false_iff_ne]; rintro rfl; exact hlen rfl
    have HF := hid hfin
    clear hfin hlen
    go_enter Tryz.func35, Tryz.ntmps35
    go_wp2
    go_ret
    exact ⟨ret_bool HF.out.symm, Ext.refl _⟩
end Go.Proofs.YtcikjcjfcanloaaGreat
