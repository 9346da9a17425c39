/- Texts of this claim, joined: RecC, L49b, L49e, RecD. -/
import Derived.DataElems
import Derived.ArgAppend
import Derived.Test.YtcikjcjfcanloaaGreatJr3
import Derived.Test.YtcikjcjfcanloaaGreatJr8
import Derived.Test.YtcikjcjfcanloaaGreatJr17
import Derived.Test.YtcikjcjfcanloaaGreatJr18
import Derived.Test.YtcikjcjfcanloaaGreatJr22
set_option linter.unusedSimpArgs false
namespace Go.Proofs.YtcikjcjfcanloaaGreat
open Go.RowKit
attribute [local irreducible] perm fAdd fMul fPow fSub fNeg fRed hashU drawOf nextState
/-- v reads as l in every world in which only blocks of G have turned. -/
abbrev StD (G : Nat → Prop) (w : World) (v : Value) (l : List BlkT) : Prop := StaW G w fun u => RdBs u u v l
theorem StD.of_ext {G : Nat → Prop} {w0 w : World} {v : Value} {l : List BlkT} (h : RdBs w0 w0 v l) (k : Ext w0 w) (hG : ∀ i, G i → w0.heap.size ≤ i) : StD G w v l := fun _ ku => (h.ext (k.kp ku hG)).old (k.kp ku hG)
theorem kp_hole (G : Nat → Prop) (w : World) : Kp G w (hole G w) := ⟨rfl, rfl, rfl, by simp [hole], fun i _ hg => hole_block hg⟩
/-- The blocks from k on, as a slice of a slice has them. -/
theorem RdBs.dropS {w0 w : World} {a fa : Option Addr} {n c : Nat} {l : List BlkT} (h : RdBs w0 w (.slice a n c) l) {k : Nat} (hk : k ≤ l.length) (hf : (if c = k then a else a.map (·.add (k * 6))) = fa) : RdBs w0 w (.slice fa (l.length - k) (c - k)) (l.drop k) := by
  obtain ⟨X, h1, ⟨a1, c1, e, h2, h4, h5, h6⟩, h3⟩ := h
  injection e with e1 e2 e3
  subst e1 e3
  have hXl : X.length = l.length := by rw [← h1, List.length_map]
  refine ⟨X.drop k, by rw [List.map_drop, h1], ⟨fa, c - k, by rw [List.length_drop], by rw [List.length_drop]; omega, by omega, fun e => ?_, fun ad ha j u hu => ?_⟩, fun x hx => h3 x (List.mem_of_mem_drop hx)⟩
  · by_cases hck : c = k
    · omega
    · rw [if_neg hck] at hf
      cases a with
      | none => have := h5 rfl; omega
      | some ad => rw [← hf] at e; cases e
  · by_cases hck : c = k
    · have : X.drop k = [] := List.drop_eq_nil_of_le (by omega)
      rw [this] at hu
      cases hu
    · rw [if_neg hck] at hf
      cases a with
      | none => have := h5 rfl; omega
      | some ad0 =>
        rw [← hf] at ha
        have ha2 : ad0.add (k * 6) = ad := Option.some.inj ha
        have hX : X.flatMap blkCells = (X.take k).flatMap blkCells ++ (X.drop k).flatMap blkCells := by rw [← List.flatMap_append, List.take_append_drop]
        have hl : ((X.take k).flatMap blkCells).length = k * 6 := by rw [flat_len blkCells_len, List.length_take, Nat.min_eq_left (by omega)]
        have := h6 ad0 rfl (k * 6 + j) u (by rw [hX, List.getElem?_append_right (by omega), hl, Nat.add_sub_cancel_left]; exact hu)
        rw [← ha2, Addr.add_add]
        exact this
set_option maxRecDepth 100000 in
set_option maxHeartbeats 12800000 in
theorem common_any (av bv : Value) (a b : List BlkT) (w : World) (ha : RdBs w w av a) (hb : RdBs w w bv b) (sa : ∀ x ∈ a, BSm x) (sb : ∀ x ∈ b, BSm x) (hA : a.length ≤ 1000) (hB : b.length ≤ 1000) :
    Calls Tryz.prog 93 #[av, bv] w fun e w' => e = .returned (.int .i64 (commonW a b : Int)) ∧ Ext w w' := by
  obtain ⟨aa, ac, rfl, -⟩ := ha.shape
  obtain ⟨ba, bc, rfl, -⟩ := hb.shape
  have HA := hid ha
  have HB := hid hb
  have SA := hid sa
  have SB := hid sb
  obtain ⟨R, hR⟩ : ∃ R, R = commonW a b := ⟨_, rfl⟩
  rw [← hR]
  have HR : Hid (∀ i, i ≤ a.length → i ≤ b.length → (∀ j, j < i → a[j]? = b[j]?) → (i < a.length → i < b.length → a[i]? ≠ b[i]?) → R = i) := hid fun i h1 h2 h3 h4 => by rw [hR]; exact commonW_stop a b i h1 h2 h3 h4
  have hA1 : (a.length : Int) ≤ 1000 := by omega
  have hB1 : (b.length : Int) ≤ 1000 := by omega
  clear ha hb sa sb hR
  go_enter Tryz.func93, Tryz.ntmps93
  go_wp2_with fail
  go_loopw [5] (fun iv wr => ∃ i : Nat, i ≤ a.length ∧ i ≤ b.length ∧ iv = .int .i64 i ∧ Hid ((∀ j, j < i → a[j]? = b[j]?) ∧ Ext w wr)) (fun iv _ => a.length - (intOf iv).toNat)
  case atStart => exact ⟨0, by omega, by omega, rfl, hid ⟨fun j hj => by omega, Ext.refl w⟩⟩
  case round =>
    obtain ⟨i, hi, hi2, rfl, HI⟩ := hrel
    have hi0 : (0 : Int) ≤ (i : Int) := Int.natCast_nonneg _
    have HXD := hid (HI.out.2.trans (Ext.refl wr).drew)
    by_cases hlt : i < a.length
    case neg =>
      have hltB : decide ((i : Int) < (a.length : Int)) = false := decide_eq_false (by omega)
      have hltB2 : decide (i < a.length) = false := decide_eq_false hlt
      obtain rfl : R = i := HR.out i hi hi2 HI.out.1 (fun h => absurd h hlt)
      clear hlt
      go_wp2_with fail
      refine wp_region_T (fun u => Ext w u) 19 [(0, true), (1, true), (2, true), (3, true), (4, true), (5, true), (6, true), (7, true), (8, true), (9, true), (10, true), (11, true), (12, true), (13, true), (14, true), (15, true), (16, true), (17, true), (18, true), (19, false), (20, false)] (by kernel_rfl) (by kernel_rfl) (by intro c a d v w h; cases d <;> exact h) ?_
      intro ops hops
      have HS0 := HXD.out
      iterate 19
        first
          | (refine wpT_take (v := ?_) (by rw [hops, List.getElem?_toArray]; rfl) (by first | rfl | (rw [hops]; rfl)) ?_ HS0 ?_
             rotate_left
             · intro v h; go_simp; with_reducible rfl
             simp only [Act.put, List.getElem_toArray, List.getElem_cons_zero, List.getElem_cons_succ, List.setIfInBounds_toArray, List.set_cons_zero, List.set_cons_succ])
          | (refine wpT_pass (by rw [hops, List.getElem?_toArray]; rfl) (by first | rfl | (rw [hops]; rfl)) HS0 ?_
             simp only [Act.put, List.getElem_toArray, List.getElem_cons_zero, List.getElem_cons_succ, List.setIfInBounds_toArray, List.set_cons_zero, List.set_cons_succ])
      refine wpT_none (by rw [hops, List.getElem?_toArray]; rfl) (by first | rfl | (rw [hops]; rfl)) ⟨fun h => absurd h (by decide), ?_⟩
      simp only [Act.put, List.getElem_toArray, List.getElem_cons_zero, List.getElem_cons_succ, List.setIfInBounds_toArray, List.set_cons_zero, List.set_cons_succ]
      refine wpT_step (by rw [hops, List.getElem?_toArray]; rfl) (by first | rfl | (rw [hops]; rfl)) ?_
      intro K hK
      go_wp2_with fail
      try (with_reducible refine ⟨fun h => absurd h (by decide), ?_⟩)
      try rw [wpT_nil]
      try clear hops ops
      go_wp2_with fail
      go_ret
      exact ⟨rfl, HXD.out⟩
    have hltB : decide ((i : Int) < (a.length : Int)) = true := decide_eq_true (by omega)
    have hltB2 : decide (i < a.length) = true := decide_eq_true hlt
    by_cases hlt2 : i < b.length
    case neg =>
      have hltC : decide ((i : Int) < (b.length : Int)) = false := decide_eq_false (by omega)
      have hltC2 : decide (i < b.length) = false := decide_eq_false hlt2
      obtain rfl : R = i := HR.out i hi hi2 HI.out.1 (fun _ h => absurd h hlt2)
      clear hlt hlt2
      go_wp2_with fail
      refine wp_region_T (fun u => Ext w u) 19 [(0, true), (1, true), (2, true), (3, true), (4, true), (5, true), (6, true), (7, true), (8, true), (9, true), (10, true), (11, true), (12, true), (13, true), (14, true), (15, true), (16, true), (17, true), (18, true), (19, false), (20, false)] (by kernel_rfl) (by kernel_rfl) (by intro c a d v w h; cases d <;> exact h) ?_
      intro ops hops
      have HS0 := HXD.out
      iterate 19
        first
          | (refine wpT_take (v := ?_) (by rw [hops, List.getElem?_toArray]; rfl) (by first | rfl | (rw [hops]; rfl)) ?_ HS0 ?_
             rotate_left
             · intro v h; go_simp; with_reducible rfl
             simp only [Act.put, List.getElem_toArray, List.getElem_cons_zero, List.getElem_cons_succ, List.setIfInBounds_toArray, List.set_cons_zero, List.set_cons_succ])
          | (refine wpT_pass (by rw [hops, List.getElem?_toArray]; rfl) (by first | rfl | (rw [hops]; rfl)) HS0 ?_
             simp only [Act.put, List.getElem_toArray, List.getElem_cons_zero, List.getElem_cons_succ, List.setIfInBounds_toArray, List.set_cons_zero, List.set_cons_succ])
      refine wpT_none (by rw [hops, List.getElem?_toArray]; rfl) (by first | rfl | (rw [hops]; rfl)) ⟨fun h => absurd h (by decide), ?_⟩
      simp only [Act.put, List.getElem_toArray, List.getElem_cons_zero, List.getElem_cons_succ, List.setIfInBounds_toArray, List.set_cons_zero, List.set_cons_succ]
      refine wpT_step (by rw [hops, List.getElem?_toArray]; rfl) (by first | rfl | (rw [hops]; rfl)) ?_
      intro K hK
      go_wp2_with fail
      try (with_reducible refine ⟨fun h => absurd h (by decide), ?_⟩)
      try rw [wpT_nil]
      try clear hops ops
      go_wp2_with fail
      go_ret
      exact ⟨rfl, HXD.out⟩
    have hltC : decide ((i : Int) < (b.length : Int)) = true := decide_eq_true (by omega)
    have hltC2 : decide (i < b.length) = true := decide_eq_true hlt2
    have hil : (i : Int) < (a.length : Int) := by omega
    have hil2 : (i : Int) < (b.length : Int) := by omega
    obtain ⟨x, hx⟩ : ∃ x, a[i]? = some x := ⟨_, List.getElem?_eq_getElem hlt⟩
    obtain ⟨y, hy⟩ : ∃ y, b[i]? = some y := ⟨_, List.getElem?_eq_getElem hlt2⟩
    have HXY := hid (And.intro hx hy)
    have SX := hid (SA.out x (List.mem_of_getElem? hx))
    have SY := hid (SB.out y (List.mem_of_getElem? hy))
    obtain ⟨q, o, ta, tc, rfl, htx, f0, f1, f2, f3, f4, f5⟩ := HA.out.at hx
    obtain ⟨q', o', sa', sc', rfl, hty, g0, g1, g2, g3, g4, g5⟩ := HB.out.at hy
    have HSV : Hid (∀ u, Ext w u → ((u.cell? ⟨q, o + i * 6, none⟩ = some (uv x.parent) ∧ u.cell? ⟨q, o + i * 6 + 1, none⟩ = some (.int .i64 x.height) ∧ u.cell? ⟨q, o + i * 6 + 2, none⟩ = some (uv x.miner) ∧ u.cell? ⟨q, o + i * 6 + 3, none⟩ = some (uv x.work) ∧ u.cell? ⟨q, o + i * 6 + 4, none⟩ = some (uv x.nonce) ∧ u.cell? ⟨q, o + i * 6 + 5, none⟩ = some (.slice ta x.txs.length tc)) ∧ (u.cell? ⟨q', o' + i * 6, none⟩ = some (uv y.parent) ∧ u.cell? ⟨q', o' + i * 6 + 1, none⟩ = some (.int .i64 y.height) ∧ u.cell? ⟨q', o' + i * 6 + 2, none⟩ = some (uv y.miner) ∧ u.cell? ⟨q', o' + i * 6 + 3, none⟩ = some (uv y.work) ∧ u.cell? ⟨q', o' + i * 6 + 4, none⟩ = some (uv y.nonce) ∧ u.cell? ⟨q', o' + i * 6 + 5, none⟩ = some (.slice sa' y.txs.length sc'))) ∧ Ext w u) := hid fun u k => ⟨⟨⟨k.cell_some f0, k.cell_some f1, k.cell_some f2, k.cell_some f3, k.cell_some f4, k.cell_some f5⟩, k.cell_some g0, k.cell_some g1, k.cell_some g2, k.cell_some g3, k.cell_some g4, k.cell_some g5⟩, k⟩
    have SO : Hid (∀ u, Ext w u → Calls Tryz.prog 122 #[blkVal x (.slice ta x.txs.length tc), blkVal y (.slice sa' y.txs.length sc')] u fun e w' => e = .returned (.bool (decide (x = y))) ∧ Ext u w') := hid fun u k => sameBlkP_any x y _ _ u (htx.ext k) (hty.ext k) SX.out SY.out
    obtain ⟨E, hE⟩ : ∃ E, E = decide (x = y) := ⟨_, rfl⟩
    rw [← hE] at SO
    have HE := hid hE
    have HLL := hid (And.intro hlt hlt2)
    have HS0 := HSV.out _ HXD.out
    clear hx hy htx hty f0 f1 f2 f3 f4 f5 g0 g1 g2 g3 g4 g5 hE hlt hlt2
    go_wp2_with fail
    refine wp_region_T (fun u => ((u.cell? ⟨q, o + i * 6, none⟩ = some (uv x.parent) ∧ u.cell? ⟨q, o + i * 6 + 1, none⟩ = some (.int .i64 x.height) ∧ u.cell? ⟨q, o + i * 6 + 2, none⟩ = some (uv x.miner) ∧ u.cell? ⟨q, o + i * 6 + 3, none⟩ = some (uv x.work) ∧ u.cell? ⟨q, o + i * 6 + 4, none⟩ = some (uv x.nonce) ∧ u.cell? ⟨q, o + i * 6 + 5, none⟩ = some (.slice ta x.txs.length tc)) ∧ (u.cell? ⟨q', o' + i * 6, none⟩ = some (uv y.parent) ∧ u.cell? ⟨q', o' + i * 6 + 1, none⟩ = some (.int .i64 y.height) ∧ u.cell? ⟨q', o' + i * 6 + 2, none⟩ = some (uv y.miner) ∧ u.cell? ⟨q', o' + i * 6 + 3, none⟩ = some (uv y.work) ∧ u.cell? ⟨q', o' + i * 6 + 4, none⟩ = some (uv y.nonce) ∧ u.cell? ⟨q', o' + i * 6 + 5, none⟩ = some (.slice sa' y.txs.length sc'))) ∧ Ext w u) 19 [(0, true), (1, true), (2, true), (3, true), (4, true), (5, true), (6, true), (7, true), (8, true), (9, true), (10, true), (11, true), (12, true), (13, true), (14, true), (15, true), (16, true), (17, true), (18, true), (19, false), (20, false)] (by kernel_rfl) (by kernel_rfl) (by intro c a d v w h; cases d <;> exact h) ?_
    intro ops hops
    iterate 19
      refine wpT_take (v := ?_) (by rw [hops, List.getElem?_toArray]; rfl) (by first | rfl | (rw [hops]; rfl)) ?_ HS0 ?_
      rotate_left
      · intro v h; go_simp; with_reducible rfl
      simp only [Act.put, List.getElem_toArray, List.getElem_cons_zero, List.getElem_cons_succ, List.setIfInBounds_toArray, List.set_cons_zero, List.set_cons_succ]
    refine wpT_step (by rw [hops, List.getElem?_toArray]; rfl) (by first | rfl | (rw [hops]; rfl)) ?_
    intro K hK
    go_wp2_with fail
    refine (SO.out _ HS0.2).mono ?_
    rintro e w3 ⟨rfl, hx⟩
    have X3 := hid (HS0.2.trans hx)
    clear hx HS0 SO
    refine hK _ _ ⟨fun h => absurd h (by decide), ?_⟩
    clear hK K
    refine wpT_step (by rw [hops, List.getElem?_toArray]; rfl) (by first | rfl | (rw [hops]; rfl)) ?_
    intro K hK
    go_wp2_with fail
    try (with_reducible refine ⟨fun h => absurd h (by decide), ?_⟩)
    try rw [wpT_nil]
    try clear hops ops
    cases E with
    | true =>
      have HN := hid (And.intro (fun j (hj : j < i + 1) => show a[j]? = b[j]? from by
        by_cases hji : j = i
        · subst hji
          rw [HXY.out.1, HXY.out.2, of_decide_eq_true HE.out.symm]
        · exact HI.out.1 j (by omega)) X3.out)
      go_wp2_with fail
      go_roundw
      case rel => exact ⟨i + 1, by omega, by omega, by go_num, HN⟩
      case measure => simp [intOf]; omega
    | false =>
      obtain rfl : R = i := HR.out i hi hi2 HI.out.1 (fun _ _ h => by
        rw [HXY.out.1, HXY.out.2] at h
        exact of_decide_eq_false HE.out.symm (Option.some.inj h))
      go_wp2_with fail
      go_ret
      exact ⟨rfl, X3.out⟩
/-- What Restore answers. -/
def RestP (w : World) (d : Nat) (seed : UInt64) (l : List BlkT) (e : Ending) (w' : World) : Prop :=
  (errW d l = 0 ∧ ∃ W G, e = .returned (.tuple #[.pointer (some ⟨W, 0, none⟩), .int .i64 0]) ∧ WalAt w' W d (fRed seed) l G ∧ (∀ i, G i → w.heap.size ≤ i) ∧ Ext w w') ∨
  (errW d l ≠ 0 ∧ e = .returned (.tuple #[.pointer none, .int .i64 (errW d l)]) ∧ Ext w w')
set_option maxRecDepth 100000 in
set_option maxHeartbeats 12800000 in
theorem restore_any {w : World} {ob : Nat} {FO : Nat → Prop} (ho : OrcAt w ob realM FO) (d : Nat) (h1 : 1 ≤ d) (h12 : d ≤ 12) (seed : UInt64) (v : Value) (l : List BlkT) (hr : RdBs w w v l) (hl : l.length ≤ 1000) (hs : ∀ b ∈ l, BSm b) :
    Calls Tryz.prog 44 #[.pointer (some ⟨ob, 0, none⟩), rlVal (rl49 d), uv seed, v] w (RestP w d seed l) := by
  obtain ⟨la, lc, rfl, -⟩ := hr.shape
  have HRD := hid hr
  have HS := hid hs
  have HLL := hid hl
  have HNW : Hid (∀ u, Ext w u → Calls Tryz.prog 27 #[.pointer (some ⟨ob, 0, none⟩), rlVal (rl49 (d : Int)), uv seed] u fun e w' => ∃ W G, e = .returned (.tuple #[.pointer (some ⟨W, 0, none⟩), .int .i64 0]) ∧ Ext u w' ∧ WalAt w' W d (fRed seed) [] G ∧ ∀ i, G i → u.heap.size ≤ i) := hid fun u k => walNew_any (ho.ext k) (rl49 (d : Int)) d rfl h1 h12 (by show (2 : Int) ≠ 3; omega) seed (txRules49_any d h1 h12)
  have hlI : (l.length : Int) ≤ 1000 := by omega
  obtain ⟨s, hsd⟩ : ∃ s, s = fRed seed := ⟨_, rfl⟩
  rw [← hsd] at HNW
  have HSD := hid hsd
  have hb := heap_new w (.cells #[.int .i64 2, .int .i64 (d : Int), .int .i64 0, .int .i64 0, .int .i64 0, .int .u64 50, .int .i64 10, .int .i64 10, .int .u64 1] 45)
  obtain ⟨N, hN⟩ : ∃ N, N = w.heap.size := ⟨_, rfl⟩
  obtain ⟨w0, hw0⟩ : ∃ w0, w0 = w.alloc (.cells #[.int .i64 2, .int .i64 (d : Int), .int .i64 0, .int .i64 0, .int .i64 0, .int .u64 50, .int .i64 10, .int .i64 10, .int .u64 1] 45) := ⟨_, rfl⟩
  have hx0 : Ext w w0 := by rw [hw0]; exact (Ext.refl w).alloc _
  rw [← hw0, ← hN] at hb
  have HX0 := hid hx0
  have HW := hid hw0
  obtain ⟨c0, c1, c2, c3, c4, c5, c6, c7, c8⟩ := nine_cells hb
  change Hid (∀ u, Ext w u → Calls Tryz.prog 27 #[.pointer (some ⟨ob, 0, none⟩), .agg #[.int .i64 2, .int .i64 (d : Int), .int .i64 0, .int .i64 0, .int .i64 0, .int .u64 50, .int .i64 10, .int .i64 10, .int .u64 1], uv seed] u fun e w' => ∃ W G, e = .returned (.tuple #[.pointer (some ⟨W, 0, none⟩), .int .i64 0]) ∧ Ext u w' ∧ WalAt w' W d s [] G ∧ ∀ i, G i → u.heap.size ≤ i) at HNW
  show Calls Tryz.prog 44 #[.pointer (some ⟨ob, 0, none⟩), .agg #[.int .i64 2, .int .i64 (d : Int), .int .i64 0, .int .i64 0, .int .i64 0, .int .u64 50, .int .i64 10, .int .i64 10, .int .u64 1], uv seed, .slice la l.length lc] w (RestP w d seed l)
  clear hw0 hx0 hb hr hs ho hsd
  go_enter Tryz.func44, Tryz.ntmps44
  go_upto_region 1 with fail
  rw [← HW.out, ← hN]
  clear hN HW
  go_wp2_with fail
  refine (HNW.out _ HX0.out).mono ?_
  rintro e w1 ⟨W, G, rfl, hx, hw, hg⟩
  have HI0 : Hid (∃ G, WalAt w1 W d s (l.take 0) G ∧ (∀ j, G j → w.heap.size ≤ j) ∧ Ext w w1 ∧ okAll d (l.take 0)) := hid ⟨G, hw, fun j hj => Nat.le_trans HX0.out.size (hg j hj), HX0.out.trans hx, okAll_nil d⟩
  clear hx hw hg HNW c0 c1 c2 c3 c4 c5 c6 c7 c8
  go_wp2_with fail
  go_loopw [27] (fun iv wr => ∃ i : Nat, i ≤ l.length ∧ iv = .int .i64 i ∧ Hid (∃ G, WalAt wr W d s (l.take i) G ∧ (∀ j, G j → w.heap.size ≤ j) ∧ Ext w wr ∧ okAll d (l.take i))) (fun iv _ => l.length - (intOf iv).toNat)
  case atStart => exact ⟨0, by omega, rfl, HI0⟩
  case round =>
    clear HI0
    obtain ⟨i, hi, rfl, HI⟩ := hrel
    have hi0 : (0 : Int) ≤ (i : Int) := Int.natCast_nonneg _
    obtain ⟨G, hwa, hgn, hxr, hok⟩ := HI.out
    by_cases hlt : i < l.length
    · have hltB : decide ((i : Int) < (l.length : Int)) = true := by simp; omega
      have hil : (i : Int) < (l.length : Int) := by omega
      obtain ⟨x, hxi⟩ : ∃ x, l[i]? = some x := ⟨_, List.getElem?_eq_getElem hlt⟩
      obtain ⟨b, q, ta, tc, rfl, htx, e0, e1, e2, e3, e4, e5⟩ := HRD.out.at hxi
      replace e0 := hxr.cell_some e0
      replace e1 := hxr.cell_some e1
      replace e2 := hxr.cell_some e2
      replace e3 := hxr.cell_some e3
      replace e4 := hxr.cell_some e4
      replace e5 := hxr.cell_some e5
      have HTX := hid htx
      have HBX := hid (HS.out x (List.mem_of_getElem? hxi))
      have HXI := hid hxi
      have HTK : Hid (l.take (i + 1) = l.take i ++ [x]) := hid (by rw [List.take_add_one, hxi]; rfl)
      have HWA := hid (And.intro hwa (And.intro hgn (And.intro hxr hok)))
      have HTL : Hid ((l.take i).length ≤ 1000) := hid (by rw [List.length_take]; have := HLL.out; omega)
      clear hxi htx hwa hgn hxr hok
      go_upto_region 7 with fail
      obtain ⟨Q, hQ⟩ : ∃ Q, Q = wr.heap.size := ⟨_, rfl⟩
      obtain ⟨u1, hu1⟩ : ∃ u1, u1 = wr.alloc (.cells #[uv x.parent, .int .i64 x.height, uv x.miner, uv x.work, uv x.nonce, .slice ta x.txs.length tc] 75) := ⟨_, rfl⟩
      rw [← hu1, ← hQ]
      have G1 : Hid (Ext wr u1) := hid (by rw [hu1]; exact (Ext.refl wr).alloc _)
      have hqb : u1.heap[Q]? = some (.cells #[uv x.parent, .int .i64 x.height, uv x.miner, uv x.work, uv x.nonce, .slice ta x.txs.length tc] 75 (0, 0)) := by rw [hu1, hQ]; exact heap_new _ _
      have APP := hid (wApply_any (HWA.out.1.ext G1.out) HTL.out HWA.out.2.2.2 (HWA.out.2.2.1.trans G1.out) HWA.out.2.1 x (.slice ta x.txs.length tc) HTX.out HBX.out.n HBX.out.t)
      obtain ⟨C, hC⟩ : ∃ C, C = checkW d (l.take i) x := ⟨_, rfl⟩
      rw [← hC] at APP
      have HCK := hid hC
      clear hu1 hQ e0 e1 e2 e3 e4 e5 hC
      obtain ⟨c0, c1, c2, c3, c4, c5⟩ := six_cellsB hqb
      clear hqb
      go_wp2_with fail
      refine (APP.out).mono ?_
      rintro e u2 ⟨rfl, hto⟩
      have HTO := hid hto
      have X2 : Hid (Ext w u2) := hid (by
        obtain ⟨G', g1, g2, g3⟩ := hto
        exact (HWA.out.2.2.1.trans G1.out).kp g2 HWA.out.2.1)
      clear hto APP c0 c1 c2 c3 c4 c5
      by_cases hz : C = 0
      · subst hz
        have HN : Hid (∃ G, WalAt u2 W d s (l.take (i + 1)) G ∧ (∀ j, G j → w.heap.size ≤ j) ∧ Ext w u2 ∧ okAll d (l.take (i + 1))) := hid (by
          have h := HTO.out
          rw [if_pos rfl, ← HTK.out] at h
          obtain ⟨G', g1, g2, g3⟩ := h
          refine ⟨G', g1, fun j hj => ?_, X2.out, okAll_snocT HWA.out.2.2.2 HXI.out HCK.out.symm⟩
          rcases g3 j hj with e | e
          · exact HWA.out.2.1 j e
          · have := (HWA.out.2.2.1.trans G1.out).size
            omega)
        clear HTO
        go_wp2_with fail
        go_roundw
        case rel => exact ⟨i + 1, by omega, by go_num, HN⟩
        case measure => simp [intOf]; omega
      · have hzB : decide (C = 0) = false := decide_eq_false hz
        have hzB2 : (C == 0) = false := by rw [beq_eq_false_iff_ne]; exact hz
        have HEW : Hid (errW d l = C ∧ C ≠ 0) := hid ⟨(errW_bad HWA.out.2.2.2 HXI.out (by rw [← HCK.out]; exact hz)).trans HCK.out.symm, hz⟩
        have HF : Hid (RestP w d seed l (.returned (.tuple #[.pointer none, .int .i64 C])) u2) := hid (.inr ⟨by rw [HEW.out.1]; exact HEW.out.2, by rw [HEW.out.1], X2.out⟩)
        clear hz HTO
        go_wp2_with fail
        go_ret2
        exact HF.out
    · have hltB : decide ((i : Int) < (l.length : Int)) = false := by simp; omega
      obtain rfl : i = l.length := by omega
      rw [List.take_length] at hwa hok
      have HF : Hid (RestP w d seed l (.returned (.tuple #[.pointer (some ⟨W, 0, none⟩), .int .i64 0])) wr) := hid (.inl ⟨errW_okAll.2 hok, W, G, rfl, by rw [← HSD.out]; exact hwa, hgn, hxr⟩)
      clear hwa hok hgn hxr HI
      go_wp2_with fail
      go_ret2
      exact HF.out
end Go.Proofs.YtcikjcjfcanloaaGreat
namespace Go.Proofs.YtcikjcjfcanloaaGreat
open Go.RowKit
attribute [local irreducible] perm fAdd fMul fPow fSub fNeg fRed hashU drawOf nextState
def smT (t : TxT) : Bool := smTx t 100
theorem wrap_next {i n : Nat} (h : bigN n) (hi : i < n) : wrap64 ((i : Int) + 1) = ((i + 1 : Nat) : Int) := by
  unfold bigN at h
  unfold wrap64
  omega
end Go.Proofs.YtcikjcjfcanloaaGreat
namespace Go.Proofs.YtcikjcjfcanloaaGreat
open Go.RowKit
attribute [local irreducible] perm fAdd fMul fPow fSub fNeg fRed hashU drawOf nextState
theorem wHeight_any {w : World} {W d : Nat} {seed : UInt64} {l : List BlkT} {G : Nat → Prop} (h : WalAt w W d seed l G) :
    Calls Tryz.prog 29 #[.pointer (some ⟨W, 0, none⟩)] w fun e w' => e = .returned (.int .i64 (l.length : Int)) ∧ Ext w w' := by
  obtain ⟨r, ps, ob, LB, nv, pv, FO, FT, h1, h2, rfl⟩ := h
  have hpl : ps.length = l.length := by rw [← psW_length seed l, ← h2, List.length_map]
  have := walHeight_any h1
  rwa [hpl] at this
theorem wEncode_any {w : World} {W d : Nat} {seed : UInt64} {l : List BlkT} {G : Nat → Prop} (h : WalAt w W d seed l G) (hok : okAll d l) :
    Calls Tryz.prog 39 #[.pointer (some ⟨W, 0, none⟩)] w (NewB w (walB l.length (stW seed l).leaves (stW seed l).notes)) := by
  have hd := depth_le h
  obtain ⟨r, ps, ob, LB, nv, pv, FO, FT, h1, h2, rfl⟩ := h
  have hpl : ps.length = l.length := by rw [← psW_length seed l, ← h2, List.length_map]
  have hL := fitsAll_stW ((okAll_fits (seed := seed)).2 hok)
  have hp := pow12 hd
  have hn := (stW_ok seed l).n
  simp only at hn
  have := walEncode_any h1 (by omega) (by omega)
  rwa [hpl] at this
end Go.Proofs.YtcikjcjfcanloaaGreat
namespace Go.Proofs.YtcikjcjfcanloaaGreat
open Go.RowKit
attribute [local irreducible] perm fAdd fMul fPow fSub fNeg fRed hashU drawOf nextState
theorem StD.dropS {G : Nat → Prop} {w : World} {a fa : Option Addr} {n c : Nat} {l : List BlkT} (h : StD G w (.slice a n c) l) {k : Nat} (hk : k ≤ l.length) (hf : (if c = k then a else a.map (·.add (k * 6))) = fa) : StD G w (.slice fa (l.length - k) (c - k)) (l.drop k) := fun u ku => RdBs.dropS (h u ku) hk hf
/-- A block of a list that stands. -/
theorem StD.at {G : Nat → Prop} {w : World} {a : Option Addr} {n c : Nat} {l : List BlkT} (h : StD G w (.slice a n c) l) {i : Nat} {x : BlkT} (hx : l[i]? = some x) :
    ∃ b q ta tc, a = some ⟨b, q, none⟩ ∧ RdTs (hole G w) (.slice ta x.txs.length tc) x.txs ∧
      (w.cell? ⟨b, q + i * 6, none⟩ = some (uv x.parent) ∧ w.cell? ⟨b, q + i * 6 + 1, none⟩ = some (.int .i64 x.height) ∧ w.cell? ⟨b, q + i * 6 + 2, none⟩ = some (uv x.miner) ∧ w.cell? ⟨b, q + i * 6 + 3, none⟩ = some (uv x.work) ∧ w.cell? ⟨b, q + i * 6 + 4, none⟩ = some (uv x.nonce) ∧ w.cell? ⟨b, q + i * 6 + 5, none⟩ = some (.slice ta x.txs.length tc)) := by
  obtain ⟨b, q, ta, tc, e, ht, f0, f1, f2, f3, f4, f5⟩ := (h _ (kp_hole G w)).at hx
  have hs : Sub (hole G w) w := hole_sub (Kp.refl G w)
  exact ⟨b, q, ta, tc, e, ht, hs _ _ f0, hs _ _ f1, hs _ _ f2, hs _ _ f3, hs _ _ f4, hs _ _ f5⟩
theorem StD.wal {w w' : World} {G G' : Nat → Prop} {v : Value} {l : List BlkT} (h : StD G w v l) (k : Kp G w w') (hn : ∀ i, G' i → G i ∨ w.heap.size ≤ i) : StD G' w' v l := StaW.to h k hn
theorem take_dropLast {l : List BlkT} {n : Nat} (h : n ≤ l.length) : (l.take n).dropLast = l.take (n - 1) := by
  rw [List.dropLast_eq_take, List.take_take, List.length_take, Nat.min_eq_left h]
  congr 1
  omega
theorem WalTo.ext {w w' u : World} {W d : Nat} {s : UInt64} {l : List BlkT} {G : Nat → Prop} (h : WalTo w W d s l G w') (k : Ext w' u) : WalTo w W d s l G u := by
  obtain ⟨G', h1, h2, h3⟩ := h
  exact ⟨G', h1.ext k, h2.chain (fun _ e => .inl e) (.of_ext k), h3⟩
/-- A block undone. -/
theorem undoTo {w wr : World} {W d : Nat} {s : UInt64} {l : List BlkT} {G : Nat → Prop} {n : Nat} (h : WalTo w W d s (l.take n) G wr) (hn : n ≤ l.length) (hl : l.length ≤ 1000) (hok : okAll d (l.take n)) (hs : ∀ b ∈ l, BSm b) :
    Calls Tryz.prog 30 #[.pointer (some ⟨W, 0, none⟩)] wr fun e w' => ∃ b, e = .returned (.bool b) ∧ WalTo w W d s (l.take (n - 1)) G w' := by
  obtain ⟨G', h1, h2, h3⟩ := h
  refine (wUndo_any h1 (by rw [List.length_take]; omega) hok fun b hb => (hs b (List.mem_of_mem_take hb)).n).mono ?_
  rintro e w' ⟨rfl, ht⟩
  rw [take_dropLast hn] at ht
  exact ⟨_, rfl, ht.trans h2 h3⟩
/-- A further block scanned. -/
theorem applyTo {w wr : World} {W d : Nat} {s : UInt64} {l : List BlkT} {G : Nat → Prop} {a : Option Addr} {m c : Nat} {ll : List BlkT} {x : BlkT} {i : Nat} (h : WalTo w W d s l G wr) (hl : l.length ≤ 1000) (hok : okAll d l) (hst : StD G w (.slice a m c) ll) (hx : ll[i]? = some x) (hs : BSm x) :
    ∃ b q ta tc, a = some ⟨b, q, none⟩ ∧ (∀ u, Ext wr u → Calls Tryz.prog 42 #[.pointer (some ⟨W, 0, none⟩), blkVal x (.slice ta x.txs.length tc)] u fun e w' => e = .returned (.int .i64 (checkW d l x)) ∧ WalTo w W d s (if checkW d l x = 0 then l ++ [x] else l) G w') ∧
      (wr.cell? ⟨b, q + i * 6, none⟩ = some (uv x.parent) ∧ wr.cell? ⟨b, q + i * 6 + 1, none⟩ = some (.int .i64 x.height) ∧ wr.cell? ⟨b, q + i * 6 + 2, none⟩ = some (uv x.miner) ∧ wr.cell? ⟨b, q + i * 6 + 3, none⟩ = some (uv x.work) ∧ wr.cell? ⟨b, q + i * 6 + 4, none⟩ = some (uv x.nonce) ∧ wr.cell? ⟨b, q + i * 6 + 5, none⟩ = some (.slice ta x.txs.length tc)) := by
  obtain ⟨G', h1, h2, h3⟩ := h
  obtain ⟨b, q, ta, tc, e, ht, fs⟩ := (hst.wal h2 h3).at hx
  refine ⟨b, q, ta, tc, e, fun u ku => ?_, fs⟩
  refine (wApply_sub (h1.ext ku) hl hok (wB := hole G' wr) (fun _ kv => hole_sub ((Kp.of_ext ku).chain (fun _ e => .inl e) kv)) x _ ht hs.n hs.t).mono ?_
  rintro e w' ⟨rfl, hto⟩
  exact ⟨rfl, hto.trans (h2.chain (fun _ e => .inl e) (.of_ext ku)) (fun i e => h3 i e)⟩
/-- What Follow answers. -/
def FollowP (w : World) (W d : Nat) (s : UInt64) (fr tl : List BlkT) (G : Nat → Prop) (e : Ending) (w' : World) : Prop :=
  (errW d tl = 0 ∧ e = .returned (.tuple #[.int .i64 ((fr.length : Int) - (commonW fr tl : Int)), .int .i64 ((tl.length : Int) - (commonW fr tl : Int)), .int .i64 0]) ∧ WalTo w W d s tl G w') ∨
  (errW d tl ≠ 0 ∧ e = .returned (.tuple #[.int .i64 0, .int .i64 0, .int .i64 (errW d tl)]) ∧ WalTo w W d s fr G w')
theorem follow_len {w : World} {W d : Nat} {s : UInt64} {fr : List BlkT} {G : Nat → Prop} (h : WalAt w W d s fr G) (fv tv : Value) (f2 t2 : List BlkT) (hf : RdBs w w fv f2) (ht : RdBs w w tv t2) (hne : f2.length ≠ fr.length) :
    Calls Tryz.prog 49 #[.pointer (some ⟨W, 0, none⟩), fv, tv] w fun e w' => e = .returned (.tuple #[.int .i64 0, .int .i64 0, .int .i64 1]) ∧ Ext w w' := by
  obtain ⟨fa, fc, rfl, -⟩ := hf.shape
  obtain ⟨ta, tc, rfl, -⟩ := ht.shape
  have HT := hid (wHeight_any h)
  have n1 : ((fr.length : Int) != (f2.length : Int)) = true := by rw [bne_iff_ne]; omega
  have n2 : ((fr.length : Int) == (f2.length : Int)) = false := by rw [beq_eq_false_iff_ne]; omega
  have n3 : decide (fr.length = f2.length) = false := decide_eq_false (fun e => hne e.symm)
  have n4 : ¬ fr.length = f2.length := fun e => hne e.symm
  clear h hf ht hne
  go_enter Tryz.func49, Tryz.ntmps49
  go_wp2_with fail
  refine (HT.out).mono ?_
  rintro e w1 ⟨rfl, hx⟩
  have X1 := hid hx
  clear hx HT
  go_wp2_with fail
  go_ret3
  exact ⟨rfl, X1.out⟩
set_option maxRecDepth 100000 in
set_option maxHeartbeats 51200000 in
theorem follow_any {w : World} {W d : Nat} {s : UInt64} {fr tl : List BlkT} {G : Nat → Prop} (h : WalAt w W d s fr G) (hok : okAll d fr) (fv tv : Value) (hf : StD G w fv fr) (ht : StD G w tv tl) (sf : ∀ b ∈ fr, BSm b) (st : ∀ b ∈ tl, BSm b) (hF : fr.length ≤ 1000) (hT : tl.length ≤ 1000) :
    Calls Tryz.prog 49 #[.pointer (some ⟨W, 0, none⟩), fv, tv] w (FollowP w W d s fr tl G) := by
  obtain ⟨fa, fc, rfl, hfc1, hfc2⟩ := hf.now.shape
  obtain ⟨ta, tc, rfl, htc1, htc2⟩ := ht.now.shape
  have HT := hid (wHeight_any h)
  have CM : Hid (∀ u, Ext w u → Calls Tryz.prog 93 #[.slice fa fr.length fc, .slice ta tl.length tc] u fun e w' => e = .returned (.int .i64 (commonW fr tl : Int)) ∧ Ext u w') := hid fun u k => common_any _ _ fr tl u (hf u (.of_ext k)) (ht u (.of_ext k)) sf st hF hT
  have HCT := hid (commonW_take fr tl)
  obtain ⟨hk1, hk2⟩ := commonW_le fr tl
  have HWF : Hid (∀ e w', (errW d tl = 0 ∧ e = .returned (.tuple #[.int .i64 ((fr.length : Int) - (commonW fr tl : Int)), .int .i64 ((tl.length : Int) - (commonW fr tl : Int)), .int .i64 0]) ∧ WalTo w W d s tl G w') ∨ (errW d tl ≠ 0 ∧ e = .returned (.tuple #[.int .i64 0, .int .i64 0, .int .i64 (errW d tl)]) ∧ WalTo w W d s fr G w') → FollowP w W d s fr tl G e w') := hid fun e w' h => h
  obtain ⟨k, hk⟩ : ∃ k, k = commonW fr tl := ⟨_, rfl⟩
  rw [← hk] at CM HCT hk1 hk2 HWF
  have HKF := hid (And.intro hk1 hk2)
  have HF := hid hf
  have HTT := hid ht
  have SF := hid sf
  have ST := hid st
  have HLF := hid (And.intro hF hT)
  have HOK := hid hok
  have HW0 := hid h
  obtain ⟨m1, hm1⟩ : ∃ m1, m1 = fr.length - k := ⟨_, rfl⟩
  obtain ⟨m2, hm2⟩ : ∃ m2, m2 = tl.length - k := ⟨_, rfl⟩
  have HM := hid (And.intro hm1 hm2)
  have hms1 : fr.length - k = m1 := hm1.symm
  have hms2 : tl.length - k = m2 := hm2.symm
  obtain ⟨f2, hf2⟩ : ∃ f2, (if fc = k then fa else Option.map (fun x => x.add (k * 6)) fa) = f2 := ⟨_, rfl⟩
  obtain ⟨t2, ht2⟩ : ∃ t2, (if tc = k then ta else Option.map (fun x => x.add (k * 6)) ta) = t2 := ⟨_, rfl⟩
  have HF2 : Hid (StD G w (.slice f2 m1 (fc - k)) (fr.drop k)) := hid (by rw [hm1]; exact hf.dropS hk1 hf2)
  have HT2 : Hid (StD G w (.slice t2 m2 (tc - k)) (tl.drop k)) := hid (by rw [hm2]; exact ht.dropS hk2 ht2)
  have hk1I : (k : Int) ≤ (fr.length : Int) := by omega
  have hk2I : (k : Int) ≤ (tl.length : Int) := by omega
  have hk0 : (0 : Int) ≤ (k : Int) := Int.natCast_nonneg _
  have hFI : (fr.length : Int) ≤ 1000 := by omega
  have hTI : (tl.length : Int) ≤ 1000 := by omega
  have hm1I : (m1 : Int) ≤ 1000 := by omega
  have hm2I : (m2 : Int) ≤ 1000 := by omega
  have hfcI : (fr.length : Int) ≤ (fc : Int) := by omega
  have htcI : (tl.length : Int) ≤ (tc : Int) := by omega
  clear h hok hf ht sf st hF hT hfc1 hfc2 htc1 htc2 hk hm1 hm2 hk1 hk2
  go_enter Tryz.func49, Tryz.ntmps49
  go_wp2_with fail
  refine (HT.out).mono ?_
  rintro e w1 ⟨rfl, hx⟩
  have X1 := hid hx
  clear hx HT
  go_wp2_with fail
  refine (CM.out _ X1.out).mono ?_
  rintro e w2 ⟨rfl, hx⟩
  have X2 := hid (X1.out.trans hx)
  clear hx CM
  have HI0 : Hid (WalTo w W d s (fr.take (fr.length - 0)) G w2) := hid (by rw [Nat.sub_zero, List.take_length]; exact .refl HW0.out X2.out)
  go_wp2_with fail
  go_loopw [27] (fun iv wr => ∃ i : Nat, i ≤ m1 ∧ iv = .int .i64 i ∧ Hid (WalTo w W d s (fr.take (fr.length - i)) G wr)) (fun iv _ => m1 - (intOf iv).toNat)
  case atStart => exact ⟨0, by omega, rfl, HI0⟩
  case round =>
    clear HI0
    obtain ⟨i, hi, rfl, HI⟩ := hrel
    have hi0 : (0 : Int) ≤ (i : Int) := Int.natCast_nonneg _
    by_cases hlt : i < m1
    · have hltB : decide ((i : Int) < (m1 : Int)) = true := decide_eq_true (by omega)
      have hil : (i : Int) < (m1 : Int) := by omega
      have UN := hid (undoTo HI.out (Nat.sub_le _ _) HLF.out.1 (okAll_take HOK.out _) SF.out)
      go_wp2_with fail
      refine (UN.out).mono ?_
      rintro e w3 ⟨bb, rfl, hto⟩
      have HN := hid hto
      rw [Nat.sub_sub] at HN
      clear hto UN
      go_wp2_with fail
      go_roundw
      case rel => exact ⟨i + 1, by omega, by go_num, HN⟩
      case measure => simp [intOf]; omega
    have hltB : decide ((i : Int) < (m1 : Int)) = false := decide_eq_false (by omega)
    obtain rfl : m1 = i := by omega
    have HJ0 : Hid (WalTo w W d s (tl.take (k + 0)) G wr ∧ okAll d (tl.take (k + 0))) := hid (by
      have h1 := HI.out
      have h2 := HM.out.1
      have h3 := HKF.out.1
      rw [show fr.length - m1 = k by omega, HCT.out] at h1
      refine ⟨h1, ?_⟩
      rw [Nat.add_zero, ← HCT.out]
      exact okAll_take HOK.out k)
    clear HI hlt
    go_wp2_with fail
    clear hltB
    go_loopw [36] (fun jv wr => ∃ j : Nat, j ≤ m2 ∧ jv = .int .i64 j ∧ Hid (WalTo w W d s (tl.take (k + j)) G wr ∧ okAll d (tl.take (k + j)))) (fun jv _ => m2 - (intOf jv).toNat)
    case atStart => exact ⟨0, by omega, rfl, HJ0⟩
    case round =>
      clear HJ0
      obtain ⟨j, hj, rfl, HJ⟩ := hrel
      have hj0 : (0 : Int) ≤ (j : Int) := Int.natCast_nonneg _
      by_cases hlj : j < m2
      case neg =>
        have hltB : decide ((j : Int) < (m2 : Int)) = false := decide_eq_false (by omega)
        obtain rfl : j = m2 := by omega
        have HEND : Hid (WalTo w W d s tl G wr ∧ errW d tl = 0) := hid (by
          have h1 := HJ.out
          have h2 := HM.out.2
          have h3 := HKF.out.2
          rw [show k + j = tl.length by omega, List.take_length] at h1
          exact ⟨h1.1, errW_okAll.2 h1.2⟩)
        have HFE : Hid (FollowP w W d s fr tl G (.returned (.tuple #[.int .i64 ((fr.length : Int) - (k : Int)), .int .i64 ((tl.length : Int) - (k : Int)), .int .i64 0])) wr) := hid (HWF.out _ _ (.inl ⟨HEND.out.2, rfl, HEND.out.1⟩))
        clear HJ hlj
        go_wp2_with fail
        go_ret3
        exact HFE.out
      have hltB : decide ((j : Int) < (m2 : Int)) = true := decide_eq_true (by omega)
      have hjl : (j : Int) < (m2 : Int) := by omega
      obtain ⟨x, hx⟩ : ∃ x, tl[k + j]? = some x := ⟨_, List.getElem?_eq_getElem (by have := HM.out.2; have := HKF.out.2; omega)⟩
      have hxd : (tl.drop k)[j]? = some x := by rw [List.getElem?_drop]; exact hx
      have HXI := hid hx
      have HTK : Hid (tl.take (k + (j + 1)) = tl.take (k + j) ++ [x]) := hid (by rw [show k + (j + 1) = k + j + 1 by omega, List.take_add_one, hx]; rfl)
      obtain ⟨b, q, xa, xc, hba, app, e0, e1, e2, e3, e4, e5⟩ := applyTo HJ.out.1 (by rw [List.length_take]; have := HLF.out.2; omega) HJ.out.2 HT2.out hxd (ST.out x (List.mem_of_getElem? hx))
      have HAPP := hid app
      subst hba
      obtain ⟨C, hC⟩ : ∃ C, C = checkW d (tl.take (k + j)) x := ⟨_, rfl⟩
      rw [← hC] at HAPP
      have HCK := hid hC
      clear hx hxd app hC
      go_upto_region 11 with fail
      obtain ⟨Q, hQ⟩ : ∃ Q, Q = wr.heap.size := ⟨_, rfl⟩
      obtain ⟨u1, hu1⟩ : ∃ u1, u1 = wr.alloc (.cells #[uv x.parent, .int .i64 x.height, uv x.miner, uv x.work, uv x.nonce, .slice xa x.txs.length xc] 75) := ⟨_, rfl⟩
      rw [← hu1, ← hQ]
      have G1 : Hid (Ext wr u1) := hid (by rw [hu1]; exact (Ext.refl wr).alloc _)
      have hqb : u1.heap[Q]? = some (.cells #[uv x.parent, .int .i64 x.height, uv x.miner, uv x.work, uv x.nonce, .slice xa x.txs.length xc] 75 (0, 0)) := by rw [hu1, hQ]; exact heap_new _ _
      clear hu1 hQ e0 e1 e2 e3 e4 e5
      obtain ⟨c0, c1, c2, c3, c4, c5⟩ := six_cellsB hqb
      clear hqb
      go_wp2_with fail
      refine (HAPP.out _ G1.out).mono ?_
      rintro e u2 ⟨rfl, hto⟩
      have HTO := hid hto
      clear hto HAPP c0 c1 c2 c3 c4 c5
      by_cases hz : C = 0
      case pos =>
        subst hz
        have HN : Hid (WalTo w W d s (tl.take (k + (j + 1))) G u2 ∧ okAll d (tl.take (k + (j + 1)))) := hid (by
          have h1 := HTO.out
          rw [if_pos rfl, ← HTK.out] at h1
          exact ⟨h1, okAll_snocT (i := k + j) HJ.out.2 HXI.out HCK.out.symm⟩)
        clear HTO
        go_wp2_with fail
        go_roundw
        case rel => exact ⟨j + 1, by omega, by go_num, HN⟩
        case measure => simp [intOf]; omega
      have hzB : decide (C = 0) = false := decide_eq_false hz
      have hzB2 : (C == 0) = false := by rw [beq_eq_false_iff_ne]; exact hz
      have HEW : Hid (errW d tl = C ∧ C ≠ 0) := hid ⟨(errW_bad HJ.out.2 HXI.out (by rw [← HCK.out]; exact hz)).trans HCK.out.symm, hz⟩
      have HRC : Hid (∀ u, WalTo w W d s fr G u → FollowP w W d s fr tl G (.returned (.tuple #[.int .i64 0, .int .i64 0, .int .i64 C])) u) := hid fun u hu => HWF.out _ _ (.inr ⟨by rw [HEW.out.1]; exact HEW.out.2, by rw [HEW.out.1], hu⟩)
      have HP0 : Hid (WalTo w W d s (tl.take (k + j - 0)) G u2) := hid (by
        have h1 := HTO.out
        rw [if_neg hz] at h1
        exact h1)
      clear hz HTO
      go_wp2_with fail
      go_loopw [47] (fun pv wr => ∃ p : Nat, p ≤ j ∧ pv = .int .i64 p ∧ Hid (WalTo w W d s (tl.take (k + j - p)) G wr)) (fun pv _ => j - (intOf pv).toNat)
      case atStart => exact ⟨0, by omega, rfl, HP0⟩
      case round =>
        clear HP0
        obtain ⟨p, hp, rfl, HP⟩ := hrel
        have hp0 : (0 : Int) ≤ (p : Int) := Int.natCast_nonneg _
        by_cases hpt : p < j
        · have hpB : decide ((p : Int) < (j : Int)) = true := decide_eq_true (by omega)
          have hpl : (p : Int) < (j : Int) := by omega
          have UN := hid (undoTo HP.out (by have := HM.out.2; have := HKF.out.2; omega) HLF.out.2 (by
            have h1 := okAll_take HJ.out.2 (k + j - p)
            rwa [List.take_take, Nat.min_eq_left (by omega)] at h1) ST.out)
          go_wp2_with fail
          refine (UN.out).mono ?_
          rintro e w3 ⟨bb, rfl, hto⟩
          have HN := hid hto
          rw [Nat.sub_sub] at HN
          clear hto UN
          go_wp2_with fail
          go_roundw
          case rel => exact ⟨p + 1, by omega, by go_num, HN⟩
          case measure => simp [intOf]; omega
        have hpB : decide ((p : Int) < (j : Int)) = false := decide_eq_false (by omega)
        obtain rfl : p = j := by omega
        have HR0 : Hid (WalTo w W d s (fr.take (k + 0)) G wr) := hid (by
          have h1 := HP.out
          rw [Nat.add_sub_cancel, ← HCT.out] at h1
          exact h1)
        clear HP hpt
        go_wp2_with fail
        clear hpB
        go_loopw [56] (fun rv wr => ∃ r : Nat, r ≤ m1 ∧ rv = .int .i64 r ∧ Hid (WalTo w W d s (fr.take (k + r)) G wr)) (fun rv _ => m1 - (intOf rv).toNat)
        case atStart => exact ⟨0, by omega, rfl, HR0⟩
        case round =>
          clear HR0
          obtain ⟨r, hr, rfl, HR⟩ := hrel
          have hr0 : (0 : Int) ≤ (r : Int) := Int.natCast_nonneg _
          by_cases hrt : r < m1
          case neg =>
            have hrB : decide ((r : Int) < (m1 : Int)) = false := decide_eq_false (by omega)
            obtain rfl : r = m1 := by omega
            have HEND : Hid (WalTo w W d s fr G wr) := hid (by
              have h1 := HR.out
              have h2 := HM.out.1
              have h3 := HKF.out.1
              rwa [show k + r = fr.length by omega, List.take_length] at h1)
            clear HR hrt
            go_wp2_with fail
            go_ret3
            exact HRC.out _ HEND.out
          have hrB : decide ((r : Int) < (m1 : Int)) = true := decide_eq_true (by omega)
          have hrl : (r : Int) < (m1 : Int) := by omega
          obtain ⟨y, hy⟩ : ∃ y, fr[k + r]? = some y := ⟨_, List.getElem?_eq_getElem (by have := HM.out.1; have := HKF.out.1; omega)⟩
          have hyd : (fr.drop k)[r]? = some y := by rw [List.getElem?_drop]; exact hy
          have HTKY : Hid (fr.take (k + (r + 1)) = fr.take (k + r) ++ [y]) := hid (by rw [show k + (r + 1) = k + r + 1 by omega, List.take_add_one, hy]; rfl)
          have HCY := hid (HOK.out (k + r) y hy)
          obtain ⟨b', q', ya, yc, hba, app, e0, e1, e2, e3, e4, e5⟩ := applyTo HR.out (by rw [List.length_take]; have := HLF.out.1; omega) (okAll_take HOK.out _) HF2.out hyd (SF.out y (List.mem_of_getElem? hy))
          rw [HCY.out, if_pos rfl, ← HTKY.out] at app
          have HAPP := hid app
          subst hba
          clear hy hyd app
          go_upto_region 20 with fail
          obtain ⟨Q2, hQ⟩ : ∃ Q, Q = wr.heap.size := ⟨_, rfl⟩
          obtain ⟨u3, hu1⟩ : ∃ u1, u1 = wr.alloc (.cells #[uv y.parent, .int .i64 y.height, uv y.miner, uv y.work, uv y.nonce, .slice ya y.txs.length yc] 75) := ⟨_, rfl⟩
          rw [← hu1, ← hQ]
          have G2 : Hid (Ext wr u3) := hid (by rw [hu1]; exact (Ext.refl wr).alloc _)
          have hqb : u3.heap[Q2]? = some (.cells #[uv y.parent, .int .i64 y.height, uv y.miner, uv y.work, uv y.nonce, .slice ya y.txs.length yc] 75 (0, 0)) := by rw [hu1, hQ]; exact heap_new _ _
          clear hu1 hQ e0 e1 e2 e3 e4 e5
          obtain ⟨c0, c1, c2, c3, c4, c5⟩ := six_cellsB hqb
          clear hqb
          go_wp2_with fail
          refine (HAPP.out _ G2.out).mono ?_
          rintro e u4 ⟨rfl, hto⟩
          have HN := hid hto
          clear hto HAPP c0 c1 c2 c3 c4 c5
          go_wp2_with fail
          go_roundw
          case rel => exact ⟨r + 1, by omega, by go_num, HN⟩
          case measure => simp [intOf]; omega
end Go.Proofs.YtcikjcjfcanloaaGreat
