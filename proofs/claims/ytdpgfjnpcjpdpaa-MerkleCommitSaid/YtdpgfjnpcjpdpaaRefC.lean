/- The law's same: two lists of lists compared. The reference's Commit. -/
import Derived.Test.YtdpgfjnpcjpdpaaRefO
import Derived.Test.YtdpgfjnpcjpdpaaCommit3
import Derived.Test.YtdpgfjnpcjpdpaaAllocs
set_option linter.unusedSimpArgs false
namespace Go.Proofs.Ytdpgfjnpcjpdpaa
open Go.RowKit
attribute [local irreducible] perm fAdd fMul fPow fSub fNeg fRed hashU drawOf nextState
set_option maxRecDepth 100000 in
set_option maxHeartbeats 1600000 in
theorem sameLv_any {w : World} {av bv : Value} {ls : Lv} (ha : RdL w av ls) (hb : RdL w bv ls) (hL : ls.length ≤ 1000000000) (hE : ∀ l ∈ ls, l.length ≤ 1000000000) :
    Calls Try.prog 53 #[av, bv] w fun e w' => e = .returned (.bool true) ∧ Ext w w' := by
  obtain ⟨aa, ac, rfl, -⟩ := ha.shape
  obtain ⟨ba, bc, rfl, -⟩ := hb.shape
  have HA := hid ha
  have HB := hid hb
  have HE := hid hE
  obtain ⟨n, hn⟩ : ∃ n, n = ls.length := ⟨_, rfl⟩
  have HN := hid hn
  rw [← hn] at HA HB hL ⊢
  clear ha hb hE hn
  have hB : ((n : Int) != (n : Int)) = false := by simp
  go_enter Try.func53, Try.ntmps53
  go_wp2_with fail
  go_loopw [13] (fun iv wr => ∃ i : Nat, i ≤ n ∧ iv = .int .i64 i ∧ Hid (Ext w wr)) (fun iv _ => (n - (intOf iv).toNat))
  case atStart => exact ⟨0, by omega, rfl, hid (Ext.refl _)⟩
  case round =>
    obtain ⟨i, hi, rfl, HX⟩ := hrel
    by_cases hlt : i < n
    · have hltB : decide ((i : Int) < (n : Int)) = true := by simp; omega
      obtain ⟨l, hll⟩ : ∃ l, ls[i]? = some l := ⟨_, List.getElem?_eq_getElem (by have := HN.out; omega)⟩
      obtain ⟨ab, ao, xa, xd, rfl, e0, e1, -, -⟩ := HA.out.at hll
      obtain ⟨bb, bo, ya, yd, rfl, f0, f1, -, -⟩ := HB.out.at hll
      have hil : (i : Int) < (n : Int) := by omega
      have hi0 : (0 : Int) ≤ (i : Int) := Int.natCast_nonneg _
      have H6 : Hid (∀ v, Ext w v → v.cell? ⟨ab, ao + i, none⟩ = some (.slice xa l.length xd) ∧ v.cell? ⟨bb, bo + i, none⟩ = some (.slice ya l.length yd)) := hid fun v k => ⟨k.cell_some e0, k.cell_some f0⟩
      have HSA : Hid (∀ v, Ext w v → Calls Try.prog 19 #[.slice xa l.length xd, .slice ya l.length yd] v fun e w' => e = .returned (.bool true) ∧ Ext v w') := hid fun v k => by
        have hlen := HE.out l (List.mem_of_getElem? hll)
        have := SameV_any _ _ l l v (e1.ext k) (f1.ext k) (by omega) (by omega)
        rw [show (l == l) = true by simp] at this
        exact this
      clear e0 e1 f0 f1 hll
      go_wp2_with fail
      refine wp_region_T (fun v => (v.cell? ⟨ab, ao + i, none⟩ = some (.slice xa l.length xd) ∧ v.cell? ⟨bb, bo + i, none⟩ = some (.slice ya l.length yd)) ∧ Ext w v) 8 [(0, true), (1, true), (2, true), (3, true), (4, true), (5, true), (6, true), (7, true), (8, false), (9, false)] (by kernel_rfl) (by kernel_rfl) (by intro c a d v w h; cases d <;> exact h) ?_
      intro ops hops
      have HS : _ ∧ Ext w wr.drew := ⟨H6.out _ HX.out.drew, HX.out.drew⟩
      iterate 8
        refine wpT_take (v := ?_) (by rw [hops, List.getElem?_toArray]; rfl) (by first | rfl | (rw [hops]; rfl)) ?_ HS ?_
        rotate_left
        · intro v h; go_simp; with_reducible rfl
        simp only [Act.put, List.getElem_toArray, List.getElem_cons_zero, List.getElem_cons_succ, List.setIfInBounds_toArray, List.set_cons_zero, List.set_cons_succ]
      refine wpT_step (by rw [hops, List.getElem?_toArray]; rfl) (by first | rfl | (rw [hops]; rfl)) ?_
      intro K hK
      go_wp2_with fail
      refine (HSA.out _ HX.out.drew).mono ?_
      rintro e w1 ⟨rfl, hx1⟩
      have HX1 := hid (HX.out.drew.trans hx1)
      clear hx1 HS
      refine hK _ _ ⟨fun h => absurd h (by decide), ?_⟩
      clear hK K
      refine wpT_step (by rw [hops, List.getElem?_toArray]; rfl) (by first | rfl | (rw [hops]; rfl)) ?_
      intro K hK
      go_wp2_with fail
      try (with_reducible refine ⟨fun h => absurd h (by decide), ?_⟩)
      try rw [wpT_nil]
      try clear hops ops
      go_wp2_with fail
      go_roundw
      case rel => exact ⟨i + 1, by omega, by go_num, HX1⟩
      case measure => simp [intOf]; omega
    · have hin' : i = n := by omega
      have hltB : decide ((i : Int) < (n : Int)) = false := by simp; omega
      go_wp2
      go_ret
      exact ⟨rfl, HX.out⟩

/-! ## the reference's Commit -/
abbrev Z12c : Obj := .cells #[.bool false, .int .u64 0, .int .i64 0, .slice none 0 0, .slice none 0 0, .slice none 0 0] 105
def RComO (G : Nat → Prop) (w : World) (M : Orc) (leaves : Lv) (salts : List UInt64) (e : Ending) (w' : World) : Prop :=
  ∃ lv qv sv pv, e = .returned (.tuple #[lv, oVal (M.commitT leaves salts).2.ideal (M.commitT leaves salts).2.state (M.commitT leaves salts).2.draws qv sv pv, .int .i64 (if commitOk leaves salts then 0 else 1)]) ∧
    (∀ w'', Kp G w' w'' → RdL w'' lv (M.commitT leaves salts).1) ∧ StMc G w' qv sv pv (M.commitT leaves salts).2 ∧ Ext w w'
theorem rcom_no {G : Nat → Prop} {w w' : World} {M : Orc} {leaves : Lv} {salts : List UInt64} {qv sv pv : Value} (hno : commitOk leaves salts = false) (hc : StMc G w' qv sv pv M) (hx : Ext w w') :
    RComO G w M leaves salts (.returned (.tuple #[.slice none 0 0, oVal M.ideal M.state M.draws qv sv pv, .int .i64 1])) w' := by
  have he : M.commitT leaves salts = ([], M) := by unfold Orc.commitT; rw [hno]; rfl
  unfold RComO
  rw [he, hno]
  exact ⟨_, _, _, _, rfl, fun v _ => ⟨[], rfl, RdC.nil v, fun i x l hx => by simp at hx⟩, hc, hx⟩
/-- Where a round of the loop over the leaves begins. -/
structure LRel (w0 wr : World) (n : Nat) (G : Nat → Prop) (M : Orc) (qs : List (UInt64 × List UInt64)) (i : Nat) (lev : List UInt64) (M' : Orc) (lvv qv sv pv : Value) : Prop where
  box : wr.heap[n]? = some (.cells #[.bool M'.ideal, uv M'.state, .int .i64 (M'.draws : Int), qv, sv, pv] 105 (0, 0))
  st : StMc (fun k => (G k ∨ k = n ∨ k = n + 1) ∨ some k = blk lvv) wr qv sv pv M'
  own : OwnU wr lvv lev
  new : ∀ k, blk lvv = some k → w0.heap.size ≤ k
  kp : Kp (fun k => k = n) w0 wr
  asks : M.asks (qs.take i) = (lev, M')
  so : M'.sound
  el : ∀ q ∈ M'.qs, q.elems.length ≤ 50000000
  id : M'.ideal = M.ideal
  il : i ≤ qs.length
structure TRel (w0 wr : World) (n : Nat) (G : Nat → Prop) (M : Orc) (N : Nat) (all : Lv × Orc) (lvv outv : Value) (L : List (List UInt64 × Value)) (lev : List UInt64) (M' : Orc) (k : Nat) (qv sv pv : Value) : Prop where
  box : wr.heap[n]? = some (.cells #[.bool M'.ideal, uv M'.state, .int .i64 (M'.draws : Int), qv, sv, pv] 105 (0, 0))
  st : StMc (fun k => (G k ∨ some k = blk outv) ∨ k = n ∨ k = n + 1) wr qv sv pv M'
  bes : BesideL w0 wr (fun _ => False) outv (L ++ [(lev, lvv)])
  kp : Kp (fun k => k = n) w0 wr
  spec : all = (L.map (·.1) ++ (M'.climb k lev).1, (M'.climb k lev).2)
  num : isNum lev.length = true
  pow : lev.length ≤ 2 ^ k
  len : L.length + k ≤ 10
  so : M'.sound
  el : ∀ q ∈ M'.qs, q.elems.length ≤ 50000000
  id : M'.ideal = M.ideal
  qs : M'.qs.length + lev.length ≤ M.qs.length + 2 * N
  draws : M'.draws + lev.length ≤ M.draws + 2 * N
theorem LRel.sizes {w0 wr : World} {n : Nat} {G : Nat → Prop} {M : Orc} {qs : List (UInt64 × List UInt64)} {i : Nat} {lev : List UInt64} {M' : Orc} {lvv qv sv pv : Value} (h : LRel w0 wr n G M qs i lev M' lvv qv sv pv) :
    lev.length = i ∧ M'.qs.length ≤ M.qs.length + i ∧ M'.draws ≤ M.draws + i := by
  have hi : (qs.take i).length = i := by rw [List.length_take, Nat.min_eq_left h.il]
  have h1 := asks_length (qs.take i) M
  have h2 := asks_qs_le (qs.take i) M
  have h3 := asks_draws_le (qs.take i) M
  rw [h.asks, hi] at h1 h2 h3
  exact ⟨h1, h2, h3⟩
/-- Behind Hash, beside the block that is to hold the oracle. -/
def CHs (wr : World) (G : Nat → Prop) (r : UInt64 × Orc) (rm : Value) : CB := fun b1 x v => Ext wr v ∧ (b1 = true → zF wr (fun _ => False) Z12c x v) ∧
  ∃ qv sv pv u0 L, rm = .tuple #[uv r.1, oVal r.2.ideal r.2.state r.2.draws qv sv pv] ∧ Ext u0 v ∧ StMc (fun k => G k ∨ wr.heap.size ≤ k ∧ k < L) u0 qv sv pv r.2 ∧ (b1 = true → ∃ g, x = .pointer (some ⟨g, 0, none⟩) ∧ (g < L ∨ u0.heap.size ≤ g))
theorem CHs.grows {wr : World} {G : Nat → Prop} {r : UInt64 × Orc} {rm : Value} {S : World → Prop} (hS : ∀ v, Ext wr v → S v) : CB.Grows S Z12c (CHs wr G r rm) where
  s := fun _ _ _ h => hS _ h.1
  g1 := fun _ _ ⟨a1, _, qv, sv, pv, u0, L, h1, h2, h3, _⟩ => ⟨a1.alloc _, fun _ => zF.new a1.size (fun _ h => h.elim), qv, sv, pv, u0, L, h1, h2.alloc _, h3, fun _ => ⟨_, rfl, .inr h2.size⟩⟩
theorem chs_put {wr u0 v W : World} {L g : Nat} {G : Nat → Prop} {qv sv pv : Value} {M : Orc} (h2 : Ext u0 v) (h3 : StMc (fun k => G k ∨ wr.heap.size ≤ k ∧ k < L) u0 qv sv pv M) (hg : wr.heap.size ≤ g) (h5 : g < L ∨ u0.heap.size ≤ g) (hk : Kp (fun k => k = g) v W) : StMc G W qv sv pv M := by
  rcases h5 with h5 | h5
  · exact h3.grow ((Kp.of_ext h2).trans (hk.mono fun k _ h => by subst h; exact .inr ⟨hg, h5⟩)) (fun i h => .inl (.inl h))
  · exact h3.grow (.of_ext (h2.kp hk fun k h => by subst h; exact h5)) (fun i h => .inl (.inl h))
set_option maxRecDepth 100000 in
set_option maxHeartbeats 12800000 in
theorem rCommit_any {G : Nat → Prop} {w : World} {qv sv pv lv ssv : Value} {M : Orc} {leaves : Lv} {salts : List UInt64} (hc : StMc G w qv sv pv M) (hG : ∀ k, G k → k < w.heap.size) (hs : M.sound) (hl : RdL w lv leaves) (hss : RdU' w ssv salts)
    (hL : leaves.length ≤ 10000) (hE : ∀ l ∈ leaves, l.length ≤ 1000000) (hS : salts.length ≤ 1000000) (hf : M.qs.length ≤ 1000000) (hQE : ∀ q ∈ M.qs, q.elems.length ≤ 50000000) (hd : M.draws ≤ 1000000) :
    Calls Try.prog 52 #[oVal M.ideal M.state M.draws qv sv pv, lv, ssv] w (RComO G w M leaves salts) := by
  obtain ⟨⟨qa, qn, qc, rfl⟩, ⟨sa, sn, sc, rfl⟩, ⟨pa, pn, pc, rfl⟩⟩ := hc.now.sl
  obtain ⟨la, lc, rfl, -⟩ := hl.shape
  obtain ⟨ta, tc, rfl, -⟩ := id hss
  obtain ⟨n, hn⟩ : ∃ n, n = w.heap.size := ⟨_, rfl⟩
  obtain ⟨w0, hw0⟩ : ∃ w0, w0 = (w.alloc (.cells #[.bool M.ideal, uv M.state, .int .i64 (M.draws : Int), .slice qa qn qc, .slice sa sn sc, .slice pa pn pc] 105)).alloc (.cells #[.bool false, .int .u64 0, .int .i64 0, .slice none 0 0, .slice none 0 0, .slice none 0 0] 105) := ⟨_, rfl⟩
  obtain ⟨hx0, hb0, hb1, hz0⟩ := two_new w (.cells #[.bool M.ideal, uv M.state, .int .i64 (M.draws : Int), .slice qa qn qc, .slice sa sn sc, .slice pa pn pc] 105) (.cells #[.bool false, .int .u64 0, .int .i64 0, .slice none 0 0, .slice none 0 0, .slice none 0 0] 105)
  rw [← hw0, ← hn] at hb0 hb1
  rw [← hw0] at hx0 hz0
  have HW := hid hw0
  have HN := hid hn
  have HX0 := hid hx0
  have HZ0 := hid hz0
  have HB0 := hid hb0
  have HB1 := hid hb1
  have HC := hid hc
  have HG := hid hG
  have HSO := hid hs
  have HL := hid hl
  have HSS := hid hss
  have HE := hid hE
  have HQE := hid (And.intro hQE hd)
  have H6 : Hid (∀ v, Ext w0 v → v.cell? ⟨n, 0, none⟩ = some (.bool M.ideal) ∧ v.cell? ⟨n, 1, none⟩ = some (uv M.state) ∧ v.cell? ⟨n, 2, none⟩ = some (.int .i64 (M.draws : Int)) ∧ v.cell? ⟨n, 3, none⟩ = some (.slice qa qn qc) ∧ v.cell? ⟨n, 4, none⟩ = some (.slice sa sn sc) ∧ v.cell? ⟨n, 5, none⟩ = some (.slice pa pn pc)) := hid fun v k => six_cellsO (k.heap_some HB0.out)
  have hck : commitOk leaves salts = (isNum leaves.length && (salts.length == leaves.length && (allE salts && leaves.all allE))) := rfl
  have HCK := hid hck
  clear hw0 hx0 hz0 hb0 hb1 hc hG hs hl hss hE hQE hd hck
  go_enter Try.func52, Try.ntmps52
  go_upto_region 1 with fail
  rw [← HW.out, ← hn]
  clear hn
  go_wp2_with fail
  refine (Count_len leaves.length _).mono ?_
  rintro e w1 ⟨rfl, rfl⟩
  cases hnm : isNum leaves.length with
  | false =>
    have HFIN := hid (show commitOk leaves salts = false by rw [HCK.out, hnm]; rfl)
    clear hnm
    go_wp2_with fail
    refine wp_region_T (fun v => (v.cell? ⟨n, 0, none⟩ = some (.bool M.ideal) ∧ v.cell? ⟨n, 1, none⟩ = some (uv M.state) ∧ v.cell? ⟨n, 2, none⟩ = some (.int .i64 (M.draws : Int)) ∧ v.cell? ⟨n, 3, none⟩ = some (.slice qa qn qc) ∧ v.cell? ⟨n, 4, none⟩ = some (.slice sa sn sc) ∧ v.cell? ⟨n, 5, none⟩ = some (.slice pa pn pc)) ∧ Ext w0 v) 2 [(0, true), (1, true), (2, false), (3, false)] (by kernel_rfl) (by kernel_rfl) (by intro c a d v w h; cases d <;> exact h) ?_
    intro ops hops
    have HS := keep0 H6.out
    iterate 2
      refine wpT_take (v := ?_) (by rw [hops, List.getElem?_toArray]; rfl) (by first | rfl | (rw [hops]; rfl)) ?_ HS ?_
      rotate_left
      · intro v h; go_simp; with_reducible rfl
      simp only [Act.put, List.getElem_toArray, List.getElem_cons_zero, List.getElem_cons_succ, List.setIfInBounds_toArray, List.set_cons_zero, List.set_cons_succ]
    obtain ⟨k0, k1, k2, k3, k4, k5⟩ := six_cellsO HB1.out
    have kf := frozen_of HB1.out
    have HPT := hid (six_setO (d0 := .bool M.ideal) (d1 := uv M.state) (d2 := .int .i64 (M.draws : Int)) (d3 := .slice qa qn qc) (d4 := .slice sa sn sc) (d5 := .slice pa pn pc) HB1.out)
    clear HS
    refine wpT_step (by rw [hops, List.getElem?_toArray]; rfl) (by first | rfl | (rw [hops]; rfl)) ?_
    intro K hK
    go_wp2_with fail
    try (with_reducible refine ⟨fun h => absurd h (by decide), ?_⟩)
    try rw [← hops]
    refine wpT_step (by rw [hops, List.getElem?_toArray]; rfl) (by first | rfl | (rw [hops]; rfl)) ?_
    intro K hK
    go_wp2_with fail
    try (with_reducible refine ⟨fun h => absurd h (by decide), ?_⟩)
    try rw [wpT_nil]
    try clear hops ops
    go_wp2_with fail
    obtain ⟨hb9, hk9⟩ := HPT.out
    obtain ⟨r0, r1, r2, r3, r4, r5⟩ := six_cellsO hb9
    have hx9 := HX0.out.kp hk9.drew (fun k h => by have := HN.out; subst h; omega)
    refine bodyPost_ret (v := .tuple #[.slice none 0 0, oVal M.ideal M.state M.draws (.slice qa qn qc) (.slice sa sn sc) (.slice pa pn pc), .int .i64 1]) (by simp [results, Try.results52, go_sem, r0, r1, r2, r3, r4, r5]) rfl ?_
    exact rcom_no HFIN.out (HC.out.ext hx9) hx9
  | true =>
    have HNM := hid hnm
    clear hnm
    by_cases hlen : salts.length = leaves.length
    case neg =>
      have hq : ((salts.length : Int) != (leaves.length : Int)) = true := by simp; omega
      have HFIN := hid (show commitOk leaves salts = false by rw [HCK.out, show (salts.length == leaves.length) = false by simpa using hlen]; simp)
      clear hlen
      go_wp2_with fail
      refine wp_region_T (fun v => (v.cell? ⟨n, 0, none⟩ = some (.bool M.ideal) ∧ v.cell? ⟨n, 1, none⟩ = some (uv M.state) ∧ v.cell? ⟨n, 2, none⟩ = some (.int .i64 (M.draws : Int)) ∧ v.cell? ⟨n, 3, none⟩ = some (.slice qa qn qc) ∧ v.cell? ⟨n, 4, none⟩ = some (.slice sa sn sc) ∧ v.cell? ⟨n, 5, none⟩ = some (.slice pa pn pc)) ∧ Ext w0 v) 2 [(0, true), (1, true), (2, false), (3, false)] (by kernel_rfl) (by kernel_rfl) (by intro c a d v w h; cases d <;> exact h) ?_
      intro ops hops
      have HS := keep0 H6.out
      iterate 2
        refine wpT_take (v := ?_) (by rw [hops, List.getElem?_toArray]; rfl) (by first | rfl | (rw [hops]; rfl)) ?_ HS ?_
        rotate_left
        · intro v h; go_simp; with_reducible rfl
        simp only [Act.put, List.getElem_toArray, List.getElem_cons_zero, List.getElem_cons_succ, List.setIfInBounds_toArray, List.set_cons_zero, List.set_cons_succ]
      obtain ⟨k0, k1, k2, k3, k4, k5⟩ := six_cellsO HB1.out
      have kf := frozen_of HB1.out
      have HPT := hid (six_setO (d0 := .bool M.ideal) (d1 := uv M.state) (d2 := .int .i64 (M.draws : Int)) (d3 := .slice qa qn qc) (d4 := .slice sa sn sc) (d5 := .slice pa pn pc) HB1.out)
      clear HS
      refine wpT_step (by rw [hops, List.getElem?_toArray]; rfl) (by first | rfl | (rw [hops]; rfl)) ?_
      intro K hK
      go_wp2_with fail
      try (with_reducible refine ⟨fun h => absurd h (by decide), ?_⟩)
      try rw [← hops]
      refine wpT_step (by rw [hops, List.getElem?_toArray]; rfl) (by first | rfl | (rw [hops]; rfl)) ?_
      intro K hK
      go_wp2_with fail
      try (with_reducible refine ⟨fun h => absurd h (by decide), ?_⟩)
      try rw [wpT_nil]
      try clear hops ops
      go_wp2_with fail
      obtain ⟨hb9, hk9⟩ := HPT.out
      obtain ⟨r0, r1, r2, r3, r4, r5⟩ := six_cellsO hb9
      have hx9 := HX0.out.kp hk9.drew (fun k h => by have := HN.out; subst h; omega)
      refine bodyPost_ret (v := .tuple #[.slice none 0 0, oVal M.ideal M.state M.draws (.slice qa qn qc) (.slice sa sn sc) (.slice pa pn pc), .int .i64 1]) (by simp [results, Try.results52, go_sem, r0, r1, r2, r3, r4, r5]) rfl ?_
      exact rcom_no HFIN.out (HC.out.ext hx9) hx9
    have hq : ((salts.length : Int) != (leaves.length : Int)) = false := by simp [hlen]
    have HLEN := hid hlen
    clear hlen
    go_wp2_with fail
    refine (ElementsV_any _ salts _ (HSS.out.ext HX0.out) (by omega)).mono ?_
    rintro e w1 ⟨rfl, rfl⟩
    cases hsa : allE salts with
    | false =>
      have HFIN := hid (show commitOk leaves salts = false by rw [HCK.out, hsa]; simp)
      clear hsa
      go_wp2_with fail
      refine wp_region_T (fun v => (v.cell? ⟨n, 0, none⟩ = some (.bool M.ideal) ∧ v.cell? ⟨n, 1, none⟩ = some (uv M.state) ∧ v.cell? ⟨n, 2, none⟩ = some (.int .i64 (M.draws : Int)) ∧ v.cell? ⟨n, 3, none⟩ = some (.slice qa qn qc) ∧ v.cell? ⟨n, 4, none⟩ = some (.slice sa sn sc) ∧ v.cell? ⟨n, 5, none⟩ = some (.slice pa pn pc)) ∧ Ext w0 v) 2 [(0, true), (1, true), (2, false), (3, false)] (by kernel_rfl) (by kernel_rfl) (by intro c a d v w h; cases d <;> exact h) ?_
      intro ops hops
      have HS := keep0 H6.out
      iterate 2
        refine wpT_take (v := ?_) (by rw [hops, List.getElem?_toArray]; rfl) (by first | rfl | (rw [hops]; rfl)) ?_ HS ?_
        rotate_left
        · intro v h; go_simp; with_reducible rfl
        simp only [Act.put, List.getElem_toArray, List.getElem_cons_zero, List.getElem_cons_succ, List.setIfInBounds_toArray, List.set_cons_zero, List.set_cons_succ]
      obtain ⟨k0, k1, k2, k3, k4, k5⟩ := six_cellsO HB1.out
      have kf := frozen_of HB1.out
      have HPT := hid (six_setO (d0 := .bool M.ideal) (d1 := uv M.state) (d2 := .int .i64 (M.draws : Int)) (d3 := .slice qa qn qc) (d4 := .slice sa sn sc) (d5 := .slice pa pn pc) HB1.out)
      clear HS
      refine wpT_step (by rw [hops, List.getElem?_toArray]; rfl) (by first | rfl | (rw [hops]; rfl)) ?_
      intro K hK
      go_wp2_with fail
      try (with_reducible refine ⟨fun h => absurd h (by decide), ?_⟩)
      try rw [← hops]
      refine wpT_step (by rw [hops, List.getElem?_toArray]; rfl) (by first | rfl | (rw [hops]; rfl)) ?_
      intro K hK
      go_wp2_with fail
      try (with_reducible refine ⟨fun h => absurd h (by decide), ?_⟩)
      try rw [wpT_nil]
      try clear hops ops
      go_wp2_with fail
      obtain ⟨hb9, hk9⟩ := HPT.out
      obtain ⟨r0, r1, r2, r3, r4, r5⟩ := six_cellsO hb9
      have hx9 := HX0.out.kp hk9.drew (fun k h => by have := HN.out; subst h; omega)
      refine bodyPost_ret (v := .tuple #[.slice none 0 0, oVal M.ideal M.state M.draws (.slice qa qn qc) (.slice sa sn sc) (.slice pa pn pc), .int .i64 1]) (by simp [results, Try.results52, go_sem, r0, r1, r2, r3, r4, r5]) rfl ?_
      exact rcom_no HFIN.out (HC.out.ext hx9) hx9
    | true =>
      have HSA := hid hsa
      clear hsa
      go_wp2_with fail
      go_loop [9] (fun iv => ∃ i : Nat, i ≤ leaves.length ∧ iv = .int .i64 i ∧ Hid ((leaves.take i).all allE = true)) (fun iv => leaves.length - (intOf iv).toNat)
      case atStart => exact ⟨0, by omega, rfl, hid rfl⟩
      case round =>
        obtain ⟨i, hi, rfl, hI⟩ := hrel
        by_cases hlt : i < leaves.length
        · have hltB : decide ((i : Int) < (leaves.length : Int)) = true := by simp; omega
          obtain ⟨l, hkk⟩ : ∃ l, leaves[i]? = some l := ⟨_, List.getElem?_eq_getElem hlt⟩
          obtain ⟨b', o', y, d, rfl, hc, hr, -⟩ := (HL.out.ext HX0.out).at hkk
          have hle := HE.out l (List.mem_of_getElem? hkk)
          have HKK := hid hkk
          have HR := hid (ElementsV_any _ l _ hr (by omega))
          have hi0 : (0 : Int) ≤ (i : Int) := by omega
          have hil : (i : Int) < (leaves.length : Int) := by omega
          clear hkk hr
          go_wp2_with fail
          refine HR.out.mono ?_
          rintro e w1 ⟨rfl, rfl⟩
          cases hla : allE l with
          | true =>
            have hnext : (leaves.take (i + 1)).all allE = true := by
              rw [List.take_add_one, HKK.out, List.all_append, hI.out]; simp [hla]
            have HNX := hid hnext
            clear hnext hla
            go_wp2_with fail
            go_round
            case rel => exact ⟨i + 1, by omega, by go_num, HNX⟩
            case measure => simp [intOf]; omega
          | false =>
            have HFIN := hid (show commitOk leaves salts = false by
              rw [HCK.out, show leaves.all allE = false by rw [List.all_eq_false]; exact ⟨l, List.mem_of_getElem? HKK.out, by rw [hla]; decide⟩]; simp)
            clear hla
            go_wp2_with fail
            refine wp_region_T (fun v => (v.cell? ⟨n, 0, none⟩ = some (.bool M.ideal) ∧ v.cell? ⟨n, 1, none⟩ = some (uv M.state) ∧ v.cell? ⟨n, 2, none⟩ = some (.int .i64 (M.draws : Int)) ∧ v.cell? ⟨n, 3, none⟩ = some (.slice qa qn qc) ∧ v.cell? ⟨n, 4, none⟩ = some (.slice sa sn sc) ∧ v.cell? ⟨n, 5, none⟩ = some (.slice pa pn pc)) ∧ Ext w0 v) 2 [(0, true), (1, true), (2, false), (3, false)] (by kernel_rfl) (by kernel_rfl) (by intro c a d v w h; cases d <;> exact h) ?_
            intro ops hops
            have HS := keep0 H6.out
            iterate 2
              refine wpT_take (v := ?_) (by rw [hops, List.getElem?_toArray]; rfl) (by first | rfl | (rw [hops]; rfl)) ?_ HS ?_
              rotate_left
              · intro v h; go_simp; with_reducible rfl
              simp only [Act.put, List.getElem_toArray, List.getElem_cons_zero, List.getElem_cons_succ, List.setIfInBounds_toArray, List.set_cons_zero, List.set_cons_succ]
            obtain ⟨k0, k1, k2, k3, k4, k5⟩ := six_cellsO HB1.out
            have kf := frozen_of HB1.out
            have HPT := hid (six_setO (d0 := .bool M.ideal) (d1 := uv M.state) (d2 := .int .i64 (M.draws : Int)) (d3 := .slice qa qn qc) (d4 := .slice sa sn sc) (d5 := .slice pa pn pc) HB1.out)
            clear HS
            refine wpT_step (by rw [hops, List.getElem?_toArray]; rfl) (by first | rfl | (rw [hops]; rfl)) ?_
            intro K hK
            go_wp2_with fail
            try (with_reducible refine ⟨fun h => absurd h (by decide), ?_⟩)
            try rw [← hops]
            refine wpT_step (by rw [hops, List.getElem?_toArray]; rfl) (by first | rfl | (rw [hops]; rfl)) ?_
            intro K hK
            go_wp2_with fail
            try (with_reducible refine ⟨fun h => absurd h (by decide), ?_⟩)
            try rw [wpT_nil]
            try clear hops ops
            go_wp2_with fail
            obtain ⟨hb9, hk9⟩ := HPT.out
            obtain ⟨r0, r1, r2, r3, r4, r5⟩ := six_cellsO hb9
            have hx9 := HX0.out.kp hk9.drew (fun k h => by have := HN.out; subst h; omega)
            refine bodyPost_ret (v := .tuple #[.slice none 0 0, oVal M.ideal M.state M.draws (.slice qa qn qc) (.slice sa sn sc) (.slice pa pn pc), .int .i64 1]) (by simp [results, Try.results52, go_sem, r0, r1, r2, r3, r4, r5]) rfl ?_
            exact rcom_no HFIN.out (HC.out.ext hx9) hx9
        · obtain rfl : i = leaves.length := by omega
          have hltB : decide ((leaves.length : Int) < (leaves.length : Int)) = false := by simp
          have hla := hI.out
          rw [List.take_length] at hla
          have HOK := hid (show commitOk leaves salts = true by rw [HCK.out, HNM.out, HSA.out, hla, HLEN.out]; simp)
          clear hla
          have hqn : (leafQ leaves salts).length = leaves.length := leafQ_length HLEN.out
          have HQN := hid hqn
          have HLR0 : Hid (LRel w0 w0 n G M (leafQ leaves salts) 0 [] M (.slice none 0 0) (.slice qa qn qc) (.slice sa sn sc) (.slice pa pn pc)) := hid {
            box := HB0.out
            st := HC.out.grow (.of_ext HX0.out) (fun k h => by
              rcases h with (h | h) | h
              · exact .inl h
              · exact .inr (by have := HN.out; omega)
              · cases h)
            own := World.ownsRow_nil _ _ _ _
            new := fun k h => by cases h
            kp := Kp.refl _ _
            asks := rfl
            so := HSO.out
            el := HQE.out.1
            id := rfl
            il := Nat.zero_le _ }
          clear hqn
          go_wp2_with fail
          go_loopw [10, 11] (fun lvv kv wr => ∃ (i : Nat) (lev : List UInt64) (M' : Orc) (qv sv pv : Value), kv = .int .i64 i ∧ Hid (LRel w0 wr n G M (leafQ leaves salts) i lev M' lvv qv sv pv)) (fun _ kv _ => leaves.length - (intOf kv).toNat)
          case atStart => exact ⟨0, [], M, _, _, _, rfl, HLR0.out⟩
          case round =>
            obtain ⟨i, lev, M', qv2, sv2, pv2, rfl, HLR⟩ := hrel
            obtain ⟨⟨qa2, qn2, qc2, rfl⟩, ⟨sa2, sn2, sc2, rfl⟩, ⟨pa2, pn2, pc2, rfl⟩⟩ := HLR.out.st.now.sl
            obtain ⟨va, vc, rfl, -⟩ := ownsRow_rd HLR.out.own
            have HXR : Hid (Ext w wr) := hid (HX0.out.kp HLR.out.kp (fun k h => by have := HN.out; subst h; omega))
            have hil0 := HLR.out.il
            rw [HQN.out] at hil0
            by_cases hlt : i < leaves.length
            · have hltB : decide ((i : Int) < (leaves.length : Int)) = true := by simp; omega
              obtain ⟨l, hll⟩ : ∃ l, leaves[i]? = some l := ⟨_, List.getElem?_eq_getElem hlt⟩
              obtain ⟨s, hsl⟩ : ∃ s, salts[i]? = some s := ⟨_, List.getElem?_eq_getElem (by rw [HLEN.out]; exact hlt)⟩
              obtain ⟨lb, lo, ya, yd, rfl, hcl, hrl, -, -⟩ := (HL.out.ext HXR.out).at hll
              obtain ⟨sb, so, rfl, hcs⟩ := (HSS.out.ext HXR.out).uat hsl
              have hlq := leafQ_at hll hsl
              have hle := HE.out l (List.mem_of_getElem? hll)
              have HLQ := hid hlq
              have HRL := hid hrl
              have hi0 : (0 : Int) ≤ (i : Int) := by omega
              have hil : (i : Int) < (leaves.length : Int) := by omega
              have his : (i : Int) < (salts.length : Int) := by have := HLEN.out; omega
              have HN1 : Hid (n + 1 < wr.heap.size) := hid (heap_lt (HLR.out.kp.heap_some (by omega) HB1.out))
              have HNW : Hid (n + 1 < w0.heap.size) := hid (heap_lt HB1.out)
              have HG2 : Hid (∀ k, G k → k < wr.heap.size) := hid fun k h => by have := HG.out k h; have := HXR.out.size; omega
              have HQB : Hid (M.qs.length ≤ 3000000 ∧ M.draws ≤ 3000000) := hid (by have := HQE.out.2; omega)
              have HS12 : Hid (∀ v, Ext wr v → (v.cell? ⟨n, 0, none⟩ = some (.bool M'.ideal) ∧ v.cell? ⟨n, 1, none⟩ = some (uv M'.state) ∧ v.cell? ⟨n, 2, none⟩ = some (.int .i64 (M'.draws : Int)) ∧ v.cell? ⟨n, 3, none⟩ = some (.slice qa2 qn2 qc2) ∧ v.cell? ⟨n, 4, none⟩ = some (.slice sa2 sn2 sc2) ∧ v.cell? ⟨n, 5, none⟩ = some (.slice pa2 pn2 pc2)) ∧ v.cell? ⟨lb, lo + i, none⟩ = some (.slice ya l.length yd) ∧ v.cell? ⟨sb, so + i, none⟩ = some (uv s)) := hid fun v k => ⟨six_cellsO (k.heap_some HLR.out.box), k.cell_some hcl, k.cell_some hcs⟩
              obtain ⟨hz1, hz2, hz3⟩ := HLR.out.sizes
              have HSZ := hid (And.intro hz1 (And.intro hz2 hz3))
              clear hll hsl hcl hcs hrl hlq hz1 hz2 hz3
              go_wp2_with fail
              refine wp_region_N (fun v => ((v.cell? ⟨n, 0, none⟩ = some (.bool M'.ideal) ∧ v.cell? ⟨n, 1, none⟩ = some (uv M'.state) ∧ v.cell? ⟨n, 2, none⟩ = some (.int .i64 (M'.draws : Int)) ∧ v.cell? ⟨n, 3, none⟩ = some (.slice qa2 qn2 qc2) ∧ v.cell? ⟨n, 4, none⟩ = some (.slice sa2 sn2 sc2) ∧ v.cell? ⟨n, 5, none⟩ = some (.slice pa2 pn2 pc2)) ∧ v.cell? ⟨lb, lo + i, none⟩ = some (.slice ya l.length yd) ∧ v.cell? ⟨sb, so + i, none⟩ = some (uv s)) ∧ Ext wr v) 16 17 (by kernel_rfl) (by kernel_rfl) ?_
              intro ops hops
              have HR := And.intro (HS12.out _ (Ext.refl wr).drew) (Ext.refl wr).drew
              refine N_take (i := 0) (v := ?_) (by rw [hops, List.getElem?_toArray]; rfl) (by rw [hops]; kernel_rfl) (by intro c a d v w h; cases d <;> exact h) (by first | rfl | (rw [hops]; rfl)) ?_ HR ?_
              rotate_left
              · intro v h; go_simp; with_reducible rfl
              simp only [Act.put, List.getElem_toArray, List.getElem_cons_zero, List.getElem_cons_succ, List.setIfInBounds_toArray, List.set_cons_zero, List.set_cons_succ]
              refine N_take (i := 1) (v := ?_) (by rw [hops, List.getElem?_toArray]; rfl) (by rw [hops]; kernel_rfl) (by intro c a d v w h; cases d <;> exact h) (by first | rfl | (rw [hops]; rfl)) ?_ HR ?_
              rotate_left
              · intro v h; go_simp; with_reducible rfl
              simp only [Act.put, List.getElem_toArray, List.getElem_cons_zero, List.getElem_cons_succ, List.setIfInBounds_toArray, List.set_cons_zero, List.set_cons_succ]
              refine N_take (i := 2) (v := ?_) (by rw [hops, List.getElem?_toArray]; rfl) (by rw [hops]; kernel_rfl) (by intro c a d v w h; cases d <;> exact h) (by first | rfl | (rw [hops]; rfl)) ?_ HR ?_
              rotate_left
              · intro v h; go_simp; with_reducible rfl
              simp only [Act.put, List.getElem_toArray, List.getElem_cons_zero, List.getElem_cons_succ, List.setIfInBounds_toArray, List.set_cons_zero, List.set_cons_succ]
              refine N_take (i := 3) (v := ?_) (by rw [hops, List.getElem?_toArray]; rfl) (by rw [hops]; kernel_rfl) (by intro c a d v w h; cases d <;> exact h) (by first | rfl | (rw [hops]; rfl)) ?_ HR ?_
              rotate_left
              · intro v h; go_simp; with_reducible rfl
              simp only [Act.put, List.getElem_toArray, List.getElem_cons_zero, List.getElem_cons_succ, List.setIfInBounds_toArray, List.set_cons_zero, List.set_cons_succ]
              refine N_take (i := 4) (v := ?_) (by rw [hops, List.getElem?_toArray]; rfl) (by rw [hops]; kernel_rfl) (by intro c a d v w h; cases d <;> exact h) (by first | rfl | (rw [hops]; rfl)) ?_ HR ?_
              rotate_left
              · intro v h; go_simp; with_reducible rfl
              simp only [Act.put, List.getElem_toArray, List.getElem_cons_zero, List.getElem_cons_succ, List.setIfInBounds_toArray, List.set_cons_zero, List.set_cons_succ]
              refine N_take (i := 5) (v := ?_) (by rw [hops, List.getElem?_toArray]; rfl) (by rw [hops]; kernel_rfl) (by intro c a d v w h; cases d <;> exact h) (by first | rfl | (rw [hops]; rfl)) ?_ HR ?_
              rotate_left
              · intro v h; go_simp; with_reducible rfl
              simp only [Act.put, List.getElem_toArray, List.getElem_cons_zero, List.getElem_cons_succ, List.setIfInBounds_toArray, List.set_cons_zero, List.set_cons_succ]
              refine N_take (i := 6) (v := ?_) (by rw [hops, List.getElem?_toArray]; rfl) (by rw [hops]; kernel_rfl) (by intro c a d v w h; cases d <;> exact h) (by first | rfl | (rw [hops]; rfl)) ?_ HR ?_
              rotate_left
              · intro v h; go_simp; with_reducible rfl
              simp only [Act.put, List.getElem_toArray, List.getElem_cons_zero, List.getElem_cons_succ, List.setIfInBounds_toArray, List.set_cons_zero, List.set_cons_succ]
              refine N_take (i := 7) (v := ?_) (by rw [hops, List.getElem?_toArray]; rfl) (by rw [hops]; kernel_rfl) (by intro c a d v w h; cases d <;> exact h) (by first | rfl | (rw [hops]; rfl)) ?_ HR ?_
              rotate_left
              · intro v h; go_simp; with_reducible rfl
              simp only [Act.put, List.getElem_toArray, List.getElem_cons_zero, List.getElem_cons_succ, List.setIfInBounds_toArray, List.set_cons_zero, List.set_cons_succ]
              refine N_take (i := 8) (v := ?_) (by rw [hops, List.getElem?_toArray]; rfl) (by rw [hops]; kernel_rfl) (by intro c a d v w h; cases d <;> exact h) (by first | rfl | (rw [hops]; rfl)) ?_ HR ?_
              rotate_left
              · intro v h; go_simp; with_reducible rfl
              simp only [Act.put, List.getElem_toArray, List.getElem_cons_zero, List.getElem_cons_succ, List.setIfInBounds_toArray, List.set_cons_zero, List.set_cons_succ]
              have hal : ∀ Q, Alloc1 Try.prog ops Q 14 13 Z12c := fun Q => ⟨⟨_, by rw [hops, List.getElem?_toArray]; rfl, fun t => rfl, fun a w K hK => by go_wp2_with fail; exact hK⟩⟩
              have hSS : ∀ v, Ext wr v → ((v.cell? ⟨n, 0, none⟩ = some (.bool M'.ideal) ∧ v.cell? ⟨n, 1, none⟩ = some (uv M'.state) ∧ v.cell? ⟨n, 2, none⟩ = some (.int .i64 (M'.draws : Int)) ∧ v.cell? ⟨n, 3, none⟩ = some (.slice qa2 qn2 qc2) ∧ v.cell? ⟨n, 4, none⟩ = some (.slice sa2 sn2 sc2) ∧ v.cell? ⟨n, 5, none⟩ = some (.slice pa2 pn2 pc2)) ∧ v.cell? ⟨lb, lo + i, none⟩ = some (.slice ya l.length yd) ∧ v.cell? ⟨sb, so + i, none⟩ = some (uv s)) ∧ Ext wr v := fun v h => And.intro (HS12.out _ h) h
              have hgr := CG1.grows (Z := Z12c) (w0 := wr) (F := fun _ => False) (S := fun v => ((v.cell? ⟨n, 0, none⟩ = some (.bool M'.ideal) ∧ v.cell? ⟨n, 1, none⟩ = some (uv M'.state) ∧ v.cell? ⟨n, 2, none⟩ = some (.int .i64 (M'.draws : Int)) ∧ v.cell? ⟨n, 3, none⟩ = some (.slice qa2 qn2 qc2) ∧ v.cell? ⟨n, 4, none⟩ = some (.slice sa2 sn2 sc2) ∧ v.cell? ⟨n, 5, none⟩ = some (.slice pa2 pn2 pc2)) ∧ v.cell? ⟨lb, lo + i, none⟩ = some (.slice ya l.length yd) ∧ v.cell? ⟨sb, so + i, none⟩ = some (uv s)) ∧ Ext wr v) (fun k h => h.elim) (fun v k => hSS v (k.toExt (fun _ h => h.elim)))
              refine WB_start (i1 := 14) (d1 := 13) (f := 7) (C := CG1 wr (fun _ => False) Z12c) u13 ⟨(Ext.refl wr).drew, fun h => by cases h⟩ (by rfl) (by rfl) (by rfl) ?_
              refine WB_call (hal _) hgr (c := 9) (fun v => CLB (fun u => ∃ a c, v = .slice a (s :: l).length c ∧ RdU u v (s :: l)) (CG1 wr (fun _ => False) Z12c)) (by rw [hops]; kernel_rfl) (by rw [hops, List.getElem?_toArray]; rfl) rfl (fun t => rfl) (by decide) (fun v b1 x w' h => hgr.s _ _ _ h.2) ?_ ?_
              · intro b1 x1 v hC K hK
                simp only [Act.put, List.setIfInBounds_toArray, List.set_cons_zero, List.set_cons_succ]
                go_wp2_with fail
                refine (rsalted_any _ s l v (HRL.out.ext hC.1) (by omega)).mono ?_
                rintro e v' ⟨u, rfl, hown, hx, -⟩
                obtain ⟨ua, uc, rfl, -⟩ := ownsRow_rd hown
                exact hK _ _ ⟨⟨ua, uc, rfl, OwnU.rdu hown⟩, hC.ext hx⟩ _ (by simp only [Act.put, List.setIfInBounds_toArray, List.set_cons_zero, List.set_cons_succ] <;> rfl)
              intro v65
              simp only [Act.put, List.setIfInBounds_toArray, List.set_cons_zero, List.set_cons_succ]
              have hgr2 := CLB.grows (p := fun u => ∃ a c, v65 = .slice a (s :: l).length c ∧ RdU u v65 (s :: l)) hgr (fun _ _ ⟨a, c, h1, h2⟩ k => ⟨a, c, h1, h2.ext k⟩)
              have hgr3 := fun (rm : Value) => CHs.grows (wr := wr) (G := fun k => (G k ∨ k = n ∨ k = n + 1) ∨ some k = blk (.slice va lev.length vc)) (r := M'.hash 16 (s :: l)) (rm := rm) (S := fun v => ((v.cell? ⟨n, 0, none⟩ = some (.bool M'.ideal) ∧ v.cell? ⟨n, 1, none⟩ = some (uv M'.state) ∧ v.cell? ⟨n, 2, none⟩ = some (.int .i64 (M'.draws : Int)) ∧ v.cell? ⟨n, 3, none⟩ = some (.slice qa2 qn2 qc2) ∧ v.cell? ⟨n, 4, none⟩ = some (.slice sa2 sn2 sc2) ∧ v.cell? ⟨n, 5, none⟩ = some (.slice pa2 pn2 pc2)) ∧ v.cell? ⟨lb, lo + i, none⟩ = some (.slice ya l.length yd) ∧ v.cell? ⟨sb, so + i, none⟩ = some (uv s)) ∧ Ext wr v) hSS
              refine WB_call (hal _) hgr2 (c := 10) (fun v => CHs wr (fun k => (G k ∨ k = n ∨ k = n + 1) ∨ some k = blk (.slice va lev.length vc)) (M'.hash 16 (s :: l)) v) (by rw [hops]; kernel_rfl) (by rw [hops, List.getElem?_toArray]; rfl) rfl (fun t => rfl) (by decide) (fun v b1 x w' h => (hgr3 v).s _ _ _ h) ?_ ?_
              · rintro b1 x1 v ⟨⟨a, c, rfl, hrd⟩, hC⟩ K hK
                simp only [Act.put, List.setIfInBounds_toArray, List.set_cons_zero, List.set_cons_succ]
                go_wp2_with fail
                refine (oHash_any (G := fun k => ((G k ∨ k = n ∨ k = n + 1) ∨ some k = blk (.slice va lev.length vc)) ∨ wr.heap.size ≤ k ∧ k < v.heap.size) (M := M') (label := 16) (HLR.out.st.grow (.of_ext hC.1) (fun k h => h.imp id fun h => h.1)) (fun k h => by
                  have h1 := hC.1.size
                  have h2 := HXR.out.size
                  have h3 := HN1.out
                  rcases h with ((h | h) | h) | h
                  · have := HG2.out k h; omega
                  · omega
                  · have := ownsRow_lt HLR.out.own h.symm; omega
                  · exact h.2) HLR.out.so hrd (by simp; omega) (by have := HSZ.out; have := HQB.out; omega) (fun q hq => by have := HLR.out.el q hq; omega) (by have := HSZ.out; have := HQB.out; omega)).mono ?_
                rintro e v' ⟨qv3, sv3, pv3, rfl, hst, hx⟩
                exact hK _ _ ⟨hC.1.trans hx, fun hb => (hC.2 hb).kp (.of_ext hx) fun _ _ h => h, qv3, sv3, pv3, v', v.heap.size, rfl, Ext.refl _, hst, fun hb => by
                  obtain ⟨g, h1, -, -, h2⟩ := hC.2 hb
                  exact ⟨g, h1, .inl (heap_lt h2)⟩⟩ _ (by simp only [Act.put, List.setIfInBounds_toArray, List.set_cons_zero, List.set_cons_succ] <;> rfl)
              intro v66
              simp only [Act.put, List.setIfInBounds_toArray, List.set_cons_zero, List.set_cons_succ]
              have hgr4 := hgr3 v66
              refine WB_pure (φ := ∃ qa3 qn3 qc3 sa3 sn3 sc3 pa3 pn3 pc3, v66 = .tuple #[uv (M'.hash 16 (s :: l)).1, oVal (M'.hash 16 (s :: l)).2.ideal (M'.hash 16 (s :: l)).2.state (M'.hash 16 (s :: l)).2.draws (.slice qa3 qn3 qc3) (.slice sa3 sn3 sc3) (.slice pa3 pn3 pc3)]) (fun b1 x1 v h => by
                obtain ⟨-, -, qv3, sv3, pv3, u0, L, rfl, hu1, hu2, -⟩ := h
                obtain ⟨⟨qa3, qn3, qc3, rfl⟩, ⟨sa3, sn3, sc3, rfl⟩, ⟨pa3, pn3, pc3, rfl⟩⟩ := hu2.now.sl
                exact ⟨_, _, _, _, _, _, _, _, _, rfl⟩) ?_
              rintro ⟨qa3, qn3, qc3, sa3, sn3, sc3, pa3, pn3, pc3, rfl⟩
              refine WB_take (i := 11) (v := ?_) (fun _ _ _ h => (hgr3 _).s _ _ _ h) (by rw [hops, List.getElem?_toArray]; rfl) rfl (fun t => rfl) (by decide) (by rw [hops]; kernel_rfl) (by intro c a d v w h; cases d <;> exact h) ?_ ?_
              rotate_left
              · intro x1 v h
                simp only [Act.put, List.setIfInBounds_toArray, List.set_cons_zero, List.set_cons_succ]
                go_simp
                with_reducible rfl
              simp only [Act.put, List.setIfInBounds_toArray, List.set_cons_zero, List.set_cons_succ]
              refine WB_take (i := 12) (v := ?_) (fun _ _ _ h => (hgr3 _).s _ _ _ h) (by rw [hops, List.getElem?_toArray]; rfl) rfl (fun t => rfl) (by decide) (by rw [hops]; kernel_rfl) (by intro c a d v w h; cases d <;> exact h) ?_ ?_
              rotate_left
              · intro x1 v h
                simp only [Act.put, List.setIfInBounds_toArray, List.set_cons_zero, List.set_cons_succ]
                go_simp
                with_reducible rfl
              simp only [Act.put, List.setIfInBounds_toArray, List.set_cons_zero, List.set_cons_succ]
              refine WB_take (i := 13) (v := ?_) (fun _ _ _ h => (hgr3 _).s _ _ _ h) (by rw [hops, List.getElem?_toArray]; rfl) rfl (fun t => rfl) (by decide) (by rw [hops]; kernel_rfl) (by intro c a d v w h; cases d <;> exact h) ?_ ?_
              rotate_left
              · intro x1 v h
                simp only [Act.put, List.setIfInBounds_toArray, List.set_cons_zero, List.set_cons_succ]
                go_simp
                with_reducible rfl
              simp only [Act.put, List.setIfInBounds_toArray, List.set_cons_zero, List.set_cons_succ]
              refine WB_last (hal _) (hgr3 _) (by rw [hops]; kernel_rfl) ?_
              rintro x1 v ⟨hxv, hz, qv3, sv3, pv3, u0, L, hvv, hu1, hu2, hu4⟩
              simp only [Value.tuple.injEq, oVal, Value.agg.injEq, Array.mk.injEq, List.cons.injEq, and_true, true_and] at hvv
              obtain ⟨rfl, rfl, rfl⟩ := hvv
              obtain ⟨g, rfl, hg0, -, hgb⟩ := hz rfl
              obtain ⟨g', hgg, hu5⟩ := hu4 rfl
              injection hgg with hgg
              injection hgg with hgg
              injection hgg with hgg
              subst hgg
              simp only [Act.put, List.setIfInBounds_toArray, List.set_cons_zero, List.set_cons_succ]
              have HAS := hid (asks_take_succ HLQ.out M)
              rw [HLR.out.asks] at HAS
              have HSO2 := hid (hash_sound HLR.out.so 16 (s :: l))
              have HEL2 := hid (hash_elems HLR.out.el 16 (l := s :: l) (by simp; omega))
              have HID2 := hid ((hash_ideal M' 16 (s :: l)).trans HLR.out.id)
              generalize M'.hash 16 (s :: l) = r at *
              obtain ⟨r1, r2⟩ := r
              simp only at HAS HSO2 HEL2 HID2 hu2 ⊢
              have HS5 := hSS v hxv
              refine N_take (i := 15) (v := ?_) (by rw [hops, List.getElem?_toArray]; rfl) (by rw [hops]; kernel_rfl) (by intro c a d v w h; cases d <;> exact h) (by first | rfl | (rw [hops]; rfl)) ?_ HS5 ?_
              rotate_left
              · intro v h; go_simp; with_reducible rfl
              simp only [Act.put, List.getElem_toArray, List.getElem_cons_zero, List.getElem_cons_succ, List.setIfInBounds_toArray, List.set_cons_zero, List.set_cons_succ]
              obtain ⟨k0, k1, k2, k3, k4, k5⟩ := six_cellsO hgb
              have kf := frozen_of hgb
              obtain ⟨hb6, hk6⟩ := six_setO (d0 := .bool r2.ideal) (d1 := uv r2.state) (d2 := .int .i64 (r2.draws : Int)) (d3 := .slice qa3 qn3 qc3) (d4 := .slice sa3 sn3 sc3) (d5 := .slice pa3 pn3 pc3) hgb
              have hst6 : StMc (fun k => (G k ∨ k = n ∨ k = n + 1) ∨ some k = blk (.slice va lev.length vc)) ((((((v.setCell ⟨g, 0, none⟩ (.bool r2.ideal)).setCell ⟨g, 1, none⟩ (uv r2.state)).setCell ⟨g, 2, none⟩ (.int .i64 (r2.draws : Int))).setCell ⟨g, 3, none⟩ (.slice qa3 qn3 qc3)).setCell ⟨g, 4, none⟩ (.slice sa3 sn3 sc3)).setCell ⟨g, 5, none⟩ (.slice pa3 pn3 pc3)) (.slice qa3 qn3 qc3) (.slice sa3 sn3 sc3) (.slice pa3 pn3 pc3) r2 := chs_put hu1 hu2 hg0 hu5 hk6
              have hx6 : Ext wr ((((((v.setCell ⟨g, 0, none⟩ (.bool r2.ideal)).setCell ⟨g, 1, none⟩ (uv r2.state)).setCell ⟨g, 2, none⟩ (.int .i64 (r2.draws : Int))).setCell ⟨g, 3, none⟩ (.slice qa3 qn3 qc3)).setCell ⟨g, 4, none⟩ (.slice sa3 sn3 sc3)).setCell ⟨g, 5, none⟩ (.slice pa3 pn3 pc3)) := hxv.kp hk6 (fun k h => by subst h; exact hg0)
              delta setSix at hb6
              refine N_one (i := 16) (by rw [hops, List.getElem?_toArray]; rfl) (by rw [hops]; kernel_rfl) (by first | rfl | (rw [hops]; rfl)) ?_
              intro K hK
              go_wp2_with fail
              refine ⟨by kernel_rfl, ?_⟩
              clear hal hgr hgr2 hgr3 hgr4 hgb k0 k1 k2 k3 k4 k5 kf hk6 HR HS5 hxv hz hu1 hu2 hu4 hu5 hSS
              try clear hK K
              clear hops ops
              generalize ((((((v.setCell ⟨g, 0, none⟩ (.bool r2.ideal)).setCell ⟨g, 1, none⟩ (uv r2.state)).setCell ⟨g, 2, none⟩ (.int .i64 (r2.draws : Int))).setCell ⟨g, 3, none⟩ (.slice qa3 qn3 qc3)).setCell ⟨g, 4, none⟩ (.slice sa3 sn3 sc3)).setCell ⟨g, 5, none⟩ (.slice pa3 pn3 pc3)) = w5 at *
              have HB6 := hid hb6
              have HST6 := hid hst6
              have HX6 := hid hx6
              clear hb6 hst6 hx6
              have HO5 := hid (ownsRow_ext HLR.out.own HX6.out)
              have HGB : Hid (∀ k, some k = blk (.slice va lev.length vc) → k ≠ g ∧ k ≠ n ∧ k ≠ n + 1 ∧ w0.heap.size ≤ k) := hid fun k h => by
                have h1 := ownsRow_lt HLR.out.own h.symm
                have h2 := HLR.out.new k h.symm
                have h3 := HN1.out
                have h4 := HNW.out
                exact ⟨by omega, by omega, by omega, h2⟩
              have H13 : Hid (∀ v, Kp (fun k => some k = blk (.slice va lev.length vc)) w5 v → v.cell? ⟨g, 0, none⟩ = some (.bool r2.ideal) ∧ v.cell? ⟨g, 1, none⟩ = some (uv r2.state) ∧ v.cell? ⟨g, 2, none⟩ = some (.int .i64 (r2.draws : Int)) ∧ v.cell? ⟨g, 3, none⟩ = some (.slice qa3 qn3 qc3) ∧ v.cell? ⟨g, 4, none⟩ = some (.slice sa3 sn3 sc3) ∧ v.cell? ⟨g, 5, none⟩ = some (.slice pa3 pn3 pc3)) := hid fun v k => six_cellsO (k.heap_some (fun h => (HGB.out _ h).1 rfl) HB6.out)
              have HN0 : Hid (w5.heap[n]? = some (.cells #[.bool M'.ideal, uv M'.state, .int .i64 (M'.draws : Int), .slice qa2 qn2 qc2, .slice sa2 sn2 sc2, .slice pa2 pn2 pc2] 105 (0, 0))) := hid (HX6.out.heap_some HLR.out.box)
              obtain ⟨i0, hi1, hz0', hz1', hz2'⟩ := info_parts Try.infoU
              have HI1 := hid (And.intro hi1 (And.intro hz0' (And.intro hz1' hz2')))
              clear hi1 hz0' hz1' hz2' hg0
              go_wp2_with fail
              refine wp_region_T (fun v => (v.cell? ⟨g, 0, none⟩ = some (.bool r2.ideal) ∧ v.cell? ⟨g, 1, none⟩ = some (uv r2.state) ∧ v.cell? ⟨g, 2, none⟩ = some (.int .i64 (r2.draws : Int)) ∧ v.cell? ⟨g, 3, none⟩ = some (.slice qa3 qn3 qc3) ∧ v.cell? ⟨g, 4, none⟩ = some (.slice sa3 sn3 sc3) ∧ v.cell? ⟨g, 5, none⟩ = some (.slice pa3 pn3 pc3)) ∧ Kp (fun k => some k = blk (.slice va lev.length vc)) w5 v) 6 [(0, true), (1, true), (4, true), (2, false), (3, false), (5, true), (6, false)] (by kernel_rfl) (by kernel_rfl) (by intro c a d v w h; cases d <;> exact h) ?_
              intro ops hops
              have HS := And.intro (H13.out _ (Kp.refl _ w5).drew) (Kp.refl (fun k => some k = blk (.slice va lev.length vc)) w5).drew
              iterate 3
                refine wpT_take (v := ?_) (by rw [hops, List.getElem?_toArray]; rfl) (by first | rfl | (rw [hops]; rfl)) ?_ HS ?_
                rotate_left
                · intro v h; go_simp; with_reducible rfl
                simp only [Act.put, List.getElem_toArray, List.getElem_cons_zero, List.getElem_cons_succ, List.setIfInBounds_toArray, List.set_cons_zero, List.set_cons_succ]
              refine wpT_step (by rw [hops, List.getElem?_toArray]; rfl) (by first | rfl | (rw [hops]; rfl)) ?_
              intro K hK
              go_wp2_with fail
              have HS1 := And.intro (H13.out _ ((Kp.refl _ w5).drew.alloc (.cells #[uv r1] 28))) ((Kp.refl (fun k => some k = blk (.slice va lev.length vc)) w5).drew.alloc (.cells #[uv r1] 28))
              refine ⟨fun _ => HS1, ?_⟩
              have hown6 : (w5.drew.alloc (.cells #[uv r1] 28)).ownsRow 0 28 1 (.slice va lev.length vc) lev.length (us lev) := ownsRow_ext HO5.out ((Ext.refl w5).drew.alloc _)
              have hone : RdC' (w5.drew.alloc (.cells #[uv r1] 28)) (.slice (some ⟨w5.drew.heap.size, 0, none⟩) 1 1) 1 [uv r1] := (RdC.block (heap_new _ _) (by unfold maxLen; omega)).weak
              refine wpT_step (by rw [hops, List.getElem?_toArray]; rfl) (by first | rfl | (rw [hops]; rfl)) ?_
              intro K hK
              refine wp_app' _ _ 24 rfl 28 i0 (.int .u64 0) 1 8 Try.underlying24 HI1.out.1 HI1.out.2.1 HI1.out.2.2.1 HI1.out.2.2.2 rfl (by decide) (.slice va lev.length vc) lev.length (us lev) rfl hown6 (.slice (some ⟨w5.drew.heap.size, 0, none⟩) 1 1) 1 [uv r1] rfl hone rfl (by intro u hu; simp only [List.mem_singleton] at hu; subst hu; rfl) (by have := HSZ.out; unfold maxLen; omega) (by have := HSZ.out; omega) ?_
              intro v6 w6 hown7 hk7 hb7
              have HK7 := hid (HS1.2.trans hk7)
              have HS2 := And.intro (H13.out _ HK7.out) HK7.out
              obtain ⟨va6, vc6, rfl, -⟩ := ownsRow_rd hown7
              have HO7 := hid hown7
              have HB7 := hid hb7
              have hn6 := HK7.out.heap_some (fun h => (HGB.out _ h).2.1 rfl) HN0.out
              have kf := frozen_of hn6
              obtain ⟨k0, k1, k2, k3, k4, k5⟩ := six_cellsO hn6
              obtain ⟨hb8, hk8⟩ := six_setO (d0 := .bool r2.ideal) (d1 := uv r2.state) (d2 := .int .i64 (r2.draws : Int)) (d3 := .slice qa3 qn3 qc3) (d4 := .slice sa3 sn3 sc3) (d5 := .slice pa3 pn3 pc3) hn6
              have HB8 := hid hb8
              have HK8 := hid hk8
              clear hown6 hone hown7 hk7 hb7 hn6 hb8 hk8
              refine hK _ _ ⟨fun _ => HS2, ?_⟩
              clear hK K
              iterate 1
                refine wpT_take (v := ?_) (by rw [hops, List.getElem?_toArray]; rfl) (by first | rfl | (rw [hops]; rfl)) ?_ HS2 ?_
                rotate_left
                · intro v h; go_simp; with_reducible rfl
                simp only [Act.put, List.getElem_toArray, List.getElem_cons_zero, List.getElem_cons_succ, List.setIfInBounds_toArray, List.set_cons_zero, List.set_cons_succ]
              clear HS HS1 HS2
              refine wpT_step (by rw [hops, List.getElem?_toArray]; rfl) (by first | rfl | (rw [hops]; rfl)) ?_
              intro K hK
              go_wp2_with fail
              try (with_reducible refine ⟨fun h => absurd h (by decide), ?_⟩)
              try rw [wpT_nil]
              try clear hops ops
              go_wp2_with fail
              go_roundw
              case rel =>
                exact ⟨i + 1, lev ++ [r1], r2, .slice qa3 qn3 qc3, .slice sa3 sn3 sc3, .slice pa3 pn3 pc3, by go_num, hid {
                  box := HB8.out
                  st := ((HST6.out.grow (G' := fun k => (G k ∨ k = n ∨ k = n + 1) ∨ some k = blk (.slice va6 (lev.length + 1) vc6)) (HK7.out.mono fun k _ h => .inr h) (fun k h => by
                    rcases h with h | h
                    · exact .inl (.inl h)
                    · rcases HB7.out with hb | hb
                      · exact .inl (.inr (h.trans hb))
                      · right; rw [hb] at h; cases h; simp)).grow (HK8.out.mono fun k _ h => .inl (.inr (.inl h))) fun k h => .inl h)
                  own := by
                    have h1 : OwnU w6 (.slice va6 (lev.length + 1) vc6) (lev ++ [r1]) := by
                      show w6.ownsRow 0 28 1 _ (lev ++ [r1]).length (us (lev ++ [r1]))
                      rw [List.length_append, show us (lev ++ [r1]) = us lev ++ [uv r1] by simp [us]]
                      exact HO7.out
                    refine ownsRow_kp h1 HK8.out fun k h h' => ?_
                    have hn := HN1.out
                    rcases HB7.out with hb | hb
                    · exact (HGB.out k (h.symm.trans hb)).2.1 h'
                    · rw [hb] at h; cases h; simp at h'; have := HLR.out.kp.size; have := HX6.out.size; omega
                  new := fun k h => by
                    rcases HB7.out with hb | hb
                    · exact (HGB.out k (h.symm.trans hb)).2.2.2
                    · rw [hb] at h; cases h; simp; have := HLR.out.kp.size; have := HX6.out.size; omega
                  kp := ((HLR.out.kp.ext HX6.out).trans2 HK7.out (fun k hk h => by have := (HGB.out k h).2.2.2; omega)).trans HK8.out
                  asks := HAS.out
                  so := HSO2.out
                  el := HEL2.out
                  id := HID2.out
                  il := by rw [HQN.out]; omega }⟩
              case measure => simp [intOf]; omega
            · obtain rfl : i = leaves.length := by omega
              have hltB : decide ((leaves.length : Int) < (leaves.length : Int)) = false := by simp
              have hA : (M.asks (leafQ leaves salts)) = (lev, M') := by
                have h1 := HLR.out.asks
                rwa [List.take_of_length_le (by rw [HQN.out]; omega)] at h1
              have HALL : Hid (M.commitT leaves salts = M'.climb 10 lev) := hid (by unfold Orc.commitT; rw [HOK.out]; show M.tree leaves salts = _; unfold Orc.tree; rw [hA])
              obtain ⟨hz1, hz2, hz3⟩ := HLR.out.sizes
              have hnum := HNM.out
              have hpos := isNum_pos hnum
              have hT0 : TRel w0 (wr.alloc (.cells #[.slice va lev.length vc] 24)) n G M leaves.length (M'.climb 10 lev) (.slice va lev.length vc) (.slice (some ⟨wr.heap.size, 0, none⟩) 1 1) [] lev M' 10 (.slice qa2 qn2 qc2) (.slice sa2 sn2 sc2) (.slice pa2 pn2 pc2) := {
                box := heap_alloc_some HLR.out.box
                st := HLR.out.st.grow (.of_ext ((Ext.refl wr).alloc _)) (fun k h => by
                  rcases h with (h | h) | h
                  · exact .inl (.inl (.inl h))
                  · cases h; exact .inr (Nat.le_refl _)
                  · exact .inl (.inl (.inr h)))
                bes := besideL_one (w0 := w0) HLR.out.own (fun t ht => ⟨id, HLR.out.new t ht⟩) (fun k h => h.elim) HLR.out.kp.size
                kp := HLR.out.kp.alloc _
                spec := rfl
                num := by rw [hz1]; exact hnum
                pow := by rw [hz1]; omega
                len := by simp
                so := HLR.out.so
                el := HLR.out.el
                id := HLR.out.id
                qs := by rw [hz1]; omega
                draws := by rw [hz1]; omega }
              have HT0 := hid hT0
              have HQB : Hid (leaves.length ≤ 1024 ∧ M.qs.length ≤ 1000000 ∧ M.draws ≤ 1000000) := hid (by have := HQE.out.2; omega)
              obtain ⟨i0, hi1, hz0', hz1', hz2'⟩ := info_parts Try.infoU
              obtain ⟨j0, hj1, hy0, hy1, hy2⟩ := info_parts Try.infoL
              have HI1 := hid (And.intro hi1 (And.intro hz0' (And.intro hz1' hz2')))
              have HJ1 := hid (And.intro hj1 (And.intro hy0 (And.intro hy1 hy2)))
              have HZL := hid hz1
              generalize M'.climb 10 lev = all at *
              clear hT0 hA hz1 hz2 hz3 hnum hpos hi1 hz0' hz1' hz2' hj1 hy0 hy1 hy2
              go_wp2_with fail
              go_loopw [10, 14] (fun lvv outv wr => ∃ (L : List (List UInt64 × Value)) (lev : List UInt64) (M' : Orc) (k : Nat) (qv sv pv : Value), lenOf lvv = lev.length ∧ Hid (TRel w0 wr n G M leaves.length all lvv outv L lev M' k qv sv pv)) (fun lvv _ _ => lenOf lvv)
              case atStart => exact ⟨[], lev, M', 10, _, _, _, rfl, HT0.out⟩
              case round =>
                clear HLR HT0 HZL
                obtain ⟨L, lev, M', k, qv4, sv4, pv4, hlo, HT⟩ := hrel
                obtain ⟨⟨qa4, qn4, qc4, rfl⟩, ⟨sa4, sn4, sc4, rfl⟩, ⟨pa4, pn4, pc4, rfl⟩⟩ := HT.out.st.now.sl
                obtain ⟨va, vc, hve, -⟩ := ownsRow_rd (HT.out.bes.own.2 _ (List.mem_append_right _ (List.mem_singleton.2 rfl)))
                obtain ⟨oa, oc, hoe, -⟩ := ownsRow_rd HT.out.bes.own.1
                have hll : ∀ z : Value, (L ++ [(lev, z)]).length = L.length + 1 := fun z => by simp
                rw [hll] at hoe
                simp only at hve
                subst hve hoe
                clear hll
                have HLO := hid hlo
                clear hlo
                have hnum := HT.out.num
                have hlev := isNum_pos hnum
                by_cases h2 : 1 < lev.length
                · have hdl : decide (1 < lev.length) = true := by simp; omega
                  have hdl2 : decide ((1 : Int) < (lev.length : Int)) = true := by simp; omega
                  obtain ⟨m, hm, hnm, hm1⟩ : ∃ m, lev.length = 2 * m ∧ isNum m = true ∧ 1 ≤ m := by
                    rcases isNum_half hnum with h | h
                    · omega
                    · exact h
                  obtain ⟨k1, rfl⟩ : ∃ k1, k = k1 + 1 := by
                    cases k with
                    | zero => have := HT.out.pow; simp at this; omega
                    | succ k1 => exact ⟨k1, rfl⟩
                  have HM := hid (And.intro hm (And.intro hnm hm1))
                  have HQN2 := hid (show (branchQ lev).length = m by rw [branchQ_length]; omega)
                  have HQB : Hid (M'.qs.length ≤ 3000000 ∧ M'.draws ≤ 3000000) := hid (by have h1 := HT.out.qs; have h2 := HT.out.draws; have := HQB.out; omega)
                  have hL0 : LRel wr wr n (fun k => G k ∨ some k = blk (.slice oa (L.length + 1) oc)) M' (branchQ lev) 0 [] M' (.slice none 0 0) (.slice qa4 qn4 qc4) (.slice sa4 sn4 sc4) (.slice pa4 pn4 pc4) := {
                    box := HT.out.box
                    st := HT.out.st.grow (Kp.refl _ _) (fun k h => by
                      rcases h with h | h
                      · exact .inl h
                      · cases h)
                    own := World.ownsRow_nil _ _ _ _
                    new := fun k h => by cases h
                    kp := Kp.refl _ _
                    asks := rfl
                    so := HT.out.so
                    el := HT.out.el
                    id := rfl
                    il := Nat.zero_le _ }
                  have HL0 := hid hL0
                  have HNUM := hid (And.intro hnum hlev)
                  clear hL0 hm hnm hm1 hnum hlev
                  rename World => wq
                  go_wp2_with fail
                  go_loopw [15, 16] (fun av kv wr => ∃ (p j : Nat) (ab : List UInt64) (M2 : Orc) (qv sv pv : Value), p = 2 * j ∧ kv = .int .i64 p ∧ Hid (LRel wq wr n (fun k => G k ∨ some k = blk (.slice oa (L.length + 1) oc)) M' (branchQ lev) j ab M2 av qv sv pv)) (fun _ kv _ => lev.length - (intOf kv).toNat)
                  case atStart => exact ⟨0, 0, [], M', _, _, _, rfl, rfl, HL0.out⟩
                  case round =>
                    obtain ⟨p, j, ab, M2, qv2, sv2, pv2, hpj, rfl, HLR⟩ := hrel
                    obtain ⟨⟨qa2, qn2, qc2, rfl⟩, ⟨sa2, sn2, sc2, rfl⟩, ⟨pa2, pn2, pc2, rfl⟩⟩ := HLR.out.st.now.sl
                    obtain ⟨ba, bc, rfl, -⟩ := ownsRow_rd HLR.out.own
                    have HXR : Hid (Ext w wr) := hid (HX0.out.kp (HT.out.kp.trans HLR.out.kp) (fun k h => by have := HN.out; subst h; omega))
                    have HPJ := hid hpj
                    clear hpj
                    by_cases hlt : p < lev.length
                    · have hltB : decide ((p : Int) < (lev.length : Int)) = true := by simp; omega
                      have hpl : p + 1 < lev.length := by have := HM.out; have := HPJ.out; omega
                      obtain ⟨x, hxx⟩ : ∃ x, lev[p]? = some x := ⟨_, List.getElem?_eq_getElem hlt⟩
                      obtain ⟨y, hyy⟩ : ∃ y, lev[p + 1]? = some y := ⟨_, List.getElem?_eq_getElem hpl⟩
                      have hqi : (branchQ lev)[j]? = some (17, [x, y]) := by
                        rw [branchQ_at (by have := HM.out; have := HPJ.out; omega), ← HPJ.out, List.getD_eq_getElem?_getD, hxx, List.getD_eq_getElem?_getD, hyy]; rfl
                      have HLQ := hid hqi
                      have hmem : (lev, Value.slice va lev.length vc) ∈ L ++ [(lev, Value.slice va lev.length vc)] := List.mem_append_right _ (List.mem_singleton.2 rfl)
                      have hlo : OwnU wr (.slice va lev.length vc) lev := ownsRow_kp (HT.out.bes.own.2 _ hmem) HLR.out.kp (fun k h h' => by have := (HT.out.bes.nos _ hmem k h).2; have := heap_lt HB1.out; omega)
                      have hlu := hlo.rdu
                      clear hlo
                      obtain ⟨lb, lo, rfl, hcx⟩ := hlu.at hxx
                      obtain ⟨lb', lo', he, hcy⟩ := hlu.at hyy
                      injection he with he
                      injection he with he1 he2
                      subst he1 he2
                      clear hmem
                      have hi0 : (0 : Int) ≤ (p : Int) := by omega
                      have hil : (p : Int) < (lev.length : Int) := by omega
                      have hi2 : (0 : Int) ≤ (p : Int) + 1 := by omega
                      have hi3 : (p : Int) + 1 < (lev.length : Int) := by omega
                      have hi4 : lev.length ≤ 1024 := HNUM.out.2.2
                      have hi5 : j ≤ 512 := by have := HPJ.out; omega
                      have hw2 : IntKind.i64.wrap ((p : Int) + 1) = (p : Int) + 1 := IntWalk.i64_in _ (by omega)
                      have hw3 : ((p : Int) + 1).toNat = p + 1 := by omega
                      have HN1 : Hid (n + 1 < wr.heap.size) := hid (heap_lt ((HT.out.kp.trans HLR.out.kp).heap_some (by omega) HB1.out))
                      have HNW : Hid (n + 1 < wq.heap.size) := hid (heap_lt (HT.out.kp.heap_some (by omega) HB1.out))
                      have HG2 : Hid (∀ k, G k ∨ some k = blk (.slice oa (L.length + 1) oc) → k < wr.heap.size) := hid fun k h => by
                        rcases h with h | h
                        · have := HG.out k h; have := HXR.out.size; omega
                        · have := ownsRow_lt HT.out.bes.own.1 h.symm; have := HLR.out.kp.size; omega
                      have HS12 : Hid (∀ v, Ext wr v → (v.cell? ⟨n, 0, none⟩ = some (.bool M2.ideal) ∧ v.cell? ⟨n, 1, none⟩ = some (uv M2.state) ∧ v.cell? ⟨n, 2, none⟩ = some (.int .i64 (M2.draws : Int)) ∧ v.cell? ⟨n, 3, none⟩ = some (.slice qa2 qn2 qc2) ∧ v.cell? ⟨n, 4, none⟩ = some (.slice sa2 sn2 sc2) ∧ v.cell? ⟨n, 5, none⟩ = some (.slice pa2 pn2 pc2)) ∧ v.cell? ⟨lb, lo + p, none⟩ = some (uv x) ∧ v.cell? ⟨lb, lo + (p + 1), none⟩ = some (uv y)) := hid fun v k => ⟨six_cellsO (k.heap_some HLR.out.box), k.cell_some hcx, k.cell_some hcy⟩
                      obtain ⟨hz1, hz2, hz3⟩ := HLR.out.sizes
                      have HSZ := hid (And.intro hz1 (And.intro hz2 hz3))
                      clear hxx hyy hcx hcy hlu hqi hz1 hz2 hz3 hpl
                      go_wp2_with fail
                      refine wp_region_N (fun v => ((v.cell? ⟨n, 0, none⟩ = some (.bool M2.ideal) ∧ v.cell? ⟨n, 1, none⟩ = some (uv M2.state) ∧ v.cell? ⟨n, 2, none⟩ = some (.int .i64 (M2.draws : Int)) ∧ v.cell? ⟨n, 3, none⟩ = some (.slice qa2 qn2 qc2) ∧ v.cell? ⟨n, 4, none⟩ = some (.slice sa2 sn2 sc2) ∧ v.cell? ⟨n, 5, none⟩ = some (.slice pa2 pn2 pc2)) ∧ v.cell? ⟨lb, lo + p, none⟩ = some (uv x) ∧ v.cell? ⟨lb, lo + (p + 1), none⟩ = some (uv y)) ∧ Ext wr v) 17 18 (by kernel_rfl) (by kernel_rfl) ?_
                      intro ops hops
                      have HR := And.intro (HS12.out _ (Ext.refl wr).drew) (Ext.refl wr).drew
                      refine N_take (i := 0) (v := ?_) (by rw [hops, List.getElem?_toArray]; rfl) (by rw [hops]; kernel_rfl) (by intro c a d v w h; cases d <;> exact h) (by first | rfl | (rw [hops]; rfl)) ?_ HR ?_
                      rotate_left
                      · intro v h; go_simp; with_reducible rfl
                      simp only [Act.put, List.getElem_toArray, List.getElem_cons_zero, List.getElem_cons_succ, List.setIfInBounds_toArray, List.set_cons_zero, List.set_cons_succ]
                      refine N_take (i := 1) (v := ?_) (by rw [hops, List.getElem?_toArray]; rfl) (by rw [hops]; kernel_rfl) (by intro c a d v w h; cases d <;> exact h) (by first | rfl | (rw [hops]; rfl)) ?_ HR ?_
                      rotate_left
                      · intro v h; go_simp; with_reducible rfl
                      simp only [Act.put, List.getElem_toArray, List.getElem_cons_zero, List.getElem_cons_succ, List.setIfInBounds_toArray, List.set_cons_zero, List.set_cons_succ]
                      refine N_take (i := 2) (v := ?_) (by rw [hops, List.getElem?_toArray]; rfl) (by rw [hops]; kernel_rfl) (by intro c a d v w h; cases d <;> exact h) (by first | rfl | (rw [hops]; rfl)) ?_ HR ?_
                      rotate_left
                      · intro v h; go_simp; with_reducible rfl
                      simp only [Act.put, List.getElem_toArray, List.getElem_cons_zero, List.getElem_cons_succ, List.setIfInBounds_toArray, List.set_cons_zero, List.set_cons_succ]
                      refine N_take (i := 3) (v := ?_) (by rw [hops, List.getElem?_toArray]; rfl) (by rw [hops]; kernel_rfl) (by intro c a d v w h; cases d <;> exact h) (by first | rfl | (rw [hops]; rfl)) ?_ HR ?_
                      rotate_left
                      · intro v h; go_simp; with_reducible rfl
                      simp only [Act.put, List.getElem_toArray, List.getElem_cons_zero, List.getElem_cons_succ, List.setIfInBounds_toArray, List.set_cons_zero, List.set_cons_succ]
                      refine N_take (i := 4) (v := ?_) (by rw [hops, List.getElem?_toArray]; rfl) (by rw [hops]; kernel_rfl) (by intro c a d v w h; cases d <;> exact h) (by first | rfl | (rw [hops]; rfl)) ?_ HR ?_
                      rotate_left
                      · intro v h; go_simp; with_reducible rfl
                      simp only [Act.put, List.getElem_toArray, List.getElem_cons_zero, List.getElem_cons_succ, List.setIfInBounds_toArray, List.set_cons_zero, List.set_cons_succ]
                      refine N_take (i := 5) (v := ?_) (by rw [hops, List.getElem?_toArray]; rfl) (by rw [hops]; kernel_rfl) (by intro c a d v w h; cases d <;> exact h) (by first | rfl | (rw [hops]; rfl)) ?_ HR ?_
                      rotate_left
                      · intro v h; go_simp; with_reducible rfl
                      simp only [Act.put, List.getElem_toArray, List.getElem_cons_zero, List.getElem_cons_succ, List.setIfInBounds_toArray, List.set_cons_zero, List.set_cons_succ]
                      refine N_take (i := 6) (v := ?_) (by rw [hops, List.getElem?_toArray]; rfl) (by rw [hops]; kernel_rfl) (by intro c a d v w h; cases d <;> exact h) (by first | rfl | (rw [hops]; rfl)) ?_ HR ?_
                      rotate_left
                      · intro v h; go_simp; with_reducible rfl
                      simp only [Act.put, List.getElem_toArray, List.getElem_cons_zero, List.getElem_cons_succ, List.setIfInBounds_toArray, List.set_cons_zero, List.set_cons_succ]
                      refine N_take (i := 7) (v := ?_) (by rw [hops, List.getElem?_toArray]; rfl) (by rw [hops]; kernel_rfl) (by intro c a d v w h; cases d <;> exact h) (by first | rfl | (rw [hops]; rfl)) ?_ HR ?_
                      rotate_left
                      · intro v h; go_simp; with_reducible rfl
                      simp only [Act.put, List.getElem_toArray, List.getElem_cons_zero, List.getElem_cons_succ, List.setIfInBounds_toArray, List.set_cons_zero, List.set_cons_succ]
                      refine N_take (i := 8) (v := ?_) (by rw [hops, List.getElem?_toArray]; rfl) (by rw [hops]; kernel_rfl) (by intro c a d v w h; cases d <;> exact h) (by first | rfl | (rw [hops]; rfl)) ?_ HR ?_
                      rotate_left
                      · intro v h; go_simp; with_reducible rfl
                      simp only [Act.put, List.getElem_toArray, List.getElem_cons_zero, List.getElem_cons_succ, List.setIfInBounds_toArray, List.set_cons_zero, List.set_cons_succ]
                      refine N_take (i := 9) (v := ?_) (by rw [hops, List.getElem?_toArray]; rfl) (by rw [hops]; kernel_rfl) (by intro c a d v w h; cases d <;> exact h) (by first | rfl | (rw [hops]; rfl)) ?_ HR ?_
                      rotate_left
                      · intro v h; go_simp; with_reducible rfl
                      simp only [Act.put, List.getElem_toArray, List.getElem_cons_zero, List.getElem_cons_succ, List.setIfInBounds_toArray, List.set_cons_zero, List.set_cons_succ]
                      have hal : ∀ Q, Alloc1 Try.prog ops Q 15 18 Z12c := fun Q => ⟨⟨_, by rw [hops, List.getElem?_toArray]; rfl, fun t => rfl, fun a w K hK => by go_wp2_with fail; exact hK⟩⟩
                      have hSS : ∀ v, Ext wr v → ((v.cell? ⟨n, 0, none⟩ = some (.bool M2.ideal) ∧ v.cell? ⟨n, 1, none⟩ = some (uv M2.state) ∧ v.cell? ⟨n, 2, none⟩ = some (.int .i64 (M2.draws : Int)) ∧ v.cell? ⟨n, 3, none⟩ = some (.slice qa2 qn2 qc2) ∧ v.cell? ⟨n, 4, none⟩ = some (.slice sa2 sn2 sc2) ∧ v.cell? ⟨n, 5, none⟩ = some (.slice pa2 pn2 pc2)) ∧ v.cell? ⟨lb, lo + p, none⟩ = some (uv x) ∧ v.cell? ⟨lb, lo + (p + 1), none⟩ = some (uv y)) ∧ Ext wr v := fun v h => And.intro (HS12.out _ h) h
                      have hgr := CG1.grows (Z := Z12c) (w0 := wr) (F := fun _ => False) (S := fun v => ((v.cell? ⟨n, 0, none⟩ = some (.bool M2.ideal) ∧ v.cell? ⟨n, 1, none⟩ = some (uv M2.state) ∧ v.cell? ⟨n, 2, none⟩ = some (.int .i64 (M2.draws : Int)) ∧ v.cell? ⟨n, 3, none⟩ = some (.slice qa2 qn2 qc2) ∧ v.cell? ⟨n, 4, none⟩ = some (.slice sa2 sn2 sc2) ∧ v.cell? ⟨n, 5, none⟩ = some (.slice pa2 pn2 pc2)) ∧ v.cell? ⟨lb, lo + p, none⟩ = some (uv x) ∧ v.cell? ⟨lb, lo + (p + 1), none⟩ = some (uv y)) ∧ Ext wr v) (fun k h => h.elim) (fun v k => hSS v (k.toExt (fun _ h => h.elim)))
                      refine WB_start (i1 := 15) (d1 := 18) (f := 7) (C := CG1 wr (fun _ => False) Z12c) u18 ⟨(Ext.refl wr).drew, fun h => by cases h⟩ (by rfl) (by rfl) (by rfl) ?_
                      refine WB_call (hal _) hgr (c := 10) (fun v => CLB (fun u => ∃ a c, v = .slice a 2 c ∧ RdU u v [x, y]) (CG1 wr (fun _ => False) Z12c)) (by rw [hops]; kernel_rfl) (by rw [hops, List.getElem?_toArray]; rfl) rfl (fun t => rfl) (by decide) (fun v b1 x w' h => hgr.s _ _ _ h.2) ?_ ?_
                      · intro b1 x1 v hC K hK
                        simp only [Act.put, List.setIfInBounds_toArray, List.set_cons_zero, List.set_cons_succ]
                        go_wp2_with fail
                        exact hK _ _ ⟨⟨_, _, rfl, pair_rdu (heap_new v _)⟩, hC.ext ((Ext.refl v).alloc _)⟩ _ (by simp only [Act.put, List.setIfInBounds_toArray, List.set_cons_zero, List.set_cons_succ] <;> rfl)
                      intro v65
                      simp only [Act.put, List.setIfInBounds_toArray, List.set_cons_zero, List.set_cons_succ]
                      have hgr2 := CLB.grows (p := fun u => ∃ a c, v65 = .slice a 2 c ∧ RdU u v65 [x, y]) hgr (fun _ _ ⟨a, c, h1, h2⟩ k => ⟨a, c, h1, h2.ext k⟩)
                      have hgr3 := fun (rm : Value) => CHs.grows (wr := wr) (G := fun k => ((G k ∨ some k = blk (.slice oa (L.length + 1) oc)) ∨ k = n ∨ k = n + 1) ∨ some k = blk (.slice ba ab.length bc)) (r := M2.hash 17 [x, y]) (rm := rm) (S := fun v => ((v.cell? ⟨n, 0, none⟩ = some (.bool M2.ideal) ∧ v.cell? ⟨n, 1, none⟩ = some (uv M2.state) ∧ v.cell? ⟨n, 2, none⟩ = some (.int .i64 (M2.draws : Int)) ∧ v.cell? ⟨n, 3, none⟩ = some (.slice qa2 qn2 qc2) ∧ v.cell? ⟨n, 4, none⟩ = some (.slice sa2 sn2 sc2) ∧ v.cell? ⟨n, 5, none⟩ = some (.slice pa2 pn2 pc2)) ∧ v.cell? ⟨lb, lo + p, none⟩ = some (uv x) ∧ v.cell? ⟨lb, lo + (p + 1), none⟩ = some (uv y)) ∧ Ext wr v) hSS
                      refine WB_call (hal _) hgr2 (c := 11) (fun v => CHs wr (fun k => ((G k ∨ some k = blk (.slice oa (L.length + 1) oc)) ∨ k = n ∨ k = n + 1) ∨ some k = blk (.slice ba ab.length bc)) (M2.hash 17 [x, y]) v) (by rw [hops]; kernel_rfl) (by rw [hops, List.getElem?_toArray]; rfl) rfl (fun t => rfl) (by decide) (fun v b1 x w' h => (hgr3 v).s _ _ _ h) ?_ ?_
                      · rintro b1 x1 v ⟨⟨a, c, rfl, hrd⟩, hC⟩ K hK
                        simp only [Act.put, List.setIfInBounds_toArray, List.set_cons_zero, List.set_cons_succ]
                        go_wp2_with fail
                        refine (oHash_any (G := fun k => (((G k ∨ some k = blk (.slice oa (L.length + 1) oc)) ∨ k = n ∨ k = n + 1) ∨ some k = blk (.slice ba ab.length bc)) ∨ wr.heap.size ≤ k ∧ k < v.heap.size) (M := M2) (label := 17) (HLR.out.st.grow (.of_ext hC.1) (fun k h => h.imp id fun h => h.1)) (fun k h => by
                          have h1 := hC.1.size
                          have h2 := HXR.out.size
                          have h3 := HN1.out
                          rcases h with ((h | h) | h) | h
                          · have := HG2.out k h; omega
                          · omega
                          · have := ownsRow_lt HLR.out.own h.symm; omega
                          · exact h.2) HLR.out.so hrd (by simp) (by have := HSZ.out; have := HQB.out; omega) (fun q hq => by have := HLR.out.el q hq; omega) (by have := HSZ.out; have := HQB.out; omega)).mono ?_
                        rintro e v' ⟨qv3, sv3, pv3, rfl, hst, hx⟩
                        exact hK _ _ ⟨hC.1.trans hx, fun hb => (hC.2 hb).kp (.of_ext hx) fun _ _ h => h, qv3, sv3, pv3, v', v.heap.size, rfl, Ext.refl _, hst, fun hb => by
                          obtain ⟨g, h1, -, -, h2⟩ := hC.2 hb
                          exact ⟨g, h1, .inl (heap_lt h2)⟩⟩ _ (by simp only [Act.put, List.setIfInBounds_toArray, List.set_cons_zero, List.set_cons_succ] <;> rfl)
                      intro v66
                      simp only [Act.put, List.setIfInBounds_toArray, List.set_cons_zero, List.set_cons_succ]
                      have hgr4 := hgr3 v66
                      refine WB_pure (φ := ∃ qa3 qn3 qc3 sa3 sn3 sc3 pa3 pn3 pc3, v66 = .tuple #[uv (M2.hash 17 [x, y]).1, oVal (M2.hash 17 [x, y]).2.ideal (M2.hash 17 [x, y]).2.state (M2.hash 17 [x, y]).2.draws (.slice qa3 qn3 qc3) (.slice sa3 sn3 sc3) (.slice pa3 pn3 pc3)]) (fun b1 x1 v h => by
                        obtain ⟨-, -, qv3, sv3, pv3, u0, Lz, rfl, hu1, hu2, -⟩ := h
                        obtain ⟨⟨qa3, qn3, qc3, rfl⟩, ⟨sa3, sn3, sc3, rfl⟩, ⟨pa3, pn3, pc3, rfl⟩⟩ := hu2.now.sl
                        exact ⟨_, _, _, _, _, _, _, _, _, rfl⟩) ?_
                      rintro ⟨qa3, qn3, qc3, sa3, sn3, sc3, pa3, pn3, pc3, rfl⟩
                      refine WB_take (i := 12) (v := ?_) (fun _ _ _ h => (hgr3 _).s _ _ _ h) (by rw [hops, List.getElem?_toArray]; rfl) rfl (fun t => rfl) (by decide) (by rw [hops]; kernel_rfl) (by intro c a d v w h; cases d <;> exact h) ?_ ?_
                      rotate_left
                      · intro x1 v h
                        simp only [Act.put, List.setIfInBounds_toArray, List.set_cons_zero, List.set_cons_succ]
                        go_simp
                        with_reducible rfl
                      simp only [Act.put, List.setIfInBounds_toArray, List.set_cons_zero, List.set_cons_succ]
                      refine WB_take (i := 13) (v := ?_) (fun _ _ _ h => (hgr3 _).s _ _ _ h) (by rw [hops, List.getElem?_toArray]; rfl) rfl (fun t => rfl) (by decide) (by rw [hops]; kernel_rfl) (by intro c a d v w h; cases d <;> exact h) ?_ ?_
                      rotate_left
                      · intro x1 v h
                        simp only [Act.put, List.setIfInBounds_toArray, List.set_cons_zero, List.set_cons_succ]
                        go_simp
                        with_reducible rfl
                      simp only [Act.put, List.setIfInBounds_toArray, List.set_cons_zero, List.set_cons_succ]
                      refine WB_take (i := 14) (v := ?_) (fun _ _ _ h => (hgr3 _).s _ _ _ h) (by rw [hops, List.getElem?_toArray]; rfl) rfl (fun t => rfl) (by decide) (by rw [hops]; kernel_rfl) (by intro c a d v w h; cases d <;> exact h) ?_ ?_
                      rotate_left
                      · intro x1 v h
                        simp only [Act.put, List.setIfInBounds_toArray, List.set_cons_zero, List.set_cons_succ]
                        go_simp
                        with_reducible rfl
                      simp only [Act.put, List.setIfInBounds_toArray, List.set_cons_zero, List.set_cons_succ]
                      refine WB_last (hal _) (hgr3 _) (by rw [hops]; kernel_rfl) ?_
                      rintro x1 v ⟨hxv, hz, qv3, sv3, pv3, u0, Lz, hvv, hu1, hu2, hu4⟩
                      simp only [Value.tuple.injEq, oVal, Value.agg.injEq, Array.mk.injEq, List.cons.injEq, and_true, true_and] at hvv
                      obtain ⟨rfl, rfl, rfl⟩ := hvv
                      obtain ⟨g, rfl, hg0, -, hgb⟩ := hz rfl
                      obtain ⟨g', hgg, hu5⟩ := hu4 rfl
                      injection hgg with hgg
                      injection hgg with hgg
                      injection hgg with hgg
                      subst hgg
                      simp only [Act.put, List.setIfInBounds_toArray, List.set_cons_zero, List.set_cons_succ]
                      have HAS := hid (asks_take_succ HLQ.out M')
                      rw [HLR.out.asks] at HAS
                      have HSO2 := hid (hash_sound HLR.out.so 17 [x, y])
                      have HEL2 := hid (hash_elems HLR.out.el 17 (l := [x, y]) (by simp))
                      have HID2 := hid ((hash_ideal M2 17 [x, y]).trans HLR.out.id)
                      generalize M2.hash 17 [x, y] = r at *
                      obtain ⟨r1, r2⟩ := r
                      simp only at HAS HSO2 HEL2 HID2 hu2 ⊢
                      have HS5 := hSS v hxv
                      refine N_take (i := 16) (v := ?_) (by rw [hops, List.getElem?_toArray]; rfl) (by rw [hops]; kernel_rfl) (by intro c a d v w h; cases d <;> exact h) (by first | rfl | (rw [hops]; rfl)) ?_ HS5 ?_
                      rotate_left
                      · intro v h; go_simp; with_reducible rfl
                      simp only [Act.put, List.getElem_toArray, List.getElem_cons_zero, List.getElem_cons_succ, List.setIfInBounds_toArray, List.set_cons_zero, List.set_cons_succ]
                      obtain ⟨k0, k1, k2, k3, k4, k5⟩ := six_cellsO hgb
                      have kf := frozen_of hgb
                      obtain ⟨hb6, hk6⟩ := six_setO (d0 := .bool r2.ideal) (d1 := uv r2.state) (d2 := .int .i64 (r2.draws : Int)) (d3 := .slice qa3 qn3 qc3) (d4 := .slice sa3 sn3 sc3) (d5 := .slice pa3 pn3 pc3) hgb
                      have hst6 : StMc (fun k => ((G k ∨ some k = blk (.slice oa (L.length + 1) oc)) ∨ k = n ∨ k = n + 1) ∨ some k = blk (.slice ba ab.length bc)) ((((((v.setCell ⟨g, 0, none⟩ (.bool r2.ideal)).setCell ⟨g, 1, none⟩ (uv r2.state)).setCell ⟨g, 2, none⟩ (.int .i64 (r2.draws : Int))).setCell ⟨g, 3, none⟩ (.slice qa3 qn3 qc3)).setCell ⟨g, 4, none⟩ (.slice sa3 sn3 sc3)).setCell ⟨g, 5, none⟩ (.slice pa3 pn3 pc3)) (.slice qa3 qn3 qc3) (.slice sa3 sn3 sc3) (.slice pa3 pn3 pc3) r2 := chs_put hu1 hu2 hg0 hu5 hk6
                      have hx6 : Ext wr ((((((v.setCell ⟨g, 0, none⟩ (.bool r2.ideal)).setCell ⟨g, 1, none⟩ (uv r2.state)).setCell ⟨g, 2, none⟩ (.int .i64 (r2.draws : Int))).setCell ⟨g, 3, none⟩ (.slice qa3 qn3 qc3)).setCell ⟨g, 4, none⟩ (.slice sa3 sn3 sc3)).setCell ⟨g, 5, none⟩ (.slice pa3 pn3 pc3)) := hxv.kp hk6 (fun k h => by subst h; exact hg0)
                      delta setSix at hb6
                      refine N_one (i := 17) (by rw [hops, List.getElem?_toArray]; rfl) (by rw [hops]; kernel_rfl) (by first | rfl | (rw [hops]; rfl)) ?_
                      intro K hK
                      go_wp2_with fail
                      refine ⟨by kernel_rfl, ?_⟩
                      clear hal hgr hgr2 hgr3 hgr4 hgb k0 k1 k2 k3 k4 k5 kf hk6 HR HS5 hxv hz hu1 hu2 hu4 hu5 hSS
                      try clear hK K
                      clear hops ops
                      generalize ((((((v.setCell ⟨g, 0, none⟩ (.bool r2.ideal)).setCell ⟨g, 1, none⟩ (uv r2.state)).setCell ⟨g, 2, none⟩ (.int .i64 (r2.draws : Int))).setCell ⟨g, 3, none⟩ (.slice qa3 qn3 qc3)).setCell ⟨g, 4, none⟩ (.slice sa3 sn3 sc3)).setCell ⟨g, 5, none⟩ (.slice pa3 pn3 pc3)) = w5 at *
                      have HB6 := hid hb6
                      have HST6 := hid hst6
                      have HX6 := hid hx6
                      clear hb6 hst6 hx6
                      have HO5 := hid (ownsRow_ext HLR.out.own HX6.out)
                      have HGB : Hid (∀ k, some k = blk (.slice ba ab.length bc) → k ≠ g ∧ k ≠ n ∧ k ≠ n + 1 ∧ wq.heap.size ≤ k) := hid fun k h => by
                        have h1 := ownsRow_lt HLR.out.own h.symm
                        have h2 := HLR.out.new k h.symm
                        have h3 := HN1.out
                        have h4 := HNW.out
                        exact ⟨by omega, by omega, by omega, h2⟩
                      have H13 : Hid (∀ v, Kp (fun k => some k = blk (.slice ba ab.length bc)) w5 v → v.cell? ⟨g, 0, none⟩ = some (.bool r2.ideal) ∧ v.cell? ⟨g, 1, none⟩ = some (uv r2.state) ∧ v.cell? ⟨g, 2, none⟩ = some (.int .i64 (r2.draws : Int)) ∧ v.cell? ⟨g, 3, none⟩ = some (.slice qa3 qn3 qc3) ∧ v.cell? ⟨g, 4, none⟩ = some (.slice sa3 sn3 sc3) ∧ v.cell? ⟨g, 5, none⟩ = some (.slice pa3 pn3 pc3)) := hid fun v k => six_cellsO (k.heap_some (fun h => (HGB.out _ h).1 rfl) HB6.out)
                      have HN0 : Hid (w5.heap[n]? = some (.cells #[.bool M2.ideal, uv M2.state, .int .i64 (M2.draws : Int), .slice qa2 qn2 qc2, .slice sa2 sn2 sc2, .slice pa2 pn2 pc2] 105 (0, 0))) := hid (HX6.out.heap_some HLR.out.box)
                      obtain ⟨i0, hi1, hz0', hz1', hz2'⟩ := info_parts Try.infoU
                      have HI1 := hid (And.intro hi1 (And.intro hz0' (And.intro hz1' hz2')))
                      clear hi1 hz0' hz1' hz2' hg0
                      go_wp2_with fail
                      refine wp_region_T (fun v => (v.cell? ⟨g, 0, none⟩ = some (.bool r2.ideal) ∧ v.cell? ⟨g, 1, none⟩ = some (uv r2.state) ∧ v.cell? ⟨g, 2, none⟩ = some (.int .i64 (r2.draws : Int)) ∧ v.cell? ⟨g, 3, none⟩ = some (.slice qa3 qn3 qc3) ∧ v.cell? ⟨g, 4, none⟩ = some (.slice sa3 sn3 sc3) ∧ v.cell? ⟨g, 5, none⟩ = some (.slice pa3 pn3 pc3)) ∧ Kp (fun k => some k = blk (.slice ba ab.length bc)) w5 v) 6 [(0, true), (1, true), (4, true), (2, false), (3, false), (5, true), (6, false)] (by kernel_rfl) (by kernel_rfl) (by intro c a d v w h; cases d <;> exact h) ?_
                      intro ops hops
                      have HS := And.intro (H13.out _ (Kp.refl _ w5).drew) (Kp.refl (fun k => some k = blk (.slice ba ab.length bc)) w5).drew
                      iterate 3
                        refine wpT_take (v := ?_) (by rw [hops, List.getElem?_toArray]; rfl) (by first | rfl | (rw [hops]; rfl)) ?_ HS ?_
                        rotate_left
                        · intro v h; go_simp; with_reducible rfl
                        simp only [Act.put, List.getElem_toArray, List.getElem_cons_zero, List.getElem_cons_succ, List.setIfInBounds_toArray, List.set_cons_zero, List.set_cons_succ]
                      refine wpT_step (by rw [hops, List.getElem?_toArray]; rfl) (by first | rfl | (rw [hops]; rfl)) ?_
                      intro K hK
                      go_wp2_with fail
                      have HS1 := And.intro (H13.out _ ((Kp.refl _ w5).drew.alloc (.cells #[uv r1] 28))) ((Kp.refl (fun k => some k = blk (.slice ba ab.length bc)) w5).drew.alloc (.cells #[uv r1] 28))
                      refine ⟨fun _ => HS1, ?_⟩
                      have hown6 : (w5.drew.alloc (.cells #[uv r1] 28)).ownsRow 0 28 1 (.slice ba ab.length bc) ab.length (us ab) := ownsRow_ext HO5.out ((Ext.refl w5).drew.alloc _)
                      have hone : RdC' (w5.drew.alloc (.cells #[uv r1] 28)) (.slice (some ⟨w5.drew.heap.size, 0, none⟩) 1 1) 1 [uv r1] := (RdC.block (heap_new _ _) (by unfold maxLen; omega)).weak
                      refine wpT_step (by rw [hops, List.getElem?_toArray]; rfl) (by first | rfl | (rw [hops]; rfl)) ?_
                      intro K hK
                      refine wp_app' _ _ 24 rfl 28 i0 (.int .u64 0) 1 8 Try.underlying24 HI1.out.1 HI1.out.2.1 HI1.out.2.2.1 HI1.out.2.2.2 rfl (by decide) (.slice ba ab.length bc) ab.length (us ab) rfl hown6 (.slice (some ⟨w5.drew.heap.size, 0, none⟩) 1 1) 1 [uv r1] rfl hone rfl (by intro u hu; simp only [List.mem_singleton] at hu; subst hu; rfl) (by have := HSZ.out; unfold maxLen; omega) (by have := HSZ.out; omega) ?_
                      intro v6 w6 hown7 hk7 hb7
                      have HK7 := hid (HS1.2.trans hk7)
                      have HS2 := And.intro (H13.out _ HK7.out) HK7.out
                      obtain ⟨ba6, bc6, rfl, -⟩ := ownsRow_rd hown7
                      have HO7 := hid hown7
                      have HB7 := hid hb7
                      have hn6 := HK7.out.heap_some (fun h => (HGB.out _ h).2.1 rfl) HN0.out
                      have kf := frozen_of hn6
                      obtain ⟨k0, k1, k2, k3, k4, k5⟩ := six_cellsO hn6
                      obtain ⟨hb8, hk8⟩ := six_setO (d0 := .bool r2.ideal) (d1 := uv r2.state) (d2 := .int .i64 (r2.draws : Int)) (d3 := .slice qa3 qn3 qc3) (d4 := .slice sa3 sn3 sc3) (d5 := .slice pa3 pn3 pc3) hn6
                      have HB8 := hid hb8
                      have HK8 := hid hk8
                      clear hown6 hone hown7 hk7 hb7 hn6 hb8 hk8
                      refine hK _ _ ⟨fun _ => HS2, ?_⟩
                      clear hK K
                      iterate 1
                        refine wpT_take (v := ?_) (by rw [hops, List.getElem?_toArray]; rfl) (by first | rfl | (rw [hops]; rfl)) ?_ HS2 ?_
                        rotate_left
                        · intro v h; go_simp; with_reducible rfl
                        simp only [Act.put, List.getElem_toArray, List.getElem_cons_zero, List.getElem_cons_succ, List.setIfInBounds_toArray, List.set_cons_zero, List.set_cons_succ]
                      clear HS HS1 HS2
                      refine wpT_step (by rw [hops, List.getElem?_toArray]; rfl) (by first | rfl | (rw [hops]; rfl)) ?_
                      intro K hK
                      go_wp2_with fail
                      try (with_reducible refine ⟨fun h => absurd h (by decide), ?_⟩)
                      try rw [wpT_nil]
                      try clear hops ops
                      go_wp2_with fail
                      go_roundw
                      case rel =>
                        exact ⟨p + 2, j + 1, ab ++ [r1], r2, .slice qa3 qn3 qc3, .slice sa3 sn3 sc3, .slice pa3 pn3 pc3, by have := HPJ.out; omega, by go_num, hid {
                          box := HB8.out
                          st := ((HST6.out.grow (G' := fun k => ((G k ∨ some k = blk (.slice oa (L.length + 1) oc)) ∨ k = n ∨ k = n + 1) ∨ some k = blk (.slice ba6 (ab.length + 1) bc6)) (HK7.out.mono fun k _ h => .inr h) (fun k h => by
                            rcases h with h | h
                            · exact .inl (.inl h)
                            · rcases HB7.out with hb | hb
                              · exact .inl (.inr (h.trans hb))
                              · right; rw [hb] at h; cases h; simp)).grow (HK8.out.mono fun k _ h => .inl (.inr (.inl h))) fun k h => .inl h)
                          own := by
                            have h1 : OwnU w6 (.slice ba6 (ab.length + 1) bc6) (ab ++ [r1]) := by
                              show w6.ownsRow 0 28 1 _ (ab ++ [r1]).length (us (ab ++ [r1]))
                              rw [List.length_append, show us (ab ++ [r1]) = us ab ++ [uv r1] by simp [us]]
                              exact HO7.out
                            refine ownsRow_kp h1 HK8.out fun k h h' => ?_
                            have hn := HN1.out
                            rcases HB7.out with hb | hb
                            · exact (HGB.out k (h.symm.trans hb)).2.1 h'
                            · rw [hb] at h; cases h; simp at h'; have := HLR.out.kp.size; have := HX6.out.size; omega
                          new := fun k h => by
                            rcases HB7.out with hb | hb
                            · exact (HGB.out k (h.symm.trans hb)).2.2.2
                            · rw [hb] at h; cases h; simp; have := HLR.out.kp.size; have := HX6.out.size; omega
                          kp := ((HLR.out.kp.ext HX6.out).trans2 HK7.out (fun k hk h => by have := (HGB.out k h).2.2.2; omega)).trans HK8.out
                          asks := HAS.out
                          so := HSO2.out
                          el := HEL2.out
                          id := HID2.out
                          il := by rw [HQN2.out]; have := HPJ.out; have := HM.out.1; omega }⟩
                      case measure => simp [intOf]; omega
                    · obtain rfl : p = lev.length := by have := HLR.out.il; have := HM.out; have := HPJ.out; have := HQN2.out; omega
                      have hltB : decide ((lev.length : Int) < (lev.length : Int)) = false := by simp
                      obtain ⟨hz1, hz2, hz3⟩ := HLR.out.sizes
                      have hjm : j = m := by have := HM.out; have := HPJ.out; omega
                      have hasks : M'.asks (branchQ lev) = (ab, M2) := by
                        have h1 := HLR.out.asks
                        rwa [List.take_of_length_le (by rw [HQN2.out]; omega)] at h1
                      have hcl := climb_go M' k1 lev (by omega)
                      rw [hasks] at hcl
                      have hx2 := (Ext.refl wr).alloc (.cells #[.slice ba ab.length bc] 24)
                      have hrd1 := RdC.new1 wr (.slice ba ab.length bc) 24
                      have hll : (L ++ [(lev, Value.slice va lev.length vc)]).length = L.length + 1 := by simp
                      have hbes : BesideL w0 wr (fun _ => False) (.slice oa (L.length + 1) oc) (L ++ [(lev, Value.slice va lev.length vc)]) := by
                        have hbn := heap_lt HB1.out
                        refine HT.out.bes.kpOther HLR.out.kp ?_
                        rintro i rfl
                        exact ⟨fun h => by have := (HT.out.bes.no _ h).2; omega, fun x hx h => by have := (HT.out.bes.nos x hx _ h).2; omega⟩
                      have HBES := hid hbes
                      have HOWNL := hid (hbes.own.ext hx2)
                      have HX2 := hid hx2
                      have HCL := hid hcl
                      have HZ := hid (And.intro hz1 (And.intro hz2 (And.intro hz3 hjm)))
                      have HRD := hid hrd1
                      have HLL := hid hll
                      have HLEN2 : Hid ((L ++ [(lev, Value.slice va lev.length vc)]).length ≤ 10) := hid (by have := HT.out.len; simp; omega)
                      clear hz1 hz2 hz3 hjm hasks hcl hx2 hrd1 hll hbes HL0
                      go_wp2_with (at_builtin; refine wpList_app rfl _ _ 22 rfl 24 j0 (.slice none 0 0) 1 24 Try.underlying22 HJ1.out.1 HJ1.out.2.1 HJ1.out.2.2.1 HJ1.out.2.2.2 rfl (by decide) (.slice oa (L.length + 1) oc) (L ++ [(lev, Value.slice va lev.length vc)]).length ((L ++ [(lev, Value.slice va lev.length vc)]).map (·.2)) rfl HOWNL.out.1 (.slice (some ⟨wr.heap.size, 0, none⟩) 1 1) 1 [.slice ba ab.length bc] rfl HRD.out rfl (by intro u hu; simp only [List.mem_singleton] at hu; subst hu; rfl) (by have := HLEN2.out; unfold maxLen; omega) (by have := HLEN2.out; omega) ?_)
                      intro v3 w3 hown3 hk3 hb3
                      have hlkp := HLR.out.kp.size
                      have htkp := HT.out.kp.size
                      have hbn := heap_lt HB1.out
                      have hno := HBES.out.no
                      have hnew := besideL_grow (l := ab) (x := .slice ba ab.length bc) HBES.out HLR.out.own (fun t ht => ⟨fun h => h, Nat.le_trans htkp (HLR.out.new t ht)⟩) HX2.out (by simpa using hown3) hk3 (by simpa using hb3) (fun k h => h.elim) (by simp; omega)
                      have hnext : TRel w0 w3 n G M leaves.length all (.slice ba ab.length bc) v3 (L ++ [(lev, Value.slice va lev.length vc)]) ab M2 k1 (.slice qa2 qn2 qc2) (.slice sa2 sn2 sc2) (.slice pa2 pn2 pc2) := {
                        box := hk3.heap_some (fun h => by have := (hno _ h.symm).2; omega) (HX2.out.heap_some HLR.out.box)
                        st := ((HLR.out.st.ext HX2.out).grow (G' := fun k => (G k ∨ some k = blk v3) ∨ k = n ∨ k = n + 1) (hk3.mono fun k _ h => .inl (.inl (.inr h))) (fun k h => by
                          rcases h with (h | h) | h
                          · exact .inl (.inl (.inl (.inl h)))
                          · rcases hb3 with hb | hb
                            · exact .inl (.inl (.inl (.inr (h.trans hb))))
                            · rw [hb] at h; have h5 := Option.some.inj h; right; simp at h5 ⊢; omega
                          · exact .inl (.inl (.inr h))))
                        bes := hnew
                        kp := ((HT.out.kp.trans HLR.out.kp).ext HX2.out).trans2 hk3 (fun k hk h => by have := (hno _ h.symm).2; omega)
                        spec := by rw [HT.out.spec, HCL.out]; simp
                        num := by rw [HZ.out.1, HZ.out.2.2.2]; exact HM.out.2.1
                        pow := by have := HT.out.pow; have := HM.out.1; rw [Nat.pow_succ] at *; rw [HZ.out.1, HZ.out.2.2.2]; omega
                        len := by have := HT.out.len; simp; omega
                        so := HLR.out.so
                        el := HLR.out.el
                        id := HLR.out.id.trans HT.out.id
                        qs := by have := HT.out.qs; have := HZ.out; have := HM.out.1; omega
                        draws := by have := HT.out.draws; have := HZ.out; have := HM.out.1; omega }
                      have HNX := hid hnext
                      clear hnext hnew hno hbn htkp hlkp hown3 hk3 hb3
                      go_wp2_with fail
                      go_roundw
                      case rel => exact ⟨_, ab, M2, k1, _, _, _, rfl, HNX⟩
                      case measure => have := HZ.out; have := HM.out; simp [intOf, lenOf]; omega
                · have hdl : decide (1 < lev.length) = false := by simp; omega
                  have hcs := climb_stop M' k lev (by omega)
                  have hsp := HT.out.spec
                  rw [hcs] at hsp
                  have HSP := hid hsp
                  have HL3 : Hid ((L ++ [(lev, Value.slice va lev.length vc)]).length = L.length + 1) := hid (by simp)
                  have H6 : Hid (∀ v, Ext wr v → v.cell? ⟨n, 0, none⟩ = some (.bool M'.ideal) ∧ v.cell? ⟨n, 1, none⟩ = some (uv M'.state) ∧ v.cell? ⟨n, 2, none⟩ = some (.int .i64 (M'.draws : Int)) ∧ v.cell? ⟨n, 3, none⟩ = some (.slice qa4 qn4 qc4) ∧ v.cell? ⟨n, 4, none⟩ = some (.slice sa4 sn4 sc4) ∧ v.cell? ⟨n, 5, none⟩ = some (.slice pa4 pn4 pc4)) := hid fun v k => six_cellsO (k.heap_some HT.out.box)
                  have hb1' := HT.out.kp.heap_some (by omega) HB1.out
                  have HB1' := hid hb1'
                  clear hcs hsp hb1'
                  go_wp2_with fail
                  refine wp_region_T (fun v => (v.cell? ⟨n, 0, none⟩ = some (.bool M'.ideal) ∧ v.cell? ⟨n, 1, none⟩ = some (uv M'.state) ∧ v.cell? ⟨n, 2, none⟩ = some (.int .i64 (M'.draws : Int)) ∧ v.cell? ⟨n, 3, none⟩ = some (.slice qa4 qn4 qc4) ∧ v.cell? ⟨n, 4, none⟩ = some (.slice sa4 sn4 sc4) ∧ v.cell? ⟨n, 5, none⟩ = some (.slice pa4 pn4 pc4)) ∧ Ext wr v) 3 [(0, true), (1, true), (2, true), (3, false), (4, false)] (by kernel_rfl) (by kernel_rfl) (by intro c a d v w h; cases d <;> exact h) ?_
                  intro ops hops
                  have HS := keep0 H6.out
                  iterate 3
                    refine wpT_take (v := ?_) (by rw [hops, List.getElem?_toArray]; rfl) (by first | rfl | (rw [hops]; rfl)) ?_ HS ?_
                    rotate_left
                    · intro v h; go_simp; with_reducible rfl
                    simp only [Act.put, List.getElem_toArray, List.getElem_cons_zero, List.getElem_cons_succ, List.setIfInBounds_toArray, List.set_cons_zero, List.set_cons_succ]
                  obtain ⟨k0, k1, k2, k3, k4, k5⟩ := six_cellsO HB1'.out
                  have kf := frozen_of HB1'.out
                  have HPT := hid (six_setO (d0 := .bool M'.ideal) (d1 := uv M'.state) (d2 := .int .i64 (M'.draws : Int)) (d3 := .slice qa4 qn4 qc4) (d4 := .slice sa4 sn4 sc4) (d5 := .slice pa4 pn4 pc4) HB1'.out)
                  clear HS
                  refine wpT_step (by rw [hops, List.getElem?_toArray]; rfl) (by first | rfl | (rw [hops]; rfl)) ?_
                  intro K hK
                  go_wp2_with fail
                  try (with_reducible refine ⟨fun h => absurd h (by decide), ?_⟩)
                  try rw [← hops]
                  refine wpT_step (by rw [hops, List.getElem?_toArray]; rfl) (by first | rfl | (rw [hops]; rfl)) ?_
                  intro K hK
                  go_wp2_with fail
                  try (with_reducible refine ⟨fun h => absurd h (by decide), ?_⟩)
                  try rw [wpT_nil]
                  try clear hops ops
                  go_wp2_with fail
                  obtain ⟨hb9, hk9⟩ := HPT.out
                  obtain ⟨r0, r1, r2, r3, r4, r5⟩ := six_cellsO hb9
                  have hx9 := HX0.out.kp (F := fun k => k = n ∨ k = n + 1) ((HT.out.kp.mono fun k _ h => .inl h).trans (hk9.mono fun k _ h => .inr h)).drew (fun k h => by have := HN.out; omega)
                  refine bodyPost_ret (v := .tuple #[.slice oa (L.length + 1) oc, oVal M'.ideal M'.state M'.draws (.slice qa4 qn4 qc4) (.slice sa4 sn4 sc4) (.slice pa4 pn4 pc4), .int .i64 0]) (by simp [results, Try.results52, go_sem, r0, r1, r2, r3, r4, r5]) rfl ?_
                  have hres : M.commitT leaves salts = ((L ++ [(lev, Value.slice va lev.length vc)]).map (·.1), M') := by rw [HALL.out, HSP.out]; simp
                  unfold RComO
                  rw [hres, HOK.out]
                  refine ⟨_, _, _, _, rfl, fun w'' k'' => ?_, HT.out.st.grow (G' := G) (hk9.drew.mono fun k _ h => .inr (.inr h)) (fun k h => .inl (.inl (.inl h))), hx9⟩
                  have hwn := HN.out
                  have hbn := heap_lt HB1.out
                  have hkk : Kp (fun k => k = n + 1 ∨ G k) wr w'' := (hk9.drew.mono fun k _ h => .inl h).trans (k''.mono fun k _ h => .inr h)
                  exact (HT.out.bes.kpOther hkk (fun i hi => by
                    have hil : i < w0.heap.size := by
                      rcases hi with rfl | hi
                      · exact hbn
                      · have := HG.out i hi; have := HX0.out.size; omega
                    exact ⟨fun h => by have := (HT.out.bes.no _ h).2; omega, fun x hx h => by have := (HT.out.bes.nos x hx _ h).2; omega⟩)).own.rdl
end Go.Proofs.Ytdpgfjnpcjpdpaa
