/- OracleSeal returns true for every seed, operation and kind of oracle. -/
import Derived.Test.YtdkilbnocmnekaaSealLaw
import Derived.Test.YtdkilbnocmnekaaMut
import Derived.Test.YtdkilbnocmnekaaOps
import Derived.Test.YtdkilbnocmnekaaAwk10
import Derived.Test.YtdkilbnocmnekaaSame
import Derived.Test.YtdkilbnocmnekaaRef
set_option linter.unusedSimpArgs false
namespace Go.Proofs.Ytdkilbnocmnekaa
open Go.RowKit
attribute [local irreducible] perm fAdd fMul fPow fSub fNeg fRed hashU drawOf nextState

theorem cellsOp {w : World} {b : Nat} {c0 c1 c2 c3 c4 : Value} {T : TypeId} {fz : Nat × Nat} (h : w.heap[b]? = some (.cells #[c0, c1, c2, c3, c4] T fz)) :
    w.cell? ⟨b, 0, none⟩ = some c0 ∧ w.cell? ⟨b, 1, none⟩ = some c1 ∧ w.cell? ⟨b, 2, none⟩ = some c2 ∧ w.cell? ⟨b, 3, none⟩ = some c3 ∧ w.cell? ⟨b, 4, none⟩ = some c4 :=
  ⟨cell_of h 0, cell_of h 1, cell_of h 2, cell_of h 3, cell_of h 4⟩
theorem one_op {w : World} {b : Nat} {x : OpV} {u : Value} {T : TypeId} (h : w.heap[b]? = some (.cells #[.int .u8 (x.kind.toNat : Int), uv x.label, u, uv x.n, .bool x.odd] T (0, 0))) (hx : RdU w u x.l) : RdOps w (.slice (some ⟨b, 0, none⟩) 1 1) [x] := by
  refine ⟨_, 1, rfl, Nat.le_refl _, by unfold maxLen; omega, (fun h => by cases h), fun ad ha => ?_⟩
  obtain rfl := Option.some.inj ha
  refine ⟨rfl, fun i z hz => ?_⟩
  match i, hz with
  | 0, hz =>
    obtain rfl : x = z := by simpa using hz
    exact ⟨u, cell_of h 0, cell_of h 1, cell_of h 2, cell_of h 3, cell_of h 4, hx.rdc.weak⟩
  | i + 1, hz => simp at hz
theorem ofM_draws0 (seed : UInt64) (ideal : Bool) : (ofM seed ideal).draws = 0 ∧ (ofM seed ideal).seals = [] ∧ (ofM seed ideal).ideal = ideal := by cases ideal <;> exact ⟨rfl, rfl, rfl⟩
theorem seal_pack (seed : UInt64) (ideal : Bool) (k nn : UInt64) (l : List UInt64) (hl : l.length ≤ 20) : ∃ sl M1 op,
    (∀ v b F pv, OrcAt v b (ofM seed ideal) F → RdU v pv l → (∀ j, blk pv = some j → ¬ F j) → Calls Try.prog 36 #[.pointer (some ⟨b, 0, none⟩), uv k, uv nn, pv] v (SealO v b F (sl, M1))) ∧
    (∀ v b F lv l', OrcAt v b M1 F → RdU v lv l' → l'.length ≤ 22 → Calls Try.prog 38 #[.pointer (some ⟨b, 0, none⟩), uv k, uv nn, lv] v (OpenC v (op l'))) ∧
    (cipE k nn l = false → sl = []) ∧ (cipE k nn l = true → ∃ pre t, SealsOk k nn l sl op pre t) := by
  obtain ⟨h1, h2, h3⟩ := ofM_draws0 seed ideal
  generalize ofM seed ideal = M at *
  cases ideal with
  | false =>
    refine ⟨if cipE k nn l then cipSeal k nn l else [], M, cipOpen k nn, fun v b F pv ho hr _ => Seal_real ho h3 hr (by omega), fun v b F lv l' ho hr hl' => Open_real ho h3 hr (by omega), fun h => by rw [h]; rfl, fun h => ?_⟩
    rw [h]
    exact seal_real_law h
  | true =>
    cases hc : cipE k nn l with
    | false =>
      refine ⟨[], M, opI M k nn, fun v b F pv ho hr hf => ?_, fun v b F lv l' ho hr hl' => Open_ideal ho h3 hr (by omega) (by rw [h2]; simp), fun _ => rfl, fun h => by cases h⟩
      have := Seal_ideal (key := k) (nonce := nn) ho h3 hr hf (by omega) (by omega)
      rw [sealI_no hc] at this
      exact this
    | true =>
      obtain ⟨sl, M1, e1, e2, e3, hok⟩ := seal_ideal_law h2 hc
      refine ⟨sl, M1, opI M1 k nn, fun v b F pv ho hr hf => ?_, fun v b F lv l' ho hr hl' => Open_ideal ho (e2.trans h3) hr (by omega) (fun s hs => by rw [e3 s hs]; omega), fun h => (by cases h), fun _ => hok⟩
      have := Seal_ideal (key := k) (nonce := nn) ho h3 hr hf (by omega) (by omega)
      rw [e1] at this
      exact this
theorem RdU.at' {w : World} {a : Option Addr} {n c : Nat} {l : List UInt64} (h : RdU w (.slice a n c) l) {i : Nat} {x : UInt64} (hx : l[i]? = some x) : ∃ b o, a = some ⟨b, o, none⟩ ∧ w.cell? ⟨b, o + i, none⟩ = some (.int .u64 x.toNat) := by
  obtain ⟨a', c', he, h1, h2, h3, h4⟩ := id h
  injection he with e1 e2 e3
  subst e1 e2 e3
  exact h.at hx
/-- The last element of a list of one's own, written over. -/
theorem OwnU.put_last {w : World} {g c : Nat} {pre : List UInt64} {t y : UInt64} (h : OwnU w (.slice (some ⟨g, 0, none⟩) (pre.length + 1) c) (pre ++ [t])) : OwnU (w.setCell ⟨g, pre.length, none⟩ (uv y)) (.slice (some ⟨g, 0, none⟩) (pre.length + 1) c) (pre ++ [y]) := by
  rcases h.2 with ⟨h0, _⟩ | ⟨g', cap, cur, h0, _, hg, hnc, hcm, hcs, ht⟩
  · cases h0
  · injection h0 with h0 h1 h2
    injection h0 with h0
    injection h0 with h0
    subst h0 h2
    refine ⟨by simp, .inr ⟨g, c, _, by simp, Nat.zero_le _, heap_setCell_same hg pre.length (uv y), by simpa using hnc, hcm, by simpa using hcs, ?_⟩⟩
    have hcz : cur.size = c := by simpa using hcs
    have hnc' : pre.length + 1 ≤ c := by simpa using hnc
    have hlen : pre.length + 1 ≤ cur.toList.length := by simp only [Array.length_toList]; omega
    rw [Array.toList_setIfInBounds]
    have h3 : ((pre ++ [y]).length * 1) = pre.length + 1 := by simp
    have h4 : ((pre ++ [t]).length * 1) = pre.length + 1 := by simp
    rw [h3, take_set1 _ _ _ (by omega)]
    rw [h4] at ht
    have h5 := congrArg (List.take pre.length) ht
    rw [List.take_take, Nat.min_eq_left (by omega)] at h5
    rw [h5]
    simp

set_option maxRecDepth 100000 in
set_option maxHeartbeats 3200000 in
theorem OracleSeal_any (seed : UInt64) (x : OpV) (ua : Value) (ideal : Bool) (w : World) (hx : RdU w ua x.l) :
    Calls Try.prog 9 #[uv seed, .agg #[.int .u8 (x.kind.toNat : Int), uv x.label, ua, uv x.n, .bool x.odd], .bool ideal] w fun e w' => e = .returned (.bool true) ∧ Ext w w' := by
  have HX := hid hx
  have CR := hid Real_any
  have CI := hid (Ideal_any seed)
  have PK := hid (seal_pack seed ideal x.label x.n x.l)
  obtain ⟨xa, xc, rfl, -⟩ := id hx
  clear hx
  have hxw := (Ext.refl w).alloc (.cells #[.int .u8 (x.kind.toNat : Int), uv x.label, .slice xa x.l.length xc, uv x.n, .bool x.odd] 30)
  have hb0 := heap_new w (.cells #[.int .u8 (x.kind.toNat : Int), uv x.label, .slice xa x.l.length xc, uv x.n, .bool x.odd] 30)
  go_enter Try.func9, Try.ntmps9
  go_wp2_with fail
  generalize w.alloc (.cells #[.int .u8 (x.kind.toNat : Int), uv x.label, .slice xa x.l.length xc, uv x.n, .bool x.odd] 30) = w0 at *
  refine (awake10_any _).mono ?_
  rintro e w1 ⟨rfl, hx1⟩
  have HB0 := hid (hx1.heap_some hb0)
  have HX1 := hid (hxw.trans hx1)
  obtain ⟨c0, c1, c2, c3, c4⟩ := cellsOp HB0.out
  clear hx1 hxw hb0
  go_wp2_with fail
  have hx2 := (Ext.refl w1).alloc (.cells #[.int .u8 (x.kind.toNat : Int), uv x.label, .slice xa x.l.length xc, uv x.n, .bool x.odd] 30)
  have hops := one_op (heap_new w1 (.cells #[.int .u8 (x.kind.toNat : Int), uv x.label, .slice xa x.l.length xc, uv x.n, .bool x.odd] 30)) (HX.out.ext (HX1.out.trans hx2))
  refine (few_any [x] _ _ hops).mono ?_
  rintro e w2 ⟨rfl, hx3⟩
  have HX12 := hid (hx2.trans hx3)
  have HX2 := hid (HX1.out.trans HX12.out)
  have HC0 := hid (HX12.out.heap_some HB0.out)
  clear hx2 hops hx3 c0 c1 c2 c3 c4
  rcases hfew : fewB [x] with _ | _
  · clear hfew
    go_wp2_with fail
    go_ret
    exact ⟨rfl, HX2.out⟩
  have hlx : x.l.length ≤ 20 := (fewB_len hfew).2 x (by simp)
  clear hfew
  have HLX := hid hlx
  obtain ⟨sl, M1, op, hS, hO, hbad, hgood⟩ := PK.out hlx
  have CS := hid hS
  have CO := hid hO
  have BAD := hid hbad
  have GOOD := hid hgood
  have RX := hid (HX.out.ext HX2.out)
  have B3 : Hid (∀ v, Ext w2 v → v.cell? ⟨w.heap.size, 1, none⟩ = some (uv x.label) ∧ v.cell? ⟨w.heap.size, 2, none⟩ = some (.slice xa x.l.length xc) ∧ v.cell? ⟨w.heap.size, 3, none⟩ = some (uv x.n)) := hid fun v k => ⟨(cellsOp (k.heap_some HC0.out)).2.1, (cellsOp (k.heap_some HC0.out)).2.2.1, (cellsOp (k.heap_some HC0.out)).2.2.2.1⟩
  clear hlx hS hO hbad hgood PK
  have JOIN : ∀ v, NewO w2 (ofM seed ideal) (.returned (.bool true)) v → True := fun _ _ => trivial
  clear JOIN
  go_wp2_with fail
  refine (CR.out _).mono ?_
  rintro e w3 ⟨br, Fr, rfl, hatr, hx3, hFr⟩
  cases ideal with
  | false =>
    have HAT : Hid (OrcAt w3 br (ofM seed false) Fr) := hid hatr
    have HX3 := hid hx3
    have HF : Hid (∀ k, Fr k → w2.heap.size ≤ k) := hid hFr
    clear hatr hx3 hFr CR CI
    go_wp2_with fail
    refine wp_region_T (fun v => (v.cell? ⟨w.heap.size, 1, none⟩ = some (uv x.label) ∧ v.cell? ⟨w.heap.size, 2, none⟩ = some (.slice xa x.l.length xc) ∧ v.cell? ⟨w.heap.size, 3, none⟩ = some (uv x.n)) ∧ Ext w2 v) 8 [(0, true), (1, true), (2, true), (3, true), (4, true), (5, true), (6, true), (7, false), (8, false), (9, false)] (by kernel_rfl) (by kernel_rfl) (by intro c a d v w h; cases d <;> exact h) ?_
    intro ops hops
    have HS : _ ∧ Ext w2 w3.drew := ⟨B3.out _ HX3.out.drew, HX3.out.drew⟩
    iterate 7
      refine wpT_take (v := ?_) (by rw [hops, List.getElem?_toArray]; rfl) (by first | rfl | (rw [hops]; rfl)) ?_ HS ?_
      rotate_left
      · intro v h; go_simp; with_reducible rfl
      simp only [Act.put, List.getElem_toArray, List.getElem_cons_zero, List.getElem_cons_succ, List.setIfInBounds_toArray, List.set_cons_zero, List.set_cons_succ]
    refine wpT_step (by rw [hops, List.getElem?_toArray]; rfl) (by first | rfl | (rw [hops]; rfl)) ?_
    intro K hK
    go_wp2_with fail
    refine (own_any _ x.l _ (RX.out.ext HX3.out.drew).rdc.weak (by have := HLX.out; omega)).mono ?_
    rintro e w5 ⟨v5, rfl, hown, hx5, hfr⟩
    obtain ⟨va, vc, rfl, -⟩ := ownsRow_rd hown
    have BA := hid (Beside.fresh (HAT.out.ext (Ext.refl _).drew) hown hfr)
    have hx5' := HX3.out.drew.trans hx5
    have HX5 := hid hx5'
    have HAT5 := hid (HAT.out.ext ((Ext.refl _).drew.trans hx5))
    have HS5 : _ ∧ Ext w2 w5 := ⟨B3.out _ hx5', hx5'⟩
    clear hown hx5 hx5' hfr HS
    refine hK _ _ ⟨fun _ => HS5, ?_⟩
    clear hK K
    refine wpT_step (by rw [hops, List.getElem?_toArray]; rfl) (by first | rfl | (rw [hops]; rfl)) ?_
    intro K hK
    go_wp2_with fail
    refine (CS.out _ _ _ _ HAT5.out BA.out.own.rdu BA.out.no).mono ?_
    rintro e w6 ⟨sv, F6, rfl, hsown, t6, hsfr⟩
    simp only at hsown t6
    obtain ⟨sa, sc, rfl, -⟩ := ownsRow_rd hsown
    have HX6 := hid (HX5.out.kp t6.kp HF.out)
    have AT6 := hid t6.at'
    have HSO := hid hsown
    have HSF := hid hsfr
    clear hsown t6 hsfr HS5 BA CS HAT5
    refine hK _ _ ⟨fun h => absurd h (by decide), ?_⟩
    clear hK K
    refine wpT_step (by rw [hops, List.getElem?_toArray]; rfl) (by first | rfl | (rw [hops]; rfl)) ?_
    intro K hK
    go_wp2_with fail
    refine ⟨fun h => absurd h (by decide), ?_⟩
    rw [wpT_nil]
    clear hops ops
    obtain ⟨c1, c2, c3⟩ := B3.out _ HX6.out
    have HBD : Hid (cipE x.label x.n x.l = false → ((sl.length : Int) == 0) = true) := hid fun h => by rw [BAD.out h]; rfl
    go_wp2_with fail
    refine (Element_any x.label _).mono ?_
    rintro e w7 ⟨rfl, rfl⟩
    rcases hyl : decide (x.label < big) with _ | _
    · have hn0 := HBD.out (by unfold cipE; rw [hyl]; rfl)
      clear hyl
      go_wp2_with fail
      go_ret
      exact ⟨rfl, HX2.out.trans HX6.out⟩
    have HYL := hid hyl
    clear hyl
    go_wp2_with fail
    refine (Element_any x.n _).mono ?_
    rintro e w7 ⟨rfl, rfl⟩
    rcases hyn : decide (x.n < big) with _ | _
    · have hn0 := HBD.out (by unfold cipE; rw [HYL.out, hyn]; rfl)
      clear hyn
      go_wp2_with fail
      go_ret
      exact ⟨rfl, HX2.out.trans HX6.out⟩
    have HYN := hid hyn
    clear hyn
    go_wp2_with fail
    refine (Elements_any _ x.l _ (RX.out.ext HX6.out) (by have := HLX.out; omega)).mono ?_
    rintro e w7 ⟨rfl, rfl⟩
    rcases hey : allE x.l with _ | _
    · have hn0 := HBD.out (by unfold cipE; rw [HYL.out, HYN.out, hey]; rfl)
      clear hey
      go_wp2_with fail
      go_ret
      exact ⟨rfl, HX2.out.trans HX6.out⟩
    obtain ⟨pre, t, hok⟩ := GOOD.out (by unfold cipE; rw [HYL.out, HYN.out, hey]; rfl)
    have OK := hid hok
    have hsl : sl.length = x.l.length + 1 := by rw [hok.eq, List.length_append, hok.len]; rfl
    have hne : ((sl.length : Int) != (x.l.length : Int) + 1) = false := by rw [hsl]; simp
    have HSL := hid hsl
    have hl20 : (x.l.length : Int) ≤ 20 := by have := HLX.out; omega
    clear hok hey hsl HBD BAD GOOD
    go_wp2_with fail
    refine (Elements_any _ sl _ HSO.out.rdu (by have := HSL.out; have := HLX.out; omega)).mono ?_
    rintro e w7 ⟨rfl, rfl⟩
    rw [OK.out.all]
    clear hne c1 c2 c3
    go_wp2_with fail
    refine wp_region_T (fun v => (v.cell? ⟨w.heap.size, 1, none⟩ = some (uv x.label) ∧ v.cell? ⟨w.heap.size, 2, none⟩ = some (.slice xa x.l.length xc) ∧ v.cell? ⟨w.heap.size, 3, none⟩ = some (uv x.n)) ∧ Ext w2 v) 12 [(0, true), (1, true), (2, true), (3, true), (4, true), (5, true), (6, false), (7, false), (8, true), (9, true), (10, true), (11, true), (12, false)] (by kernel_rfl) (by kernel_rfl) (by intro c a d v w h; cases d <;> exact h) ?_
    intro ops hops
    have HS : _ ∧ Ext w2 w6.drew := ⟨B3.out _ HX6.out.drew, HX6.out.drew⟩
    iterate 6
      refine wpT_take (v := ?_) (by rw [hops, List.getElem?_toArray]; rfl) (by first | rfl | (rw [hops]; rfl)) ?_ HS ?_
      rotate_left
      · intro v h; go_simp; with_reducible rfl
      simp only [Act.put, List.getElem_toArray, List.getElem_cons_zero, List.getElem_cons_succ, List.setIfInBounds_toArray, List.set_cons_zero, List.set_cons_succ]
    refine wpT_step (by rw [hops, List.getElem?_toArray]; rfl) (by first | rfl | (rw [hops]; rfl)) ?_
    intro K hK
    go_wp2_with fail
    refine (own_any _ sl _ (OwnU.rdu (ownsRow_ext HSO.out (Ext.refl w6).drew)).rdc.weak (by have := HSL.out; have := HLX.out; omega)).mono ?_
    rintro e w7 ⟨v7, rfl, hown, hx7, hfr⟩
    obtain ⟨qa, qc, rfl, -⟩ := ownsRow_rd hown
    have RQ := hid hown.rdu
    have hx7' := HX6.out.drew.trans hx7
    have HX7 := hid hx7'
    have HX67 := hid ((Ext.refl w6).drew.trans hx7)
    have HS7 : _ ∧ Ext w2 w7 := ⟨B3.out _ hx7', hx7'⟩
    clear hown hx7 hx7' hfr HS
    refine hK _ _ ⟨fun _ => HS7, ?_⟩
    clear hK K
    refine wpT_step (by rw [hops, List.getElem?_toArray]; rfl) (by first | rfl | (rw [hops]; rfl)) ?_
    intro K hK
    go_wp2_with fail
    have COP := CO.out _ _ _ _ sl (AT6.out.ext HX67.out) RQ.out (by have := HSL.out; have := HLX.out; omega)
    unfold OpenC at COP
    rw [OK.out.yes] at COP
    refine COP.mono ?_
    rintro e w8 ⟨pv, rfl, hown, hx8, -⟩
    simp only at hown
    obtain ⟨pa, pc, rfl, -⟩ := ownsRow_rd hown
    have RP := hid hown.rdu
    have hx8' := HX7.out.trans hx8
    have HX8 := hid hx8'
    have HX68 := hid (HX67.out.trans hx8)
    have HS8 : _ ∧ Ext w2 w8 := ⟨B3.out _ hx8', hx8'⟩
    clear hown hx8 hx8' HS7 COP
    refine hK _ _ ⟨fun _ => HS8, ?_⟩
    clear hK K
    iterate 4
      refine wpT_take (v := ?_) (by rw [hops, List.getElem?_toArray]; rfl) (by first | rfl | (rw [hops]; rfl)) ?_ HS8 ?_
      rotate_left
      · intro v h; go_simp; with_reducible rfl
      simp only [Act.put, List.getElem_toArray, List.getElem_cons_zero, List.getElem_cons_succ, List.setIfInBounds_toArray, List.set_cons_zero, List.set_cons_succ]
    refine wpT_step (by rw [hops, List.getElem?_toArray]; rfl) (by first | rfl | (rw [hops]; rfl)) ?_
    intro K hK
    go_wp2_with fail
    refine ⟨fun h => absurd h (by decide), ?_⟩
    rw [wpT_nil]
    clear hops ops
    clear HS8
    obtain ⟨c1, c2, c3⟩ := B3.out _ HX8.out
    go_wp2_with fail
    refine (Same_any _ _ x.l x.l _ RP.out (RX.out.ext HX8.out) (by have := HLX.out; omega) (by have := HLX.out; omega)).mono ?_
    rintro e w9 ⟨rfl, hx9⟩
    rw [show (x.l == x.l) = true from by simp]
    have HX9 := hid (HX8.out.trans hx9)
    have HX69 := hid (HX68.out.trans hx9)
    clear hx9 c1 c2 c3
    obtain ⟨g, hsa⟩ : ∃ g, sa = some ⟨g, 0, none⟩ := by
      rcases HSO.out.2 with ⟨_, h0⟩ | ⟨g, cap, cur, h, _⟩
      · have := HSL.out; omega
      · injection h with h _ _; exact ⟨g, h⟩
    subst hsa
    obtain rfl := OK.out.eq
    have hnl : (pre ++ [t]).length = pre.length + 1 := by simp
    have hS9 := ownsRow_ext HSO.out HX69.out
    rw [hnl] at hS9 ⊢
    have HS9 : Hid (OwnU w9 (.slice (some ⟨g, 0, none⟩) (pre.length + 1) sc) (pre ++ [t])) := hid (by unfold OwnU; rw [hnl]; exact hS9)
    have hgF := HSF.out g (by rfl)
    have HGF : Hid (¬ F6 g ∧ w2.heap.size ≤ g) := hid ⟨hgF.2, Nat.le_trans HX5.out.size hgF.1⟩
    have htb : t < big := by
      have h := OK.out.all
      rw [allE_snoc'] at h
      simp only [Bool.and_eq_true, decide_eq_true_eq] at h
      exact h.2
    have CAD := hid (addOne_any t w9 htb)
    have hpl : pre.length ≤ 20 := by have := OK.out.len; have := HLX.out; omega
    have hbl : (pre.length : Int) < ((pre.length + 1 : Nat) : Int) := by omega
    have hpn : (0 : Int) ≤ (pre.length : Int) := Int.natCast_nonneg _
    have hwl : IntKind.i64.wrap (((pre.length + 1 : Nat) : Int) - 1) = (pre.length : Int) := by rw [IntWalk.i64_in _ (by omega)]; omega
    have hwl2 : IntKind.i64.wrap ((pre.length : Int) + 1 - 1) = (pre.length : Int) := by rw [IntWalk.i64_in _ (by omega)]; omega
    have hct : w9.cell? ⟨g, pre.length, none⟩ = some (uv t) := by
      obtain ⟨b', o', he, hc⟩ := (OwnU.rdu HS9.out : RdU w9 _ _).at' (i := pre.length) (x := t) (by simp)
      injection he with he
      injection he with he1 he2
      subst he1 he2
      rw [Nat.zero_add] at hc
      exact hc
    have hfz : w9.frozen? ⟨g, pre.length, none⟩ = false := by
      rcases HS9.out.2 with ⟨h, _⟩ | ⟨g', cap, cur, h, _, hg, _⟩
      · cases h
      · injection h with h _ _
        injection h with h
        injection h with h
        subst h
        exact frozen_of hg _
    have HPL := hid hpl
    clear hS9 hgF htb hnl
    go_wp2_with fail
    refine CAD.out.mono ?_
    rintro e w10 ⟨rfl, hw10⟩
    subst hw10
    have HXS := hid (HX9.out.setCell (p := ⟨g, pre.length, none⟩) HGF.out.2 (uv (addOne t)))
    obtain ⟨c1, c2, c3⟩ := B3.out _ HXS.out
    have ATS := hid ((AT6.out.ext HX69.out).kp ((Kp.refl (fun k => k = g) _).setCell (p := ⟨g, pre.length, none⟩) (.inl rfl) (uv (addOne t))) (fun i hi e => HGF.out.1 (e ▸ hi)))
    have RS := hid (OwnU.rdu (OwnU.put_last (y := addOne t) HS9.out))
    go_wp2_with fail
    have COP2 := CO.out _ _ _ _ (pre ++ [addOne t]) ATS.out RS.out (by simp; have := HPL.out; omega)
    unfold OpenC at COP2
    rw [OK.out.no] at COP2
    refine COP2.mono ?_
    rintro e w11 ⟨pv2, rfl, hown, hx11, -⟩
    obtain ⟨p1, p2, rfl, -⟩ := ownsRow_rd hown
    have HX11 := hid (HX2.out.trans (HXS.out.trans hx11))
    clear hown hx11 COP2
    go_wp2_with fail
    go_ret
    exact ⟨rfl, HX11.out⟩

  | true =>
    have HXR := hid hx3
    clear hatr hx3 hFr CR
    go_wp2_with fail
    refine (CI.out _).mono ?_
    rintro e w4 ⟨br, Fr, rfl, hatr, hx3, hFr⟩
    have HAT : Hid (OrcAt w4 br (ofM seed true) Fr) := hid hatr
    have HX3 := hid (HXR.out.trans hx3)
    have HF : Hid (∀ k, Fr k → w2.heap.size ≤ k) := hid fun k hk => Nat.le_trans HXR.out.size (hFr k hk)
    clear hatr hx3 hFr CI HXR
    generalize w4 = w3 at *
    go_wp2_with fail
    refine wp_region_T (fun v => (v.cell? ⟨w.heap.size, 1, none⟩ = some (uv x.label) ∧ v.cell? ⟨w.heap.size, 2, none⟩ = some (.slice xa x.l.length xc) ∧ v.cell? ⟨w.heap.size, 3, none⟩ = some (uv x.n)) ∧ Ext w2 v) 8 [(0, true), (1, true), (2, true), (3, true), (4, true), (5, true), (6, true), (7, false), (8, false), (9, false)] (by kernel_rfl) (by kernel_rfl) (by intro c a d v w h; cases d <;> exact h) ?_
    intro ops hops
    have HS : _ ∧ Ext w2 w3.drew := ⟨B3.out _ HX3.out.drew, HX3.out.drew⟩
    iterate 7
      refine wpT_take (v := ?_) (by rw [hops, List.getElem?_toArray]; rfl) (by first | rfl | (rw [hops]; rfl)) ?_ HS ?_
      rotate_left
      · intro v h; go_simp; with_reducible rfl
      simp only [Act.put, List.getElem_toArray, List.getElem_cons_zero, List.getElem_cons_succ, List.setIfInBounds_toArray, List.set_cons_zero, List.set_cons_succ]
    refine wpT_step (by rw [hops, List.getElem?_toArray]; rfl) (by first | rfl | (rw [hops]; rfl)) ?_
    intro K hK
    go_wp2_with fail
    refine (own_any _ x.l _ (RX.out.ext HX3.out.drew).rdc.weak (by have := HLX.out; omega)).mono ?_
    rintro e w5 ⟨v5, rfl, hown, hx5, hfr⟩
    obtain ⟨va, vc, rfl, -⟩ := ownsRow_rd hown
    have BA := hid (Beside.fresh (HAT.out.ext (Ext.refl _).drew) hown hfr)
    have hx5' := HX3.out.drew.trans hx5
    have HX5 := hid hx5'
    have HAT5 := hid (HAT.out.ext ((Ext.refl _).drew.trans hx5))
    have HS5 : _ ∧ Ext w2 w5 := ⟨B3.out _ hx5', hx5'⟩
    clear hown hx5 hx5' hfr HS
    refine hK _ _ ⟨fun _ => HS5, ?_⟩
    clear hK K
    refine wpT_step (by rw [hops, List.getElem?_toArray]; rfl) (by first | rfl | (rw [hops]; rfl)) ?_
    intro K hK
    go_wp2_with fail
    refine (CS.out _ _ _ _ HAT5.out BA.out.own.rdu BA.out.no).mono ?_
    rintro e w6 ⟨sv, F6, rfl, hsown, t6, hsfr⟩
    simp only at hsown t6
    obtain ⟨sa, sc, rfl, -⟩ := ownsRow_rd hsown
    have HX6 := hid (HX5.out.kp t6.kp HF.out)
    have AT6 := hid t6.at'
    have HSO := hid hsown
    have HSF := hid hsfr
    clear hsown t6 hsfr HS5 BA CS HAT5
    refine hK _ _ ⟨fun h => absurd h (by decide), ?_⟩
    clear hK K
    refine wpT_step (by rw [hops, List.getElem?_toArray]; rfl) (by first | rfl | (rw [hops]; rfl)) ?_
    intro K hK
    go_wp2_with fail
    refine ⟨fun h => absurd h (by decide), ?_⟩
    rw [wpT_nil]
    clear hops ops
    obtain ⟨c1, c2, c3⟩ := B3.out _ HX6.out
    have HBD : Hid (cipE x.label x.n x.l = false → ((sl.length : Int) == 0) = true) := hid fun h => by rw [BAD.out h]; rfl
    go_wp2_with fail
    refine (Element_any x.label _).mono ?_
    rintro e w7 ⟨rfl, rfl⟩
    rcases hyl : decide (x.label < big) with _ | _
    · have hn0 := HBD.out (by unfold cipE; rw [hyl]; rfl)
      clear hyl
      go_wp2_with fail
      go_ret
      exact ⟨rfl, HX2.out.trans HX6.out⟩
    have HYL := hid hyl
    clear hyl
    go_wp2_with fail
    refine (Element_any x.n _).mono ?_
    rintro e w7 ⟨rfl, rfl⟩
    rcases hyn : decide (x.n < big) with _ | _
    · have hn0 := HBD.out (by unfold cipE; rw [HYL.out, hyn]; rfl)
      clear hyn
      go_wp2_with fail
      go_ret
      exact ⟨rfl, HX2.out.trans HX6.out⟩
    have HYN := hid hyn
    clear hyn
    go_wp2_with fail
    refine (Elements_any _ x.l _ (RX.out.ext HX6.out) (by have := HLX.out; omega)).mono ?_
    rintro e w7 ⟨rfl, rfl⟩
    rcases hey : allE x.l with _ | _
    · have hn0 := HBD.out (by unfold cipE; rw [HYL.out, HYN.out, hey]; rfl)
      clear hey
      go_wp2_with fail
      go_ret
      exact ⟨rfl, HX2.out.trans HX6.out⟩
    obtain ⟨pre, t, hok⟩ := GOOD.out (by unfold cipE; rw [HYL.out, HYN.out, hey]; rfl)
    have OK := hid hok
    have hsl : sl.length = x.l.length + 1 := by rw [hok.eq, List.length_append, hok.len]; rfl
    have hne : ((sl.length : Int) != (x.l.length : Int) + 1) = false := by rw [hsl]; simp
    have HSL := hid hsl
    have hl20 : (x.l.length : Int) ≤ 20 := by have := HLX.out; omega
    clear hok hey hsl HBD BAD GOOD
    go_wp2_with fail
    refine (Elements_any _ sl _ HSO.out.rdu (by have := HSL.out; have := HLX.out; omega)).mono ?_
    rintro e w7 ⟨rfl, rfl⟩
    rw [OK.out.all]
    clear hne c1 c2 c3
    go_wp2_with fail
    refine wp_region_T (fun v => (v.cell? ⟨w.heap.size, 1, none⟩ = some (uv x.label) ∧ v.cell? ⟨w.heap.size, 2, none⟩ = some (.slice xa x.l.length xc) ∧ v.cell? ⟨w.heap.size, 3, none⟩ = some (uv x.n)) ∧ Ext w2 v) 12 [(0, true), (1, true), (2, true), (3, true), (4, true), (5, true), (6, false), (7, false), (8, true), (9, true), (10, true), (11, true), (12, false)] (by kernel_rfl) (by kernel_rfl) (by intro c a d v w h; cases d <;> exact h) ?_
    intro ops hops
    have HS : _ ∧ Ext w2 w6.drew := ⟨B3.out _ HX6.out.drew, HX6.out.drew⟩
    iterate 6
      refine wpT_take (v := ?_) (by rw [hops, List.getElem?_toArray]; rfl) (by first | rfl | (rw [hops]; rfl)) ?_ HS ?_
      rotate_left
      · intro v h; go_simp; with_reducible rfl
      simp only [Act.put, List.getElem_toArray, List.getElem_cons_zero, List.getElem_cons_succ, List.setIfInBounds_toArray, List.set_cons_zero, List.set_cons_succ]
    refine wpT_step (by rw [hops, List.getElem?_toArray]; rfl) (by first | rfl | (rw [hops]; rfl)) ?_
    intro K hK
    go_wp2_with fail
    refine (own_any _ sl _ (OwnU.rdu (ownsRow_ext HSO.out (Ext.refl w6).drew)).rdc.weak (by have := HSL.out; have := HLX.out; omega)).mono ?_
    rintro e w7 ⟨v7, rfl, hown, hx7, hfr⟩
    obtain ⟨qa, qc, rfl, -⟩ := ownsRow_rd hown
    have RQ := hid hown.rdu
    have hx7' := HX6.out.drew.trans hx7
    have HX7 := hid hx7'
    have HX67 := hid ((Ext.refl w6).drew.trans hx7)
    have HS7 : _ ∧ Ext w2 w7 := ⟨B3.out _ hx7', hx7'⟩
    clear hown hx7 hx7' hfr HS
    refine hK _ _ ⟨fun _ => HS7, ?_⟩
    clear hK K
    refine wpT_step (by rw [hops, List.getElem?_toArray]; rfl) (by first | rfl | (rw [hops]; rfl)) ?_
    intro K hK
    go_wp2_with fail
    have COP := CO.out _ _ _ _ sl (AT6.out.ext HX67.out) RQ.out (by have := HSL.out; have := HLX.out; omega)
    unfold OpenC at COP
    rw [OK.out.yes] at COP
    refine COP.mono ?_
    rintro e w8 ⟨pv, rfl, hown, hx8, -⟩
    simp only at hown
    obtain ⟨pa, pc, rfl, -⟩ := ownsRow_rd hown
    have RP := hid hown.rdu
    have hx8' := HX7.out.trans hx8
    have HX8 := hid hx8'
    have HX68 := hid (HX67.out.trans hx8)
    have HS8 : _ ∧ Ext w2 w8 := ⟨B3.out _ hx8', hx8'⟩
    clear hown hx8 hx8' HS7 COP
    refine hK _ _ ⟨fun _ => HS8, ?_⟩
    clear hK K
    iterate 4
      refine wpT_take (v := ?_) (by rw [hops, List.getElem?_toArray]; rfl) (by first | rfl | (rw [hops]; rfl)) ?_ HS8 ?_
      rotate_left
      · intro v h; go_simp; with_reducible rfl
      simp only [Act.put, List.getElem_toArray, List.getElem_cons_zero, List.getElem_cons_succ, List.setIfInBounds_toArray, List.set_cons_zero, List.set_cons_succ]
    refine wpT_step (by rw [hops, List.getElem?_toArray]; rfl) (by first | rfl | (rw [hops]; rfl)) ?_
    intro K hK
    go_wp2_with fail
    refine ⟨fun h => absurd h (by decide), ?_⟩
    rw [wpT_nil]
    clear hops ops
    clear HS8
    obtain ⟨c1, c2, c3⟩ := B3.out _ HX8.out
    go_wp2_with fail
    refine (Same_any _ _ x.l x.l _ RP.out (RX.out.ext HX8.out) (by have := HLX.out; omega) (by have := HLX.out; omega)).mono ?_
    rintro e w9 ⟨rfl, hx9⟩
    rw [show (x.l == x.l) = true from by simp]
    have HX9 := hid (HX8.out.trans hx9)
    have HX69 := hid (HX68.out.trans hx9)
    clear hx9 c1 c2 c3
    obtain ⟨g, hsa⟩ : ∃ g, sa = some ⟨g, 0, none⟩ := by
      rcases HSO.out.2 with ⟨_, h0⟩ | ⟨g, cap, cur, h, _⟩
      · have := HSL.out; omega
      · injection h with h _ _; exact ⟨g, h⟩
    subst hsa
    obtain rfl := OK.out.eq
    have hnl : (pre ++ [t]).length = pre.length + 1 := by simp
    have hS9 := ownsRow_ext HSO.out HX69.out
    rw [hnl] at hS9 ⊢
    have HS9 : Hid (OwnU w9 (.slice (some ⟨g, 0, none⟩) (pre.length + 1) sc) (pre ++ [t])) := hid (by unfold OwnU; rw [hnl]; exact hS9)
    have hgF := HSF.out g (by rfl)
    have HGF : Hid (¬ F6 g ∧ w2.heap.size ≤ g) := hid ⟨hgF.2, Nat.le_trans HX5.out.size hgF.1⟩
    have htb : t < big := by
      have h := OK.out.all
      rw [allE_snoc'] at h
      simp only [Bool.and_eq_true, decide_eq_true_eq] at h
      exact h.2
    have CAD := hid (addOne_any t w9 htb)
    have hpl : pre.length ≤ 20 := by have := OK.out.len; have := HLX.out; omega
    have hbl : (pre.length : Int) < ((pre.length + 1 : Nat) : Int) := by omega
    have hpn : (0 : Int) ≤ (pre.length : Int) := Int.natCast_nonneg _
    have hwl : IntKind.i64.wrap (((pre.length + 1 : Nat) : Int) - 1) = (pre.length : Int) := by rw [IntWalk.i64_in _ (by omega)]; omega
    have hwl2 : IntKind.i64.wrap ((pre.length : Int) + 1 - 1) = (pre.length : Int) := by rw [IntWalk.i64_in _ (by omega)]; omega
    have hct : w9.cell? ⟨g, pre.length, none⟩ = some (uv t) := by
      obtain ⟨b', o', he, hc⟩ := (OwnU.rdu HS9.out : RdU w9 _ _).at' (i := pre.length) (x := t) (by simp)
      injection he with he
      injection he with he1 he2
      subst he1 he2
      rw [Nat.zero_add] at hc
      exact hc
    have hfz : w9.frozen? ⟨g, pre.length, none⟩ = false := by
      rcases HS9.out.2 with ⟨h, _⟩ | ⟨g', cap, cur, h, _, hg, _⟩
      · cases h
      · injection h with h _ _
        injection h with h
        injection h with h
        subst h
        exact frozen_of hg _
    have HPL := hid hpl
    clear hS9 hgF htb hnl
    go_wp2_with fail
    refine CAD.out.mono ?_
    rintro e w10 ⟨rfl, hw10⟩
    subst hw10
    have HXS := hid (HX9.out.setCell (p := ⟨g, pre.length, none⟩) HGF.out.2 (uv (addOne t)))
    obtain ⟨c1, c2, c3⟩ := B3.out _ HXS.out
    have ATS := hid ((AT6.out.ext HX69.out).kp ((Kp.refl (fun k => k = g) _).setCell (p := ⟨g, pre.length, none⟩) (.inl rfl) (uv (addOne t))) (fun i hi e => HGF.out.1 (e ▸ hi)))
    have RS := hid (OwnU.rdu (OwnU.put_last (y := addOne t) HS9.out))
    go_wp2_with fail
    have COP2 := CO.out _ _ _ _ (pre ++ [addOne t]) ATS.out RS.out (by simp; have := HPL.out; omega)
    unfold OpenC at COP2
    rw [OK.out.no] at COP2
    refine COP2.mono ?_
    rintro e w11 ⟨pv2, rfl, hown, hx11, -⟩
    obtain ⟨p1, p2, rfl, -⟩ := ownsRow_rd hown
    have HX11 := hid (HX2.out.trans (HXS.out.trans hx11))
    clear hown hx11 COP2
    go_wp2_with fail
    go_ret
    exact ⟨rfl, HX11.out⟩

end Go.Proofs.Ytdkilbnocmnekaa
