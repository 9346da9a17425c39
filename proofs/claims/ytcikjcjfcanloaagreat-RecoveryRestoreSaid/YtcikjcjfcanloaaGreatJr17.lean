/- Texts of this claim, joined: RecB, RecL, Undo1, Undo2. -/
import Derived.Test.YtcikjcjfcanloaaGreatJr12
import Derived.Test.YtcikjcjfcanloaaGreatJr15
import Derived.Test.YtcikjcjfcanloaaGreatJr16
set_option linter.unusedSimpArgs false
namespace Go.Proofs.YtcikjcjfcanloaaGreat
open Go.RowKit
attribute [local irreducible] perm fAdd fMul fPow fSub fNeg fRed hashU drawOf nextState
theorem six_cellsR {w : World} {b : Nat} {c0 c1 c2 c3 c4 c5 : Value} {T : TypeId} (h : w.heap[b]? = some (.cells #[c0, c1, c2, c3, c4, c5] T (0, 0))) :
    w.cell? ⟨b, 0, none⟩ = some c0 ∧ w.cell? ⟨b, 1, none⟩ = some c1 ∧ w.cell? ⟨b, 2, none⟩ = some c2 ∧ w.cell? ⟨b, 3, none⟩ = some c3 ∧ w.cell? ⟨b, 4, none⟩ = some c4 ∧ w.cell? ⟨b, 5, none⟩ = some c5 :=
  ⟨cell_of h 0, cell_of h 1, cell_of h 2, cell_of h 3, cell_of h 4, cell_of h 5⟩
theorem eq_at {α : Type} {a b : List α} (hl : a.length = b.length) (h : ∀ j, j < a.length → a[j]? = b[j]?) : a = b := by
  apply List.ext_getElem? 
  intro i
  by_cases hi : i < a.length
  · exact h i hi
  · rw [List.getElem?_eq_none (by omega), List.getElem?_eq_none (by omega)]
set_option maxRecDepth 100000 in
set_option maxHeartbeats 12800000 in
theorem eqOuts_any (av bv : Value) (a b : List OutT) (w : World) (ha : RdOs w av a) (hb : RdOs w bv b) (sa : ∀ x ∈ a, x.cipher.length ≤ 1000) (sb : ∀ x ∈ b, x.cipher.length ≤ 1000) (hA : a.length ≤ 1000) (hB : b.length ≤ 1000) :
    Calls Tryz.prog 170 #[av, bv, .func (.func 171) #[] #[]] w fun e w' => e = .returned (.bool (decide (a = b))) ∧ Ext w w' := by
  obtain ⟨aa, ac, rfl, -⟩ := ha.shape
  obtain ⟨ba, bc, rfl, -⟩ := hb.shape
  have HA := hid ha
  have HB := hid hb
  have SA := hid sa
  have SB := hid sb
  obtain ⟨R, hR⟩ : ∃ R, R = decide (a = b) := ⟨_, rfl⟩
  rw [← hR]
  have HR := hid hR
  have hA1 : (a.length : Int) ≤ 1000 := by omega
  clear ha hb sa sb hR
  go_enter Tryz.func170, Tryz.ntmps170
  by_cases hlen : a.length = b.length
  case neg =>
    have hlB : ((a.length : Int) != (b.length : Int)) = true := by simp; omega
    obtain rfl : R = false := by rw [HR.out, decide_eq_false_iff_not]; rintro rfl; exact hlen rfl
    clear hlen
    go_wp2_with fail
    go_ret
    exact ⟨rfl, Ext.refl w⟩
  have hlB : ((a.length : Int) != (b.length : Int)) = false := by simp [hlen]
  have HL := hid hlen
  clear hlen
  go_wp2_with fail
  go_loopw [17] (fun iv wr => ∃ i : Nat, i ≤ a.length ∧ iv = .int .i64 i ∧ Hid ((∀ j, j < i → a[j]? = b[j]?) ∧ Ext w wr)) (fun iv _ => a.length - (intOf iv).toNat)
  case atStart => exact ⟨0, by omega, rfl, hid ⟨fun j hj => by omega, Ext.refl w⟩⟩
  case round =>
    obtain ⟨i, hi, rfl, HI⟩ := hrel
    have hi0 : (0 : Int) ≤ (i : Int) := Int.natCast_nonneg _
    by_cases hlt : i < a.length
    · have hltB : decide ((i : Int) < (a.length : Int)) = true := decide_eq_true (by omega)
      have hil : (i : Int) < (a.length : Int) := by omega
      have hil2 : (i : Int) < (b.length : Int) := by have := HL.out; omega
      obtain ⟨x, hx⟩ : ∃ x, a[i]? = some x := ⟨_, List.getElem?_eq_getElem hlt⟩
      obtain ⟨y, hy⟩ : ∃ y, b[i]? = some y := ⟨_, List.getElem?_eq_getElem (by have := HL.out; omega)⟩
      have HXY := hid (And.intro hx hy)
      have SX := hid (SA.out x (List.mem_of_getElem? hx))
      have SY := hid (SB.out y (List.mem_of_getElem? hy))
      obtain ⟨q, o, ca, cc, rfl, f0, f1, f2, f3, hrx⟩ := (HA.out.ext HI.out.2).at hx
      have HRX := hid hrx
      clear hrx
      obtain ⟨q', o', da, dc, rfl, g0, g1, g2, g3, hry⟩ := (HB.out.ext HI.out.2).at hy
      have HRY := hid hry
      clear hry
      clear hx hy
      go_upto_region 6 with fail
      obtain ⟨Q, hQ⟩ : ∃ Q, Q = wr.heap.size := ⟨_, rfl⟩
      obtain ⟨u1, hu1⟩ : ∃ u1, u1 = wr.alloc (.cells #[uv x.commit, uv x.p.a, uv x.p.b, .slice ca x.cipher.length cc] 103) := ⟨_, rfl⟩
      rw [← hu1, ← hQ]
      have G1 : Hid (Ext wr u1) := hid (by rw [hu1]; exact (Ext.refl wr).alloc _)
      have hqb : u1.heap[Q]? = some (.cells #[uv x.commit, uv x.p.a, uv x.p.b, .slice ca x.cipher.length cc] 103 (0, 0)) := by rw [hu1, hQ]; exact heap_new _ _
      have HQB := hid hqb
      clear hu1 hQ hqb f0 f1 f2 f3
      replace g0 := G1.out.cell_some g0
      replace g1 := G1.out.cell_some g1
      replace g2 := G1.out.cell_some g2
      replace g3 := G1.out.cell_some g3
      go_upto_region 7 with fail
      obtain ⟨P, hP⟩ : ∃ P, P = u1.heap.size := ⟨_, rfl⟩
      obtain ⟨u2, hu2⟩ : ∃ u2, u2 = u1.alloc (.cells #[uv y.commit, uv y.p.a, uv y.p.b, .slice da y.cipher.length dc] 103) := ⟨_, rfl⟩
      rw [← hu2, ← hP]
      have G2 : Hid (Ext wr u2) := hid (by rw [hu2]; exact G1.out.alloc _)
      have hpb : u2.heap[P]? = some (.cells #[uv y.commit, uv y.p.a, uv y.p.b, .slice da y.cipher.length dc] 103 (0, 0)) := by rw [hu2, hP]; exact heap_new _ _
      have hqb : u2.heap[Q]? = some (.cells #[uv x.commit, uv x.p.a, uv x.p.b, .slice ca x.cipher.length cc] 103 (0, 0)) := by rw [hu2]; exact heap_alloc_some HQB.out
      clear hu2 hP g0 g1 g2 g3
      obtain ⟨a0, a1, a2, a3⟩ := four_cells hqb
      obtain ⟨b0, b1, b2, b3⟩ := four_cells hpb
      clear hqb hpb
      have SO := hid (sameOut_any x y (.slice ca x.cipher.length cc) (.slice da y.cipher.length dc) u2 (HRX.out.ext G2.out) (HRY.out.ext G2.out) SX.out SY.out)
      obtain ⟨E, hE⟩ : ∃ E, E = decide (x = y) := ⟨_, rfl⟩
      rw [← hE] at SO
      have HE := hid hE
      clear hE
      go_wp2_with fail
      refine SO.out.mono ?_
      rintro e w3 ⟨rfl, hx⟩
      have X3 := hid (HI.out.2.trans (G2.out.trans hx))
      clear hx SO a0 b0 a1 b1 a2 b2 a3 b3
      cases E with
      | true =>
        have HN := hid (And.intro (fun j (hj : j < i + 1) => show a[j]? = b[j]? from by
          by_cases hji : j = i
          · subst hji
            rw [HXY.out.1, HXY.out.2, of_decide_eq_true HE.out.symm]
          · exact HI.out.1 j (by omega)) X3.out)
        go_wp2_with fail
        go_roundw
        case rel => exact ⟨i + 1, by omega, by go_num, HN⟩
        case measure => simp [intOf]; omega
      | false =>
        obtain rfl : R = false := by
          rw [HR.out, decide_eq_false_iff_not]
          rintro rfl
          have h1 := HXY.out.1
          rw [HXY.out.2] at h1
          have h2 := Option.some.inj h1
          exact of_decide_eq_false HE.out.symm h2.symm
        go_wp2_with fail
        go_ret
        exact ⟨rfl, X3.out⟩
    · have hltB : decide ((i : Int) < (a.length : Int)) = false := decide_eq_false (by omega)
      obtain rfl : i = a.length := by omega
      obtain rfl : R = true := by rw [HR.out]; exact decide_eq_true (eq_at HL.out HI.out.1)
      go_wp2_with fail
      go_ret
      exact ⟨rfl, HI.out.2⟩
set_option maxRecDepth 100000 in
set_option maxHeartbeats 25600000 in
theorem sameTxP_any (x y : TxT) (xm xo xp ym yo yp : Value) (w : World) (hx : RdT w x xm xo xp) (hy : RdT w y ym yo yp) (sx : TSm x) (sy : TSm y) :
    Calls Tryz.prog 146 #[txVal x xm xo xp, txVal y ym yo yp] w fun e w' => e = .returned (.bool (decide (x = y))) ∧ Ext w w' := by
  obtain ⟨cma, cmc, coa, coc, cpa, cpc, rfl, rfl, rfl⟩ := hx.shape
  obtain ⟨dma, dmc, doa, doc, dpa, dpc, rfl, rfl, rfl⟩ := hy.shape
  have HRX := hid hx
  have HRY := hid hy
  have SX := hid sx
  have SY := hid sy
  clear hx hy sx sy
  obtain ⟨x0, x1, x2, x3, x4, x5, x6, x7, x8, x9⟩ := x
  obtain ⟨y0, y1, y2, y3, y4, y5, y6, y7, y8, y9⟩ := y
  unfold txVal
  simp only
  obtain ⟨R, hR⟩ : ∃ R, R = decide ((⟨x0, x1, x2, x3, x4, x5, x6, x7, x8, x9⟩ : TxT) = ⟨y0, y1, y2, y3, y4, y5, y6, y7, y8, y9⟩) := ⟨_, rfl⟩
  rw [← hR]
  have HR : Hid (R = decide (x0 = y0 ∧ x1 = y1 ∧ x2 = y2 ∧ x3 = y3 ∧ x4 = y4 ∧ x5 = y5 ∧ x6 = y6 ∧ x7 = y7 ∧ x8 = y8 ∧ x9 = y9)) := hid (by rw [hR]; simp)
  obtain ⟨N, hN⟩ : ∃ N, N = w.heap.size := ⟨_, rfl⟩
  obtain ⟨w0, hw0⟩ : ∃ w0, w0 = (w.alloc (.cells #[uv x0, .slice cma x1.length cmc, .slice coa x2.length coc, uv x3, uv x4, uv x5, uv x6, uv x7, .int .i64 x8, .slice cpa x9.length cpc] 101)).alloc (.cells #[uv y0, .slice dma y1.length dmc, .slice doa y2.length doc, uv y3, uv y4, uv y5, uv y6, uv y7, .int .i64 y8, .slice dpa y9.length dpc] 101) := ⟨_, rfl⟩
  have hx0 : Ext w w0 := by rw [hw0]; exact ((Ext.refl w).alloc _).alloc _
  have hb0 : w0.heap[N]? = some (.cells #[uv x0, .slice cma x1.length cmc, .slice coa x2.length coc, uv x3, uv x4, uv x5, uv x6, uv x7, .int .i64 x8, .slice cpa x9.length cpc] 101 (0, 0)) := by rw [hw0, hN]; exact heap_alloc_some (heap_new _ _)
  have hb1 : w0.heap[N + 1]? = some (.cells #[uv y0, .slice dma y1.length dmc, .slice doa y2.length doc, uv y3, uv y4, uv y5, uv y6, uv y7, .int .i64 y8, .slice dpa y9.length dpc] 101 (0, 0)) := by
    rw [hw0, hN]
    have := heap_new (w.alloc (.cells #[uv x0, .slice cma x1.length cmc, .slice coa x2.length coc, uv x3, uv x4, uv x5, uv x6, uv x7, .int .i64 x8, .slice cpa x9.length cpc] 101)) (.cells #[uv y0, .slice dma y1.length dmc, .slice doa y2.length doc, uv y3, uv y4, uv y5, uv y6, uv y7, .int .i64 y8, .slice dpa y9.length dpc] 101)
    simpa using this
  have HX0 := hid hx0
  have HW := hid hw0
  have HB0 := hid hb0
  have HB1 := hid hb1
  obtain ⟨a0, a1, a2, a3, a4, a5, a6, a7, a8, a9⟩ := ten_cells hb0
  obtain ⟨b0, b1, b2, b3, b4, b5, b6, b7, b8, b9⟩ := ten_cells hb1
  clear hw0 hx0 hb0 hb1 hR 
  go_enter Tryz.func146, Tryz.ntmps146
  go_upto_region 1 with fail
  rw [← HW.out, ← hN]
  clear hN HW
  by_cases e0 : x0 = y0
  case neg =>
    obtain rfl : R = false := by rw [HR.out, decide_eq_false_iff_not]; exact fun h => e0 h.1
    obtain ⟨n1, n2⟩ := uv_ne e0
    clear e0
    go_wp2_with fail
    go_ret
    exact ⟨rfl, HX0.out⟩
  subst e0
  obtain ⟨E1, hE1⟩ : ∃ E, E = decide (x1 = y1) := ⟨_, rfl⟩
  have C1 : Hid (∀ u, Ext w u → Calls Tryz.prog 169 #[.slice cma x1.length cmc, .slice dma y1.length dmc] u fun e w' => e = .returned (.bool E1) ∧ Ext u w') := hid fun u k => by rw [hE1]; exact (by have := EqualW_any _ _ x1 y1 u (HRX.out.m.ext k) (HRY.out.m.ext k) (by have := SX.out.m; simp only at this; omega) (by have := SY.out.m; simp only at this; omega); rwa [show (x1 == y1) = decide (x1 = y1) by by_cases h : x1 = y1 <;> simp [h]] at this)
  have HE1 := hid hE1
  clear hE1
  go_wp2_with fail
  refine (C1.out _ HX0.out).mono ?_
  rintro e v1 ⟨rfl, hx⟩
  have Y1 := hid (HX0.out.trans hx)
  have XW1 := hid (show Ext w0 v1 from hx)
  clear hx C1 a0 b0 a1 b1 a2 b2 a3 b3 a4 b4 a5 b5 a6 b6 a7 b7 a8 b8 a9 b9
  obtain ⟨a0, a1, a2, a3, a4, a5, a6, a7, a8, a9⟩ := ten_cells (XW1.out.heap_some HB0.out)
  obtain ⟨b0, b1, b2, b3, b4, b5, b6, b7, b8, b9⟩ := ten_cells (XW1.out.heap_some HB1.out)
  cases E1 with
  | false =>
    obtain rfl : R = false := by rw [HR.out, decide_eq_false_iff_not]; exact fun h => of_decide_eq_false HE1.out.symm h.2.1
    go_wp2_with fail
    go_ret
    exact ⟨rfl, Y1.out⟩
  | true =>
  have e1 := of_decide_eq_true HE1.out.symm
  have Q1 := hid e1
  clear e1
  obtain ⟨E2, hE2⟩ : ∃ E, E = decide (x2 = y2) := ⟨_, rfl⟩
  have C2 : Hid (∀ u, Ext w u → Calls Tryz.prog 170 #[.slice coa x2.length coc, .slice doa y2.length doc, .func (.func 171) #[] #[]] u fun e w' => e = .returned (.bool E2) ∧ Ext u w') := hid fun u k => by rw [hE2]; exact eqOuts_any _ _ x2 y2 u (HRX.out.o.ext k) (HRY.out.o.ext k) SX.out.c SY.out.c SX.out.o SY.out.o
  have HE2 := hid hE2
  clear hE2
  go_wp2_with fail
  refine (C2.out _ Y1.out).mono ?_
  rintro e v2 ⟨rfl, hx⟩
  have Y2 := hid (Y1.out.trans hx)
  have XW2 := hid (show Ext w0 v2 from XW1.out.trans hx)
  clear hx C2 a0 b0 a1 b1 a2 b2 a3 b3 a4 b4 a5 b5 a6 b6 a7 b7 a8 b8 a9 b9
  obtain ⟨a0, a1, a2, a3, a4, a5, a6, a7, a8, a9⟩ := ten_cells (XW2.out.heap_some HB0.out)
  obtain ⟨b0, b1, b2, b3, b4, b5, b6, b7, b8, b9⟩ := ten_cells (XW2.out.heap_some HB1.out)
  cases E2 with
  | false =>
    obtain rfl : R = false := by rw [HR.out, decide_eq_false_iff_not]; exact fun h => of_decide_eq_false HE2.out.symm h.2.2.1
    go_wp2_with fail
    go_ret
    exact ⟨rfl, Y2.out⟩
  | true =>
  have e2 := of_decide_eq_true HE2.out.symm
  have Q2 := hid e2
  clear e2
  by_cases e3 : x3 = y3
  case neg =>
    obtain rfl : R = false := by rw [HR.out, decide_eq_false_iff_not]; exact fun h => e3 h.2.2.2.1
    obtain ⟨n1, n2⟩ := uv_ne e3
    clear e3
    go_wp2_with fail
    go_ret
    exact ⟨rfl, Y2.out⟩
  subst e3
  by_cases e4 : x4 = y4
  case neg =>
    obtain rfl : R = false := by rw [HR.out, decide_eq_false_iff_not]; exact fun h => e4 h.2.2.2.2.1
    obtain ⟨n1, n2⟩ := uv_ne e4
    clear e4
    go_wp2_with fail
    go_ret
    exact ⟨rfl, Y2.out⟩
  subst e4
  by_cases e5 : x5 = y5
  case neg =>
    obtain rfl : R = false := by rw [HR.out, decide_eq_false_iff_not]; exact fun h => e5 h.2.2.2.2.2.1
    obtain ⟨n1, n2⟩ := uv_ne e5
    clear e5
    go_wp2_with fail
    go_ret
    exact ⟨rfl, Y2.out⟩
  subst e5
  by_cases e6 : x6 = y6
  case neg =>
    obtain rfl : R = false := by rw [HR.out, decide_eq_false_iff_not]; exact fun h => e6 h.2.2.2.2.2.2.1
    obtain ⟨n1, n2⟩ := uv_ne e6
    clear e6
    go_wp2_with fail
    go_ret
    exact ⟨rfl, Y2.out⟩
  subst e6
  by_cases e7 : x7 = y7
  case neg =>
    obtain rfl : R = false := by rw [HR.out, decide_eq_false_iff_not]; exact fun h => e7 h.2.2.2.2.2.2.2.1
    obtain ⟨n1, n2⟩ := uv_ne e7
    clear e7
    go_wp2_with fail
    go_ret
    exact ⟨rfl, Y2.out⟩
  subst e7
  by_cases e8 : x8 = y8
  case neg =>
    obtain rfl : R = false := by rw [HR.out, decide_eq_false_iff_not]; exact fun h => e8 h.2.2.2.2.2.2.2.2.1
    have n1 : decide (x8 = y8) = false := decide_eq_false e8
    have n2 : (x8 == y8) = false := by rw [beq_eq_false_iff_ne]; exact e8
    clear e8
    go_wp2_with fail
    go_ret
    exact ⟨rfl, Y2.out⟩
  subst e8
  obtain ⟨E9, hE9⟩ : ∃ E, E = decide (x9 = y9) := ⟨_, rfl⟩
  have C9 : Hid (∀ u, Ext w u → Calls Tryz.prog 95 #[.slice cpa x9.length cpc, .slice dpa y9.length dpc] u fun e w' => e = .returned (.bool E9) ∧ Ext u w') := hid fun u k => by rw [hE9]; exact bEqual_any _ _ x9 y9 u (HRX.out.p.ext k) (HRY.out.p.ext k)
  have HE9 := hid hE9
  clear hE9
  go_wp2_with fail
  refine (C9.out _ Y2.out).mono ?_
  rintro e v9 ⟨rfl, hx⟩
  have Y9 := hid (Y2.out.trans hx)
  have XW9 := hid (show Ext w0 v9 from XW2.out.trans hx)
  clear hx C9 a0 b0 a1 b1 a2 b2 a3 b3 a4 b4 a5 b5 a6 b6 a7 b7 a8 b8 a9 b9
  obtain ⟨a0, a1, a2, a3, a4, a5, a6, a7, a8, a9⟩ := ten_cells (XW9.out.heap_some HB0.out)
  obtain ⟨b0, b1, b2, b3, b4, b5, b6, b7, b8, b9⟩ := ten_cells (XW9.out.heap_some HB1.out)
  cases E9 with
  | false =>
    obtain rfl : R = false := by rw [HR.out, decide_eq_false_iff_not]; exact fun h => of_decide_eq_false HE9.out.symm h.2.2.2.2.2.2.2.2.2
    go_wp2_with fail
    go_ret
    exact ⟨rfl, Y9.out⟩
  | true =>
  have e9 := of_decide_eq_true HE9.out.symm
  have Q9 := hid e9
  clear e9
  obtain rfl : R = true := by
    rw [HR.out, decide_eq_true_eq]
    exact ⟨(by trivial), Q1.out, Q2.out, (by trivial), (by trivial), (by trivial), (by trivial), (by trivial), (by trivial), Q9.out⟩
  go_wp2_with fail
  go_ret
  exact ⟨rfl, Y9.out⟩
set_option maxRecDepth 100000 in
set_option maxHeartbeats 12800000 in
theorem eqTxs_any (av bv : Value) (a b : List TxT) (w : World) (ha : RdTs w av a) (hb : RdTs w bv b) (sa : ∀ x ∈ a, TSm x) (sb : ∀ x ∈ b, TSm x) (hA : a.length ≤ 1000) (hB : b.length ≤ 1000) :
    Calls Tryz.prog 145 #[av, bv, .func (.func 146) #[] #[]] w fun e w' => e = .returned (.bool (decide (a = b))) ∧ Ext w w' := by
  obtain ⟨aa, ac, rfl, -⟩ := ha.shape
  obtain ⟨ba, bc, rfl, -⟩ := hb.shape
  have HA := hid ha
  have HB := hid hb
  have SA := hid sa
  have SB := hid sb
  obtain ⟨R, hR⟩ : ∃ R, R = decide (a = b) := ⟨_, rfl⟩
  rw [← hR]
  have HR := hid hR
  have hA1 : (a.length : Int) ≤ 1000 := by omega
  clear ha hb sa sb hR
  go_enter Tryz.func145, Tryz.ntmps145
  by_cases hlen : a.length = b.length
  case neg =>
    have hlB : ((a.length : Int) != (b.length : Int)) = true := by simp; omega
    obtain rfl : R = false := by rw [HR.out, decide_eq_false_iff_not]; rintro rfl; exact hlen rfl
    clear hlen
    go_wp2_with fail
    go_ret
    exact ⟨rfl, Ext.refl w⟩
  have hlB : ((a.length : Int) != (b.length : Int)) = false := by simp [hlen]
  have HL := hid hlen
  clear hlen
  go_wp2_with fail
  go_loopw [17] (fun iv wr => ∃ i : Nat, i ≤ a.length ∧ iv = .int .i64 i ∧ Hid ((∀ j, j < i → a[j]? = b[j]?) ∧ Ext w wr)) (fun iv _ => a.length - (intOf iv).toNat)
  case atStart => exact ⟨0, by omega, rfl, hid ⟨fun j hj => by omega, Ext.refl w⟩⟩
  case round =>
    obtain ⟨i, hi, rfl, HI⟩ := hrel
    have hi0 : (0 : Int) ≤ (i : Int) := Int.natCast_nonneg _
    by_cases hlt : i < a.length
    · have hltB : decide ((i : Int) < (a.length : Int)) = true := decide_eq_true (by omega)
      have hil : (i : Int) < (a.length : Int) := by omega
      have hil2 : (i : Int) < (b.length : Int) := by have := HL.out; omega
      obtain ⟨x, hx⟩ : ∃ x, a[i]? = some x := ⟨_, List.getElem?_eq_getElem hlt⟩
      obtain ⟨y, hy⟩ : ∃ y, b[i]? = some y := ⟨_, List.getElem?_eq_getElem (by have := HL.out; omega)⟩
      have HXY := hid (And.intro hx hy)
      have SX := hid (SA.out x (List.mem_of_getElem? hx))
      have SY := hid (SB.out y (List.mem_of_getElem? hy))
      obtain ⟨q, o, cma, cmc, coa, coc, cpa, cpc, rfl, hrx, f0, f1, f2, f3, f4, f5, f6, f7, f8, f9⟩ := (HA.out.ext HI.out.2).at hx
      have HRX := hid hrx
      clear hrx
      obtain ⟨q', o', dma, dmc, doa, doc, dpa, dpc, rfl, hry, g0, g1, g2, g3, g4, g5, g6, g7, g8, g9⟩ := (HB.out.ext HI.out.2).at hy
      have HRY := hid hry
      clear hry
      clear hx hy
      go_upto_region 6 with fail
      obtain ⟨Q, hQ⟩ : ∃ Q, Q = wr.heap.size := ⟨_, rfl⟩
      obtain ⟨u1, hu1⟩ : ∃ u1, u1 = wr.alloc (.cells #[uv x.anchor, .slice cma x.marks.length cmc, .slice coa x.outs.length coc, uv x.deposit, uv x.withdraw, uv x.fee, uv x.account, uv x.nonce, .int .i64 x.expiry, .slice cpa x.proof.length cpc] 101) := ⟨_, rfl⟩
      rw [← hu1, ← hQ]
      have G1 : Hid (Ext wr u1) := hid (by rw [hu1]; exact (Ext.refl wr).alloc _)
      have hqb : u1.heap[Q]? = some (.cells #[uv x.anchor, .slice cma x.marks.length cmc, .slice coa x.outs.length coc, uv x.deposit, uv x.withdraw, uv x.fee, uv x.account, uv x.nonce, .int .i64 x.expiry, .slice cpa x.proof.length cpc] 101 (0, 0)) := by rw [hu1, hQ]; exact heap_new _ _
      have HQB := hid hqb
      clear hu1 hQ hqb f0 f1 f2 f3 f4 f5 f6 f7 f8 f9
      replace g0 := G1.out.cell_some g0
      replace g1 := G1.out.cell_some g1
      replace g2 := G1.out.cell_some g2
      replace g3 := G1.out.cell_some g3
      replace g4 := G1.out.cell_some g4
      replace g5 := G1.out.cell_some g5
      replace g6 := G1.out.cell_some g6
      replace g7 := G1.out.cell_some g7
      replace g8 := G1.out.cell_some g8
      replace g9 := G1.out.cell_some g9
      go_upto_region 7 with fail
      obtain ⟨P, hP⟩ : ∃ P, P = u1.heap.size := ⟨_, rfl⟩
      obtain ⟨u2, hu2⟩ : ∃ u2, u2 = u1.alloc (.cells #[uv y.anchor, .slice dma y.marks.length dmc, .slice doa y.outs.length doc, uv y.deposit, uv y.withdraw, uv y.fee, uv y.account, uv y.nonce, .int .i64 y.expiry, .slice dpa y.proof.length dpc] 101) := ⟨_, rfl⟩
      rw [← hu2, ← hP]
      have G2 : Hid (Ext wr u2) := hid (by rw [hu2]; exact G1.out.alloc _)
      have hpb : u2.heap[P]? = some (.cells #[uv y.anchor, .slice dma y.marks.length dmc, .slice doa y.outs.length doc, uv y.deposit, uv y.withdraw, uv y.fee, uv y.account, uv y.nonce, .int .i64 y.expiry, .slice dpa y.proof.length dpc] 101 (0, 0)) := by rw [hu2, hP]; exact heap_new _ _
      have hqb : u2.heap[Q]? = some (.cells #[uv x.anchor, .slice cma x.marks.length cmc, .slice coa x.outs.length coc, uv x.deposit, uv x.withdraw, uv x.fee, uv x.account, uv x.nonce, .int .i64 x.expiry, .slice cpa x.proof.length cpc] 101 (0, 0)) := by rw [hu2]; exact heap_alloc_some HQB.out
      clear hu2 hP g0 g1 g2 g3 g4 g5 g6 g7 g8 g9
      obtain ⟨a0, a1, a2, a3, a4, a5, a6, a7, a8, a9⟩ := ten_cells hqb
      obtain ⟨b0, b1, b2, b3, b4, b5, b6, b7, b8, b9⟩ := ten_cells hpb
      clear hqb hpb
      have SO := hid (sameTxP_any x y _ _ _ _ _ _ u2 (HRX.out.ext G2.out) (HRY.out.ext G2.out) SX.out SY.out)
      obtain ⟨E, hE⟩ : ∃ E, E = decide (x = y) := ⟨_, rfl⟩
      rw [← hE] at SO
      have HE := hid hE
      clear hE
      go_wp2_with fail
      refine SO.out.mono ?_
      rintro e w3 ⟨rfl, hx⟩
      have X3 := hid (HI.out.2.trans (G2.out.trans hx))
      clear hx SO a0 b0 a1 b1 a2 b2 a3 b3 a4 b4 a5 b5 a6 b6 a7 b7 a8 b8 a9 b9
      cases E with
      | true =>
        have HN := hid (And.intro (fun j (hj : j < i + 1) => show a[j]? = b[j]? from by
          by_cases hji : j = i
          · subst hji
            rw [HXY.out.1, HXY.out.2, of_decide_eq_true HE.out.symm]
          · exact HI.out.1 j (by omega)) X3.out)
        go_wp2_with fail
        go_roundw
        case rel => exact ⟨i + 1, by omega, by go_num, HN⟩
        case measure => simp [intOf]; omega
      | false =>
        obtain rfl : R = false := by
          rw [HR.out, decide_eq_false_iff_not]
          rintro rfl
          have h1 := HXY.out.1
          rw [HXY.out.2] at h1
          have h2 := Option.some.inj h1
          exact of_decide_eq_false HE.out.symm h2.symm
        go_wp2_with fail
        go_ret
        exact ⟨rfl, X3.out⟩
    · have hltB : decide ((i : Int) < (a.length : Int)) = false := decide_eq_false (by omega)
      obtain rfl : i = a.length := by omega
      obtain rfl : R = true := by rw [HR.out]; exact decide_eq_true (eq_at HL.out HI.out.1)
      go_wp2_with fail
      go_ret
      exact ⟨rfl, HI.out.2⟩
set_option maxRecDepth 100000 in
set_option maxHeartbeats 25600000 in
theorem sameBlkP_any (x y : BlkT) (xv yv : Value) (w : World) (hx : RdTs w xv x.txs) (hy : RdTs w yv y.txs) (sx : BSm x) (sy : BSm y) :
    Calls Tryz.prog 122 #[blkVal x xv, blkVal y yv] w fun e w' => e = .returned (.bool (decide (x = y))) ∧ Ext w w' := by
  obtain ⟨cta, ctc, rfl, -⟩ := hx.shape
  obtain ⟨dta, dtc, rfl, -⟩ := hy.shape
  have HRX := hid hx
  have HRY := hid hy
  have SX := hid sx
  have SY := hid sy
  clear hx hy sx sy
  obtain ⟨x0, x1, x2, x3, x4, x5⟩ := x
  obtain ⟨y0, y1, y2, y3, y4, y5⟩ := y
  unfold blkVal
  simp only at HRX HRY ⊢
  obtain ⟨R, hR⟩ : ∃ R, R = decide ((⟨x0, x1, x2, x3, x4, x5⟩ : BlkT) = ⟨y0, y1, y2, y3, y4, y5⟩) := ⟨_, rfl⟩
  rw [← hR]
  have HR : Hid (R = decide (x0 = y0 ∧ x1 = y1 ∧ x2 = y2 ∧ x3 = y3 ∧ x4 = y4 ∧ x5 = y5)) := hid (by rw [hR]; simp)
  obtain ⟨N, hN⟩ : ∃ N, N = w.heap.size := ⟨_, rfl⟩
  obtain ⟨w0, hw0⟩ : ∃ w0, w0 = (w.alloc (.cells #[uv x0, .int .i64 x1, uv x2, uv x3, uv x4, .slice cta x5.length ctc] 75)).alloc (.cells #[uv y0, .int .i64 y1, uv y2, uv y3, uv y4, .slice dta y5.length dtc] 75) := ⟨_, rfl⟩
  have hx0 : Ext w w0 := by rw [hw0]; exact ((Ext.refl w).alloc _).alloc _
  have hb0 : w0.heap[N]? = some (.cells #[uv x0, .int .i64 x1, uv x2, uv x3, uv x4, .slice cta x5.length ctc] 75 (0, 0)) := by rw [hw0, hN]; exact heap_alloc_some (heap_new _ _)
  have hb1 : w0.heap[N + 1]? = some (.cells #[uv y0, .int .i64 y1, uv y2, uv y3, uv y4, .slice dta y5.length dtc] 75 (0, 0)) := by
    rw [hw0, hN]
    have := heap_new (w.alloc (.cells #[uv x0, .int .i64 x1, uv x2, uv x3, uv x4, .slice cta x5.length ctc] 75)) (.cells #[uv y0, .int .i64 y1, uv y2, uv y3, uv y4, .slice dta y5.length dtc] 75)
    simpa using this
  have HX0 := hid hx0
  have HW := hid hw0
  have HB0 := hid hb0
  have HB1 := hid hb1
  obtain ⟨a0, a1, a2, a3, a4, a5⟩ := six_cellsR hb0
  obtain ⟨b0, b1, b2, b3, b4, b5⟩ := six_cellsR hb1
  clear hw0 hx0 hb0 hb1 hR 
  go_enter Tryz.func122, Tryz.ntmps122
  go_upto_region 1 with fail
  rw [← HW.out, ← hN]
  clear hN HW
  by_cases e0 : x0 = y0
  case neg =>
    obtain rfl : R = false := by rw [HR.out, decide_eq_false_iff_not]; exact fun h => e0 h.1
    obtain ⟨n1, n2⟩ := uv_ne e0
    clear e0
    go_wp2_with fail
    go_ret
    exact ⟨rfl, HX0.out⟩
  subst e0
  by_cases e1 : x1 = y1
  case neg =>
    obtain rfl : R = false := by rw [HR.out, decide_eq_false_iff_not]; exact fun h => e1 h.2.1
    have n1 : decide (x1 = y1) = false := decide_eq_false e1
    have n2 : (x1 == y1) = false := by rw [beq_eq_false_iff_ne]; exact e1
    clear e1
    go_wp2_with fail
    go_ret
    exact ⟨rfl, HX0.out⟩
  subst e1
  by_cases e2 : x2 = y2
  case neg =>
    obtain rfl : R = false := by rw [HR.out, decide_eq_false_iff_not]; exact fun h => e2 h.2.2.1
    obtain ⟨n1, n2⟩ := uv_ne e2
    clear e2
    go_wp2_with fail
    go_ret
    exact ⟨rfl, HX0.out⟩
  subst e2
  by_cases e3 : x3 = y3
  case neg =>
    obtain rfl : R = false := by rw [HR.out, decide_eq_false_iff_not]; exact fun h => e3 h.2.2.2.1
    obtain ⟨n1, n2⟩ := uv_ne e3
    clear e3
    go_wp2_with fail
    go_ret
    exact ⟨rfl, HX0.out⟩
  subst e3
  by_cases e4 : x4 = y4
  case neg =>
    obtain rfl : R = false := by rw [HR.out, decide_eq_false_iff_not]; exact fun h => e4 h.2.2.2.2.1
    obtain ⟨n1, n2⟩ := uv_ne e4
    clear e4
    go_wp2_with fail
    go_ret
    exact ⟨rfl, HX0.out⟩
  subst e4
  obtain ⟨E5, hE5⟩ : ∃ E, E = decide (x5 = y5) := ⟨_, rfl⟩
  have C5 : Hid (∀ u, Ext w u → Calls Tryz.prog 145 #[.slice cta x5.length ctc, .slice dta y5.length dtc, .func (.func 146) #[] #[]] u fun e w' => e = .returned (.bool E5) ∧ Ext u w') := hid fun u k => by rw [hE5]; exact eqTxs_any _ _ x5 y5 u (HRX.out.ext k) (HRY.out.ext k) SX.out.t SY.out.t (by have := SX.out.n; simp only at this; omega) (by have := SY.out.n; simp only at this; omega)
  have HE5 := hid hE5
  clear hE5
  go_wp2_with fail
  refine (C5.out _ HX0.out).mono ?_
  rintro e v5 ⟨rfl, hx⟩
  have Y5 := hid (HX0.out.trans hx)
  have XW5 := hid (show Ext w0 v5 from hx)
  clear hx C5 a0 b0 a1 b1 a2 b2 a3 b3 a4 b4 a5 b5
  obtain ⟨a0, a1, a2, a3, a4, a5⟩ := six_cellsR (XW5.out.heap_some HB0.out)
  obtain ⟨b0, b1, b2, b3, b4, b5⟩ := six_cellsR (XW5.out.heap_some HB1.out)
  cases E5 with
  | false =>
    obtain rfl : R = false := by rw [HR.out, decide_eq_false_iff_not]; exact fun h => of_decide_eq_false HE5.out.symm h.2.2.2.2.2
    go_wp2_with fail
    go_ret
    exact ⟨rfl, Y5.out⟩
  | true =>
  have e5 := of_decide_eq_true HE5.out.symm
  have Q5 := hid e5
  clear e5
  obtain rfl : R = true := by
    rw [HR.out, decide_eq_true_eq]
    exact ⟨(by trivial), (by trivial), (by trivial), (by trivial), (by trivial), Q5.out⟩
  go_wp2_with fail
  go_ret
  exact ⟨rfl, Y5.out⟩
end Go.Proofs.YtcikjcjfcanloaaGreat
namespace Go.Proofs.YtcikjcjfcanloaaGreat
open Go.RowKit
def commonW : List BlkT → List BlkT → Nat
  | x :: r, y :: s => if x = y then commonW r s + 1 else 0
  | _, _ => 0
theorem commonW_stop : ∀ (a b : List BlkT) (i : Nat), i ≤ a.length → i ≤ b.length → (∀ j, j < i → a[j]? = b[j]?) → (i < a.length → i < b.length → a[i]? ≠ b[i]?) → commonW a b = i
  | [], b, i, ha, _, _, _ => by
    have : i = 0 := by simpa using ha
    subst this
    cases b <;> rfl
  | x :: r, [], i, _, hb, _, _ => by
    have : i = 0 := by simpa using hb
    subst this
    rfl
  | x :: r, y :: s, 0, _, _, _, h4 => by
    have h := h4 (by simp) (by simp)
    simp only [List.getElem?_cons_zero, ne_eq, Option.some.injEq] at h
    show (if x = y then _ else _) = _
    rw [if_neg h]
  | x :: r, y :: s, i + 1, ha, hb, h3, h4 => by
    have h0 := h3 0 (by omega)
    simp only [List.getElem?_cons_zero, Option.some.injEq] at h0
    show (if x = y then _ else _) = _
    rw [if_pos h0, commonW_stop r s i (by simpa using ha) (by simpa using hb) (fun j hj => by
      have := h3 (j + 1) (by omega)
      simpa using this) (fun h5 h6 => by
      have := h4 (by simpa using h5) (by simpa using h6)
      simpa using this)]
theorem commonW_le : ∀ (a b : List BlkT), commonW a b ≤ a.length ∧ commonW a b ≤ b.length
  | [], b => by cases b <;> exact ⟨Nat.zero_le _, Nat.zero_le _⟩
  | x :: r, [] => ⟨Nat.zero_le _, Nat.zero_le _⟩
  | x :: r, y :: s => by
    show (if x = y then _ else _) ≤ _ ∧ (if x = y then _ else _) ≤ _
    have := commonW_le r s
    split
    · simp only [List.length_cons]; omega
    · simp only [List.length_cons]; omega
theorem commonW_take : ∀ (a b : List BlkT), a.take (commonW a b) = b.take (commonW a b)
  | [], b => by cases b <;> rfl
  | x :: r, [] => rfl
  | x :: r, y :: s => by
    have h := commonW_take r s
    by_cases e : x = y
    · have : commonW (x :: r) (y :: s) = commonW r s + 1 := by show (if x = y then _ else _) = _; rw [if_pos e]
      rw [this, List.take_succ_cons, List.take_succ_cons, h, e]
    · have : commonW (x :: r) (y :: s) = 0 := by show (if x = y then _ else _) = _; rw [if_neg e]
      rw [this]; rfl
theorem commonW_comm : ∀ (a b : List BlkT), commonW a b = commonW b a
  | [], b => by cases b <;> rfl
  | x :: r, [] => rfl
  | x :: r, y :: s => by
    show (if x = y then _ else _) = (if y = x then _ else _)
    rw [commonW_comm r s]
    by_cases e : x = y
    · rw [if_pos e, if_pos e.symm]
    · rw [if_neg e, if_neg (fun h => e h.symm)]
theorem commonW_self : ∀ (a : List BlkT), commonW a a = a.length
  | [] => rfl
  | x :: r => by
    show (if x = x then _ else _) = _
    rw [if_pos rfl, commonW_self r]
    rfl
def errTo (d : Nat) (l : List BlkT) : Nat → Int
  | 0 => 0
  | i + 1 => if errTo d l i = 0 then (match l[i]? with | some b => checkW d (l.take i) b | none => 0) else errTo d l i
def errW (d : Nat) (l : List BlkT) : Int := errTo d l l.length
theorem errTo_zero {d : Nat} {l : List BlkT} : ∀ {i : Nat}, errTo d l i = 0 → ∀ j b, j < i → l[j]? = some b → checkW d (l.take j) b = 0
  | 0, _, j, b, hj, _ => by omega
  | i + 1, h, j, b, hj, hb => by
    unfold errTo at h
    split at h
    · next h0 =>
      by_cases hji : j = i
      · subst hji
        rw [hb] at h
        exact h
      · exact errTo_zero h0 j b (by omega) hb
    · next h0 => exact absurd h h0
theorem errTo_ok {d : Nat} {l : List BlkT} : ∀ (i : Nat), (∀ j b, j < i → l[j]? = some b → checkW d (l.take j) b = 0) → errTo d l i = 0
  | 0, _ => rfl
  | i + 1, h => by
    unfold errTo
    rw [if_pos (errTo_ok i fun j b hj hb => h j b (by omega) hb)]
    cases hb : l[i]? with
    | none => rfl
    | some b => exact h i b (by omega) hb
theorem errW_okAll {d : Nat} {l : List BlkT} : errW d l = 0 ↔ okAll d l := by
  constructor
  · intro h i b hb
    exact errTo_zero h i b (List.getElem?_eq_some_iff.1 hb).1 hb
  · intro h
    exact errTo_ok _ fun j b _ hb => h j b hb
theorem errTo_stay {d : Nat} {l : List BlkT} {i : Nat} (h : errTo d l i ≠ 0) : ∀ k, errTo d l (i + k) = errTo d l i
  | 0 => rfl
  | k + 1 => by
    have ih := errTo_stay h k
    show (if errTo d l (i + k) = 0 then (match l[i + k]? with | some b => checkW d (l.take (i + k)) b | none => 0) else errTo d l (i + k)) = _
    rw [if_neg (by rw [ih]; exact h), ih]
theorem errW_bad {d : Nat} {l : List BlkT} {i : Nat} {b : BlkT} (h0 : okAll d (l.take i)) (hb : l[i]? = some b) (hc : checkW d (l.take i) b ≠ 0) : errW d l = checkW d (l.take i) b := by
  have hi := (List.getElem?_eq_some_iff.1 hb).1
  have h1 : errTo d l (i + 1) = checkW d (l.take i) b := by
    unfold errTo
    rw [if_pos (errTo_ok i fun j c hj hcj => ?_), hb]
    have := h0 j c (by rw [List.getElem?_take_of_lt hj]; exact hcj)
    rwa [List.take_take, Nat.min_eq_left (by omega)] at this
  have h2 := errTo_stay (d := d) (l := l) (i := i + 1) (by rw [h1]; exact hc) (l.length - (i + 1))
  unfold errW
  rw [show l.length = i + 1 + (l.length - (i + 1)) by omega, h2, h1]
theorem okAll_snocT {d : Nat} {l : List BlkT} {i : Nat} {b : BlkT} (h : okAll d (l.take i)) (hb : l[i]? = some b) (hc : checkW d (l.take i) b = 0) : okAll d (l.take (i + 1)) := by
  have : l.take (i + 1) = l.take i ++ [b] := by rw [List.take_add_one, hb]; rfl
  rw [this]
  exact okAll_snoc h hc
end Go.Proofs.YtcikjcjfcanloaaGreat
namespace Go.Proofs.YtcikjcjfcanloaaGreat
open Go.RowKit
attribute [local irreducible] perm fAdd fMul fPow fSub fNeg fRed hashU drawOf nextState
theorem own_take {w : World} {e : TypeId} {k : Nat} {α : Type} {f : α → List Value} (hf : ∀ x, (f x).length = k) {a : Option Addr} {n c : Nat} {X : List α} (h : w.ownsRow 0 e k (.slice a n c) X.length (X.flatMap f)) {i : Nat} (hi : i ≤ X.length) : w.ownsRow 0 e k (.slice a i c) (X.take i).length ((X.take i).flatMap f) := by
  have hl : (X.take i).length = i := by rw [List.length_take]; omega
  have hfl : ∀ X : List α, (X.flatMap f).length = X.length * k := fun X => by
    induction X with
    | nil => simp
    | cons x r ih => rw [List.flatMap_cons, List.length_append, hf, ih, List.length_cons, Nat.succ_mul, Nat.add_comm]
  refine ⟨hfl _, ?_⟩
  rcases h.2 with ⟨h1, h2⟩ | ⟨g, cap, cur, h1, h2, h3, h4, h5, h6, h7⟩
  · injection h1 with e1 e2 e3
    subst e1 e3
    have : i = 0 := by omega
    subst this
    exact .inl ⟨rfl, by rw [hl]⟩
  · injection h1 with e1 e2 e3
    subst e1 e3
    refine .inr ⟨g, c, cur, by rw [hl], h2, h3, by rw [hl]; omega, h5, h6, ?_⟩
    rw [hl]
    have h8 : (X.flatMap f).take (i * k) = (X.take i).flatMap f := by
      conv => lhs; rw [← List.take_append_drop i X]
      rw [List.flatMap_append, List.take_append_of_le_length (by rw [hfl, hl]; exact Nat.le_refl _), List.take_of_length_le (by rw [hfl, hl]; exact Nat.le_refl _)]
    rw [← h8, ← h7, List.take_take, Nat.min_eq_left (Nat.mul_le_mul_right k hi)]
/-- The last block is no longer noted. -/
theorem WalIn.pop {w : World} {W d : Nat} {r : Rl} {seed : UInt64} {L : List UInt64} {ns : List OwT} {ps : List (ScT × Value)} {x : ScT × Value} {ob LB n c : Nat} {nv : Value} {pa : Option Addr} {FO FT A : Nat → Prop} (h : WalIn w W d r seed L ns (ps ++ [x]) ob LB nv (.slice pa n c) FO FT A) :
    WalIn (w.setCell ⟨W, 14, none⟩ (.slice pa ps.length c)) W d r seed L ns ps ob LB nv (.slice pa ps.length c) FO FT A ∧ Kp (fun j => j = W) w (w.setCell ⟨W, 14, none⟩ (.slice pa ps.length c)) := by
  have hbl : blk (.slice pa ps.length c) = blk (.slice pa n c) := blk_len _ _ _ _ _
  have hk : Kp (fun j => j = W) w (w.setCell ⟨W, 14, none⟩ (.slice pa ps.length c)) := (Kp.refl (fun j => j = W) _).setCell (p := ⟨W, 14, none⟩) (.inl rfl) _
  have hW : A W := h.sub W (.inl rfl)
  have hkA : Kp A w (w.setCell ⟨W, 14, none⟩ (.slice pa ps.length c)) := hk.mono fun j _ e => by rw [e]; exact hW
  have hp := own_take scCells_len h.past (i := ps.length) (by simp)
  rw [List.take_left] at hp
  refine ⟨{ h with self := ?_, sub := fun j e => h.sub j ?_, orc := h.orc.to hkA fun _ e => .inl e, tree := ?_, notes := ownsRow_kp h.notes hk fun b hb e => h.wn (e ▸ hb), past := ownsRow_kp hp hk fun b hb e => h.wp (by rw [← hbl, ← e]; exact hb), sps := fun y hy => (h.sps y (List.mem_append_left _ hy)).to hkA fun _ e => .inl e, wp := by rw [hbl]; exact h.wp, tp := fun j hj => h.tp j (by rw [← hbl]; exact hj), np := fun j hj e => h.np j hj (by rw [← hbl]; exact e), tl := fun j hj => Nat.lt_of_lt_of_le (h.tl j hj) hk.size }, hk⟩
  · exact heap_setCell_same h.self 14 _
  · rcases e with e | e | e | e
    · exact .inl e
    · exact .inr (.inl e)
    · exact .inr (.inr (.inl e))
    · exact .inr (.inr (.inr (by rw [← hbl]; exact e)))
  · obtain ⟨LV, vs, ls, h1, h2⟩ := h.tree
    exact ⟨LV, vs, ls, h1.of hk fun j hj e => h.wt (e ▸ hj), h2⟩
/-- Note i is not spent. -/
theorem WalIn.zero {w : World} {W d : Nat} {r : Rl} {seed : UInt64} {L : List UInt64} {ns : List OwT} {ps : List (ScT × Value)} {ob LB g n c : Nat} {pv : Value} {FO FT A : Nat → Prop} (h : WalIn w W d r seed L ns ps ob LB (.slice (some ⟨g, 0, none⟩) n c) pv FO FT A) {i : Nat} (hi : i < ns.length) :
    WalIn (w.setCell ⟨g, i * 8 + 7, none⟩ (.int .i64 0)) W d r seed L (ns.modify i zeroS) ps ob LB (.slice (some ⟨g, 0, none⟩) n c) pv FO FT A ∧ Kp (fun j => j = g) w (w.setCell ⟨g, i * 8 + 7, none⟩ (.int .i64 0)) := by
  have hg : blk (.slice (some ⟨g, 0, none⟩) n c) = some g := rfl
  have hk : Kp (fun j => j = g) w (w.setCell ⟨g, i * 8 + 7, none⟩ (.int .i64 0)) := (Kp.refl (fun j => j = g) _).setCell (p := ⟨g, i * 8 + 7, none⟩) (.inl rfl) _
  have hA : A g := h.sub g (.inr (.inr (.inl rfl)))
  have hkA : Kp A w (w.setCell ⟨g, i * 8 + 7, none⟩ (.int .i64 0)) := hk.mono fun j _ e => by rw [e]; exact hA
  have hnl : n = ns.length := by
    obtain ⟨a, c', e, -⟩ := ownsRow_rd h.notes
    injection e
  have hno := h.notes
  rw [← hnl] at hno
  have hx : ns[i]? = some ns[i] := List.getElem?_eq_getElem hi
  have hm : ns.modify i zeroS = ns.set i (zeroS ns[i]) := by
    apply List.ext_getElem?
    intro j
    rw [List.getElem?_modify]
    by_cases hji : i = j
    · subst hji
      rw [List.getElem?_set_self hi, hx]
      simp
    · rw [List.getElem?_set_ne hji]
      simp [hji]
  refine ⟨{ h with self := hk.heap_some (fun e => h.wn (by rw [e]; exact hg)) h.self, orc := h.orc.to hkA fun _ e => .inl e, tree := ?_, notes := ?_, past := ?_, sps := fun x hx => (h.sps x hx).to hkA fun _ e => .inl e, tl := fun j hj => Nat.lt_of_lt_of_le (h.tl j hj) hk.size }, hk⟩
  · obtain ⟨LV, vs, ls, h1, h2⟩ := h.tree
    exact ⟨LV, vs, ls, h1.of hk fun j hj e => h.tn g rfl (e ▸ hj), h2⟩
  · rw [hm, List.length_set, ← hnl]
    have := own_setRow hno (i * 8 + 7) (.int .i64 0)
    rwa [flat_set owCells_len ns i _ (zeroS ns[i]) 7 (.int .i64 0) hx (by omega) rfl] at this
  · exact ownsRow_kp h.past hk fun b hb e => h.np g rfl (by rw [← e]; exact hb)
/-- The notes from m on are gone. -/
theorem WalIn.cut {w : World} {W d : Nat} {r : Rl} {seed : UInt64} {L : List UInt64} {ns : List OwT} {ps : List (ScT × Value)} {ob LB n c m : Nat} {na : Option Addr} {pv : Value} {FO FT A : Nat → Prop} (h : WalIn w W d r seed L ns ps ob LB (.slice na n c) pv FO FT A) (hm : m ≤ ns.length) :
    WalIn (w.setCell ⟨W, 13, none⟩ (.slice na m c)) W d r seed L (ns.take m) ps ob LB (.slice na m c) pv FO FT A ∧ Kp (fun j => j = W) w (w.setCell ⟨W, 13, none⟩ (.slice na m c)) := by
  have hbl : blk (.slice na m c) = blk (.slice na n c) := blk_len _ _ _ _ _
  have hk : Kp (fun j => j = W) w (w.setCell ⟨W, 13, none⟩ (.slice na m c)) := (Kp.refl (fun j => j = W) _).setCell (p := ⟨W, 13, none⟩) (.inl rfl) _
  have hW : A W := h.sub W (.inl rfl)
  have hkA : Kp A w (w.setCell ⟨W, 13, none⟩ (.slice na m c)) := hk.mono fun j _ e => by rw [e]; exact hW
  have hp := own_take owCells_len h.notes (i := m) hm
  refine ⟨{ h with self := ?_, sub := fun j e => h.sub j ?_, orc := h.orc.to hkA fun _ e => .inl e, tree := ?_, notes := ownsRow_kp hp hk fun b hb e => h.wn (by rw [← hbl, ← e]; exact hb), past := ownsRow_kp h.past hk fun b hb e => h.wp (e ▸ hb), sps := fun y hy => (h.sps y hy).to hkA fun _ e => .inl e, wn := by rw [hbl]; exact h.wn, tn := fun j hj => h.tn j (by rw [← hbl]; exact hj), np := fun j hj => h.np j (by rw [← hbl]; exact hj), tl := fun j hj => Nat.lt_of_lt_of_le (h.tl j hj) hk.size }, hk⟩
  · exact heap_setCell_same h.self 13 _
  · rcases e with e | e | e | e
    · exact .inl e
    · exact .inr (.inl e)
    · exact .inr (.inr (.inl (by rw [← hbl]; exact e)))
    · exact .inr (.inr (.inr e))
  · obtain ⟨LV, vs, ls, h1, h2⟩ := h.tree
    exact ⟨LV, vs, ls, h1.of hk fun j hj e => h.wt (e ▸ hj), h2⟩
/-- The tree is another one. -/
theorem WalIn.tree' {w w' : World} {W d : Nat} {r : Rl} {seed : UInt64} {L L' : List UInt64} {ns : List OwT} {ps : List (ScT × Value)} {ob LB : Nat} {nv pv : Value} {FO FT : Nat → Prop} (h : WalIn w W d r seed L ns ps ob LB nv pv FO FT (WF W FT nv pv)) (ht : TreeTo w LB d FT L' w') :
    ∃ FT', WalIn w' W d r seed L' ns ps ob LB nv pv FO FT' (WF W FT' nv pv) ∧ Kp (WF W FT nv pv) w w' ∧ ∀ j, WF W FT' nv pv j → WF W FT nv pv j ∨ w.heap.size ≤ j := by
  obtain ⟨FT', h1, hk, hf⟩ := ht
  have hkA : Kp (WF W FT nv pv) w w' := hk.mono fun j _ e => .inr (.inl e)
  have hto : ∀ j, WF W FT' nv pv j → WF W FT nv pv j ∨ w.heap.size ≤ j := fun j hj => by
    rcases hj with e | e | e | e
    · exact .inl (.inl e)
    · rcases hf j e with e | e
      · exact .inl (.inr (.inl e))
      · exact .inr e
    · exact .inl (.inr (.inr (.inl e)))
    · exact .inl (.inr (.inr (.inr e)))
  have hno : ∀ j, j < w.heap.size → ¬ FT j → ¬ FT' j := fun j hj h1 h2 => by
    rcases hf j h2 with e | e
    · exact h1 e
    · omega
  refine ⟨FT', { h with self := hk.heap_some h.wt h.self, sub := fun j e => e, orc := h.orc.to hkA hto, tree := h1, notes := ownsRow_kp h.notes hk fun b hb => h.tn b hb, past := ownsRow_kp h.past hk fun b hb => h.tp b hb, sps := fun x hx => (h.sps x hx).to hkA hto, wt := hno W (heap_lt h.self) h.wt, tn := fun j hj => hno j (ownsRow_lt h.notes hj) (h.tn j hj), tp := fun j hj => hno j (ownsRow_lt h.past hj) (h.tp j hj), tl := fun j hj => ?_ }, hkA, hto⟩
  obtain ⟨LV, vs, ls, h2, -⟩ := h1
  exact h2.foot.2.2.2 j hj
theorem resetW_succ {l : List OwT} {sp : List Nat} {i j : Nat} (h : sp[i]? = some j) : resetW l (sp.take (i + 1)) = (resetW l (sp.take i)).modify j zeroS := by
  unfold resetW
  rw [List.take_add_one, h, List.foldl_append]
  rfl
theorem resetW_length (sp : List Nat) : ∀ l : List OwT, (resetW l sp).length = l.length := by
  induction sp with
  | nil => intro l; rfl
  | cons a r ih =>
    intro l
    show (resetW (l.modify a zeroS) r).length = _
    rw [ih, List.length_modify]
end Go.Proofs.YtcikjcjfcanloaaGreat
namespace Go.Proofs.YtcikjcjfcanloaaGreat
open Go.RowKit
attribute [local irreducible] perm fAdd fMul fPow fSub fNeg fRed hashU drawOf nextState
/-- The last block is undone. -/
def UndTo (w : World) (W d : Nat) (r : Rl) (seed : UInt64) (L : List UInt64) (ns : List OwT) (ps : List (ScT × Value)) (x : ScT) (ob LB : Nat) (nv pv : Value) (FO FT : Nat → Prop) (w' : World) : Prop :=
  ∃ nv' pv' FT', WalIn w' W d r seed (L.take x.leaves) ((resetW ns x.sp).take x.notes) ps ob LB nv' pv' FO FT' (WF W FT' nv' pv') ∧ Kp (WF W FT nv pv) w w' ∧ ∀ j, WF W FT' nv' pv' j → WF W FT nv pv j ∨ w.heap.size ≤ j
theorem WalIn.reA {w : World} {W d : Nat} {r : Rl} {seed : UInt64} {L : List UInt64} {ns : List OwT} {ps : List (ScT × Value)} {ob LB : Nat} {nv pv : Value} {FO FT A B : Nat → Prop} (h : WalIn w W d r seed L ns ps ob LB nv pv FO FT A) (hB : ∀ i, B i → A i) (hs : ∀ i, WF W FT nv pv i → B i) : WalIn w W d r seed L ns ps ob LB nv pv FO FT B :=
  { h with sub := hs, orc := h.orc.to (Kp.refl _ _) fun i hi => .inl (hB i hi), sps := fun x hx => (h.sps x hx).to (Kp.refl _ _) fun i hi => .inl (hB i hi) }
set_option maxRecDepth 100000 in
set_option maxHeartbeats 1600000 in
theorem walUndo_none {w : World} {W d : Nat} {r : Rl} {seed : UInt64} {L : List UInt64} {ns : List OwT} {ob LB : Nat} {nv pv : Value} {FO FT A : Nat → Prop} (h : WalIn w W d r seed L ns [] ob LB nv pv FO FT A) :
    Calls Tryz.prog 30 #[.pointer (some ⟨W, 0, none⟩)] w fun e w' => e = .returned (.bool false) ∧ Ext w w' := by
  obtain ⟨pa, pc, rfl, -⟩ := ownsRow_rd h.past
  obtain ⟨-, -, -, -, -, -, e6⟩ := h.cells
  change w.cell? ⟨W, 14, none⟩ = some (.slice pa 0 pc) at e6
  clear h
  go_enter Tryz.func30, Tryz.ntmps30
  go_wp2_with fail
  go_ret
  exact ⟨rfl, Ext.refl w⟩
theorem RdC'.iat {w : World} {a : Option Addr} {n c : Nat} {l : List Nat} (h : RdI' w (.slice a n c) l) {i x : Nat} (hx : l[i]? = some x) : ∃ b o, a = some ⟨b, o, none⟩ ∧ w.cell? ⟨b, o + i, none⟩ = some (.int .i64 (x : Int)) := by
  obtain ⟨a', c', e, h2, h3, h4, h5⟩ := h
  injection e with e1 e2 e3
  subst e1 e3
  have hu : (is l)[i]? = some (.int .i64 (x : Int)) := by simp [is, hx]
  cases a with
  | none =>
    have := h4 rfl
    have := (List.getElem?_eq_some_iff.1 hx).1
    omega
  | some ad =>
    have h6 := h5 ad rfl 0 _ (show (is l)[0]? = some ((is l)[0]'(by have := (List.getElem?_eq_some_iff.1 hx).1; simp [is]; omega)) from List.getElem?_eq_getElem _)
    have e6 := add_spot h6
    have hs : ad.spot = none := by
      rw [show ad.add 0 = ad by unfold Addr.add; simp] at e6
      rw [e6]
    refine ⟨ad.block, ad.off, by cases ad; simp only at hs; subst hs; rfl, ?_⟩
    have h7 := h5 ad rfl i _ hu
    rw [add_spot h7] at h7
    exact h7
set_option maxRecDepth 100000 in
set_option maxHeartbeats 12800000 in
theorem walUndo_any {w : World} {W d : Nat} {r : Rl} {seed : UInt64} {L : List UInt64} {ns : List OwT} {ps : List (ScT × Value)} {x : ScT × Value} {ob LB : Nat} {nv pv : Value} {FO FT : Nat → Prop} (h : WalIn w W d r seed L ns (ps ++ [x]) ob LB nv pv FO FT (WF W FT nv pv))
    (hL : L.length ≤ 4096) (hp : ps.length ≤ 1000) (hn : ns.length ≤ 10000) (hl : x.1.leaves ≤ L.length) (hm : x.1.notes ≤ ns.length) (hsp : ∀ i ∈ x.1.sp, i < ns.length) (hspl : x.1.sp.length ≤ 10000000) :
    Calls Tryz.prog 30 #[.pointer (some ⟨W, 0, none⟩)] w fun e w' => e = .returned (.bool true) ∧ UndTo w W d r seed L ns ps x.1 ob LB nv pv FO FT w' := by
  obtain ⟨pa, pc, rfl, -, -, -, -⟩ := ownsRow_rd h.past
  obtain ⟨na, nc, rfl, -⟩ := ownsRow_rd h.notes
  obtain ⟨⟨s0, n0, sp⟩, sv⟩ := x
  simp only at hl hm hsp hspl ⊢
  obtain ⟨g, rfl⟩ : ∃ g, pa = some ⟨g, 0, none⟩ := own_shape h.past (by simp)
  have hrow : ∀ j u, j < 3 → (scCells (⟨s0, n0, sp⟩, sv))[j]? = some u → w.cell? ⟨g, ps.length * 3 + j, none⟩ = some u := by
    obtain ⟨b, o, e, hc⟩ := rows_at (i := ps.length) (x := (⟨s0, n0, sp⟩, sv)) scCells_len (by omega) rfl (ownsRow_rd h.past).weak (by simp)
    injection e with e
    injection e with e1 e2
    subst e1 e2
    intro j u hj hu
    have := hc j u hj hu
    rwa [Nat.zero_add] at this
  obtain ⟨sa, sc, rfl⟩ : ∃ sa sc, sv = .slice sa sp.length sc := by
    obtain ⟨a, c, e, -⟩ := (h.sps (⟨s0, n0, sp⟩, sv) (by simp)).now.shape
    exact ⟨a, c, e⟩
  have f0 : w.cell? ⟨g, ps.length * 3, none⟩ = some (.int .i64 (s0 : Int)) := hrow 0 _ (by omega) rfl
  have f1 : w.cell? ⟨g, ps.length * 3 + 1, none⟩ = some (.int .i64 (n0 : Int)) := hrow 1 _ (by omega) rfl
  have f2 : w.cell? ⟨g, ps.length * 3 + 2, none⟩ = some (.slice sa sp.length sc) := hrow 2 _ (by omega) rfl
  have hlen : (ps ++ [((⟨s0, n0, sp⟩ : ScT), Value.slice sa sp.length sc)]).length = ps.length + 1 := by simp
  obtain ⟨-, -, -, -, -, -, e6⟩ := h.cells
  have HPC : ps.length + 1 ≤ pc := by
    obtain ⟨a', c', e, h2, -⟩ := ownsRow_rd h.past
    injection e with e1 e2 e3
    omega
  rw [hlen] at e6 h ⊢
  have HH := hid h
  have HSP : Hid (∀ u, Kp (WF W FT (.slice na ns.length nc) (.slice (some ⟨g, 0, none⟩) (ps.length + 1) pc)) w u → RdI' u (.slice sa sp.length sc) sp) := hid (h.sps (⟨s0, n0, sp⟩, .slice sa sp.length sc) (by simp))
  have hpI : (ps.length : Int) ≤ 1000 := by omega
  have hspI : (sp.length : Int) ≤ 10000000 := by omega
  have HL := hid hL
  have HN := hid hn
  have HHL := hid hl
  have HHM := hid hm
  have HHS := hid hsp
  clear h hrow hlen hL hn hl hm hsp hp hspl
  generalize hP : ps.length = m at *
  have HPL := hid hP
  clear hP
  go_enter Tryz.func30, Tryz.ntmps30
  go_upto_region 5 with fail
  obtain ⟨N, hN⟩ : ∃ N, N = w.heap.size := ⟨_, rfl⟩
  obtain ⟨w0, hw0⟩ : ∃ w0, w0 = w.alloc (.cells #[.int .i64 (s0 : Int), .int .i64 (n0 : Int), .slice sa sp.length sc] 128) := ⟨_, rfl⟩
  rw [← hw0, ← hN]
  have hx0 : Ext w w0 := by rw [hw0]; exact (Ext.refl w).alloc _
  have hb0 : w0.heap[N]? = some (.cells #[.int .i64 (s0 : Int), .int .i64 (n0 : Int), .slice sa sp.length sc] 128 (0, 0)) := by rw [hw0, hN]; exact heap_new _ _
  have HB0 := hid hb0
  have HX0 := hid hx0
  have hH0 := HH.out.ext hx0
  have hA : ∀ j, WF W FT (.slice na ns.length nc) (.slice (some ⟨g, 0, none⟩) (m + 1) pc) j → j < w.heap.size := fun j hj => by
    rcases hj with e | e | e | e
    · subst e; exact heap_lt HH.out.self
    · exact HH.out.tl j e
    · exact ownsRow_lt HH.out.notes e
    · exact ownsRow_lt HH.out.past e
  have HA : Hid (∀ j, WF W FT (.slice na ns.length nc) (.slice (some ⟨g, 0, none⟩) (m + 1) pc) j → j ≠ N) := hid fun j hj => by have := hA j hj; omega
  obtain ⟨-, -, -, -, -, -, g6⟩ := hH0.cells
  have fz := frozen_of hH0.self
  have hpop := hH0.pop
  rw [HPL.out] at hpop
  have P1 := hid hpop.1
  have K1 := hid ((Kp.of_ext hx0).trans (hpop.2.mono fun j _ (e : j = W) => show WF W FT (.slice na ns.length nc) (.slice (some ⟨g, 0, none⟩) (m + 1) pc) j from .inl e))
  have hb1 := hpop.2.heap_some (fun e => (HA.out W (.inl rfl)) e.symm) hb0
  have HB1 := hid hb1
  have hmc : (m : Int) ≤ (pc : Int) := by omega
  clear hw0 hN hx0 hb0 hH0 hA hpop hb1 f0 f1 f2 e6
  go_upto_region 6 with fail
  obtain ⟨A, hAe⟩ : ∃ A, A = WF W FT (.slice na ns.length nc) (.slice (some ⟨g, 0, none⟩) (m + 1) pc) := ⟨_, rfl⟩
  generalize w0.setCell ⟨W, 14, none⟩ (.slice (some ⟨g, 0, none⟩) m pc) = u1 at *
  rw [← hAe] at HH HSP HA P1 K1
  have HAE := hid hAe
  obtain ⟨c0, c1, c2⟩ : u1.cell? ⟨N, 0, none⟩ = some (.int .i64 (s0 : Int)) ∧ u1.cell? ⟨N, 1, none⟩ = some (.int .i64 (n0 : Int)) ∧ u1.cell? ⟨N, 2, none⟩ = some (.slice sa sp.length sc) := ⟨cell_of HB1.out 0, cell_of HB1.out 1, cell_of HB1.out 2⟩
  clear hAe g6 fz
  go_wp2_with fail
  clear c0 c1 c2
  go_loopw [35] (fun iv wr => ∃ i : Nat, i ≤ sp.length ∧ iv = .int .i64 i ∧ Hid (WalIn wr W d r seed L (resetW ns (sp.take i)) ps ob LB (.slice na ns.length nc) (.slice (some ⟨g, 0, none⟩) m pc) FO FT A ∧ Kp A w wr ∧ wr.heap[N]? = u1.heap[N]?)) (fun iv _ => sp.length - (intOf iv).toNat)
  case atStart => exact ⟨0, by omega, rfl, hid ⟨P1.out, K1.out, rfl⟩⟩
  case round =>
    obtain ⟨i, hi, rfl, HI⟩ := hrel
    have hi0 : (0 : Int) ≤ (i : Int) := Int.natCast_nonneg _
    by_cases hlt : i < sp.length
    · have hltB : decide ((i : Int) < (sp.length : Int)) = true := by simp; omega
      have hil : (i : Int) < (sp.length : Int) := by omega
      obtain ⟨j, hj⟩ : ∃ j, sp[i]? = some j := ⟨_, List.getElem?_eq_getElem hlt⟩
      obtain ⟨sb, so, rfl, f0⟩ := (HSP.out wr HI.out.2.1).iat hj
      have hjn := HHS.out j (List.mem_of_getElem? hj)
      have hrl := resetW_length (sp.take i) ns
      obtain ⟨q, rfl⟩ : ∃ q, na = some ⟨q, 0, none⟩ := own_shape HI.out.1.notes (by rw [hrl]; omega)
      obtain ⟨x, hx⟩ : ∃ x, (resetW ns (sp.take i))[j]? = some x := ⟨_, List.getElem?_eq_getElem (by rw [hrl]; exact hjn)⟩
      have f7 : wr.cell? ⟨q, j * 8 + 7, none⟩ = some (.int .i64 (x.spent : Int)) := by
        obtain ⟨b, o, e, hc⟩ := rows_at owCells_len (by omega) hrl.symm (ownsRow_rd (hrl ▸ HI.out.1.notes)).weak hx
        injection e with e
        injection e with e1 e2
        subst e1 e2
        have := hc 7 _ (by omega) rfl
        rwa [Nat.zero_add] at this
      obtain ⟨cur, hcur⟩ : ∃ cur, wr.heap[q]? = some (.cells cur 39 (0, 0)) := by
        rcases HI.out.1.notes.2 with ⟨e, -⟩ | ⟨q', cap, cur, e, -, h3, -⟩
        · cases e
        · injection e with e
          injection e with e
          injection e with e
          subst e
          exact ⟨cur, h3⟩
      have fz := frozen_of hcur
      have hz := HI.out.1.zero (i := j) (by rw [hrl]; exact hjn)
      rw [← resetW_succ hj] at hz
      have hqN : q ≠ N := HA.out q (by rw [HAE.out]; exact .inr (.inr (.inl rfl)))
      have HN2 := hid (And.intro hz.1 (And.intro (HI.out.2.1.trans (hz.2.mono fun k _ (e : k = q) => show A k from by rw [e, HAE.out]; exact .inr (.inr (.inl rfl)))) (show (wr.setCell ⟨q, j * 8 + 7, none⟩ (.int .i64 0)).heap[N]? = u1.heap[N]? from by rw [heap_setCell_ne hqN.symm]; exact HI.out.2.2)))
      have hjI : (j : Int) < (ns.length : Int) := by omega
      have hj0 : (0 : Int) ≤ (j : Int) := Int.natCast_nonneg _
      have hnI : (ns.length : Int) ≤ 10000 := by have := HN.out; omega
      obtain ⟨-, -, -, -, -, e5, -⟩ := HI.out.1.cells
      clear hj hjn hrl hx hcur hz hqN
      go_wp2_with fail
      go_roundw
      case rel => exact ⟨i + 1, by omega, by go_num, HN2⟩
      case measure => simp [intOf]; omega
    · have hltB : decide ((i : Int) < (sp.length : Int)) = false := by simp; omega
      obtain rfl : i = sp.length := by omega
      rw [List.take_length] at HI
      have hrl := resetW_length sp ns
      have hnc : (n0 : Int) ≤ (nc : Int) := by
        obtain ⟨a', c', e, h2, -⟩ := ownsRow_rd HI.out.1.notes
        injection e with e1 e2 e3
        have := HHM.out
        omega
      have hN0 : (0 : Int) ≤ (n0 : Int) := Int.natCast_nonneg _
      have HCY : Hid (∀ u, Ext wr u → u.cell? ⟨W, 13, none⟩ = some (.slice na ns.length nc) ∧ u.cell? ⟨N, 1, none⟩ = some (.int .i64 (n0 : Int))) := hid fun u ku => by
        obtain ⟨-, -, -, -, -, q, -⟩ := (HI.out.1.ext ku).cells
        exact ⟨q, cell_of (ku.heap_some (HI.out.2.2.trans HB1.out)) 1⟩
      have hD := HI.out.1.ext (Ext.refl wr).drew
      have fz := frozen_of hD.self
      have hcut := hD.cut (m := n0) (by rw [hrl]; exact HHM.out)
      have C2 := hid hcut.1
      have K2 := hid (HI.out.2.1.drew.trans (hcut.2.mono fun k _ (e : k = W) => show A k from by rw [e, HAE.out]; exact .inl rfl))
      have hWN : N ≠ W := fun e => HA.out W (by rw [HAE.out]; exact .inl rfl) e.symm
      have HNB := hid (show (wr.drew.setCell ⟨W, 13, none⟩ (.slice na n0 nc)).heap[N]? = u1.heap[N]? from by rw [heap_setCell_ne hWN]; exact HI.out.2.2)
      clear hD hcut hrl hWN
      go_wp2_with fail
      refine wp_region_T (fun u => u.cell? ⟨W, 13, none⟩ = some (.slice na ns.length nc) ∧ u.cell? ⟨N, 1, none⟩ = some (.int .i64 (n0 : Int))) 8 [(0, true), (1, true), (2, true), (3, true), (4, true), (5, true), (6, true), (7, false), (8, false), (9, false), (10, false)] (by kernel_rfl) (by kernel_rfl) (by intro c a d v w h; cases d <;> exact h) ?_
      intro ops hops
      have HSS := HCY.out _ (Ext.refl wr).drew
      iterate 7
        refine wpT_take (v := ?_) (by rw [hops, List.getElem?_toArray]; rfl) (by first | rfl | (rw [hops]; rfl)) ?_ HSS ?_
        rotate_left
        · intro v h; go_simp; with_reducible rfl
        simp only [Act.put, List.getElem_toArray, List.getElem_cons_zero, List.getElem_cons_succ, List.setIfInBounds_toArray, List.set_cons_zero, List.set_cons_succ]
      have HS2 := hid HSS
      clear HSS
      refine wpT_step (by rw [hops, List.getElem?_toArray]; rfl) (by first | rfl | (rw [hops]; rfl)) ?_
      intro K hK
      go_wp2_with fail
      refine ⟨by first | exact fun _ => HS2.out | exact fun _ => HCY.out _ (Ext.refl wr) | exact HCY.out _ (Ext.refl wr) | exact HS2.out, ?_⟩
      try rw [← hops]
      have hcl := HS2.out.1
      clear HS2
      refine wpT_step (by rw [hops, List.getElem?_toArray]; rfl) (by first | rfl | (rw [hops]; rfl)) ?_
      intro K hK
      go_wp2_with fail
      try (with_reducible refine ⟨fun h => absurd h (by decide), ?_⟩)
      try rw [← hops]
      refine wpT_step (by rw [hops, List.getElem?_toArray]; rfl) (by first | rfl | (rw [hops]; rfl)) ?_
      intro K hK
      go_wp2_with fail
      try (with_reducible refine ⟨fun h => absurd h (by decide), ?_⟩)
      try rw [← hops]
      refine wpT_step (by rw [hops, List.getElem?_toArray]; rfl) (by first | rfl | (rw [hops]; rfl)) ?_
      intro K hK
      go_wp2_with fail
      try (with_reducible refine ⟨fun h => absurd h (by decide), ?_⟩)
      try rw [wpT_nil]
      try clear hops ops
      have hdr : wr.drew.setCell ⟨W, 13, none⟩ (.slice na n0 nc) = (wr.setCell ⟨W, 13, none⟩ (.slice na n0 nc)).drew := rfl
      rw [hdr] at C2 K2 HNB
      clear hdr
      generalize (wr.setCell ⟨W, 13, none⟩ (.slice na n0 nc)).drew = u2 at *
      clear hcl fz hnc
      have HCZ : Hid (∀ u, Ext u2 u → u.cell? ⟨W, 12, none⟩ = some (.pointer (some ⟨LB, 0, none⟩)) ∧ u.cell? ⟨N, 0, none⟩ = some (.int .i64 (s0 : Int))) := hid fun u ku => by
        obtain ⟨-, -, -, -, q, -, -⟩ := (C2.out.ext ku).cells
        exact ⟨q, cell_of (ku.heap_some (HNB.out.trans HB1.out)) 0⟩
      have hbn : blk (.slice na n0 nc) = blk (.slice na ns.length nc) := blk_len _ _ _ _ _
      have C3 := hid ((C2.out.ext (Ext.refl u2).drew).reA (B := WF W FT (.slice na n0 nc) (.slice (some ⟨g, 0, none⟩) m pc)) (fun j hj => by
        rw [HAE.out]
        rcases hj with e | e | e | e
        · exact .inl e
        · exact .inr (.inl e)
        · exact .inr (.inr (.inl (by rw [← hbn]; exact e)))
        · exact .inr (.inr (.inr e))) fun j hj => hj)
      have HBA : Hid (∀ j, WF W FT (.slice na n0 nc) (.slice (some ⟨g, 0, none⟩) m pc) j → A j) := hid fun j hj => by
        rw [HAE.out]
        rcases hj with e | e | e | e
        · exact .inl e
        · exact .inr (.inl e)
        · exact .inr (.inr (.inl (by rw [← hbn]; exact e)))
        · exact .inr (.inr (.inr e))
      have TR := hid (treeTruncate_any C3.out.tree C3.out.dep.2.1 C3.out.dep.2.2 (by have := HL.out; omega) s0 HHL.out)
      clear hbn
      go_wp2_with fail
      refine wp_region_T (fun u => u.cell? ⟨W, 12, none⟩ = some (.pointer (some ⟨LB, 0, none⟩)) ∧ u.cell? ⟨N, 0, none⟩ = some (.int .i64 (s0 : Int))) 6 [(0, true), (1, true), (2, true), (3, true), (4, true), (5, true), (6, false)] (by kernel_rfl) (by kernel_rfl) (by intro c a d v w h; cases d <;> exact h) ?_
      intro ops hops
      have HSS := HCZ.out _ (Ext.refl u2).drew
      iterate 6
        refine wpT_take (v := ?_) (by rw [hops, List.getElem?_toArray]; rfl) (by first | rfl | (rw [hops]; rfl)) ?_ HSS ?_
        rotate_left
        · intro v h; go_simp; with_reducible rfl
        simp only [Act.put, List.getElem_toArray, List.getElem_cons_zero, List.getElem_cons_succ, List.setIfInBounds_toArray, List.set_cons_zero, List.set_cons_succ]
      clear HSS
      refine wpT_step (by rw [hops, List.getElem?_toArray]; rfl) (by first | rfl | (rw [hops]; rfl)) ?_
      intro K hK
      go_wp2_with fail
      refine (TR.out).mono ?_
      rintro e u3 ⟨rfl, hto⟩
      have HT : Hid (UndTo w W d r seed L ns ps ⟨s0, n0, sp⟩ ob LB (.slice na ns.length nc) (.slice (some ⟨g, 0, none⟩) (m + 1) pc) FO FT u3) := hid (by
        obtain ⟨FT', h1, h2, h3⟩ := C3.out.tree' hto
        refine ⟨_, _, FT', h1, by rw [← HAE.out]; exact K2.out.drew.trans (h2.mono fun j _ e => HBA.out j e), fun j hj => ?_⟩
        rw [← HAE.out]
        rcases h3 j hj with e | e
        · exact .inl (HBA.out j e)
        · have := K2.out.size
          exact .inr (Nat.le_trans this e))
      clear hto TR
      refine hK _ _ ⟨fun h => absurd h (by decide), ?_⟩
      clear hK K
      try (with_reducible refine ⟨fun h => absurd h (by decide), ?_⟩)
      try rw [wpT_nil]
      try clear hops ops
      go_wp2_with fail
      go_ret
      exact ⟨rfl, HT.out⟩
end Go.Proofs.YtcikjcjfcanloaaGreat
