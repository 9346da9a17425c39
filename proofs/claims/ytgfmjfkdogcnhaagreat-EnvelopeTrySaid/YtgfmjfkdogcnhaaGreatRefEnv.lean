/- The reference's Open of envelopes. -/
import Derived.Test.YtgfmjfkdogcnhaaGreatRefMS
import Derived.Test.YtgfmjfkdogcnhaaGreatRefCip
import Derived.Test.YtgfmjfkdogcnhaaGreatRefExt
import Derived.Test.YtgfmjfkdogcnhaaGreatAwk35
set_option linter.unusedSimpArgs false
namespace Go.Proofs.YtgfmjfkdogcnhaaGreat
open Go.RowKit
attribute [local irreducible] perm fAdd fMul fPow fSub fNeg fRed hashU drawOf nextState cipSeal
def openP (ideal : Bool) (ss : List Sl) (view : UInt64) (pt : E2) (c : List UInt64) : UInt64 × UInt64 × Bool :=
  if validP pt then pick2 (if ideal then openI ss (envKey (pShared pt view) pt) 0 c else cipOpen (envKey (pShared pt view) pt) 0 c) else (0, 0, false)
theorem openP_eq (M : Orc) (view : UInt64) (pt : E2) (c : List UInt64) : M.envOpen view pt c = openP M.ideal M.seals view pt c := rfl
theorem six_cellsP {w : World} {b : Nat} {c0 c1 c2 c3 c4 c5 : Value} {T : TypeId} (h : w.heap[b]? = some (.cells #[c0, c1, c2, c3, c4, c5] T (0, 0))) :
    w.cell? ⟨b, 0, none⟩ = some c0 ∧ w.cell? ⟨b, 1, none⟩ = some c1 ∧ w.cell? ⟨b, 2, none⟩ = some c2 ∧ w.cell? ⟨b, 3, none⟩ = some c3 ∧ w.cell? ⟨b, 4, none⟩ = some c4 ∧ w.cell? ⟨b, 5, none⟩ = some c5 :=
  ⟨cell_of h 0, cell_of h 1, cell_of h 2, cell_of h 3, cell_of h 4, cell_of h 5⟩
abbrev plVal (b : Bool) (st : UInt64) (n : Int) (qv sv pv : Value) : Value := .agg #[.bool b, uv st, .int .i64 n, qv, sv, pv]
set_option maxRecDepth 100000 in
set_option maxHeartbeats 3200000 in
theorem rEnvOpen_any {w : World} {ideal : Bool} {st : UInt64} {nn : Int} {qv sv pv : Value} {ss : List Sl} {view commit : UInt64} {pt : E2} {cv : Value} {c : List UInt64} (hq : isSl qv) (hp : isSl pv) (hs : RdSc w sv ss) (hc : RdU w cv c) (hL : c.length ≤ 100000000) (hS : ss.length ≤ 1000000000) (hE : ∀ s ∈ ss, s.sealed.length ≤ 1000000000) :
    Calls Tryz.prog 30 #[plVal ideal st nn qv sv pv, uv view, .agg #[uv commit, uv pt.a, uv pt.b, cv]] w fun e w' => e = .returned (r3 (openP ideal ss view pt c)) ∧ Ext w w' := by
  obtain ⟨ca, cc, rfl, -⟩ := id hc
  obtain ⟨qa, qn, qc, rfl⟩ := hq
  obtain ⟨pa, pn, pc, rfl⟩ := hp
  obtain ⟨sa, sc, rfl⟩ := hs.len
  obtain ⟨N, hN⟩ : ∃ N, N = w.heap.size := ⟨_, rfl⟩
  obtain ⟨w0, hw0⟩ : ∃ w0, w0 = (w.alloc (.cells #[.bool ideal, uv st, .int .i64 nn, .slice qa qn qc, .slice sa ss.length sc, .slice pa pn pc] 38)).alloc (.cells #[uv commit, uv pt.a, uv pt.b, .slice ca c.length cc] 28) := ⟨_, rfl⟩
  have hx0 : Ext w w0 := by rw [hw0]; exact ((Ext.refl w).alloc _).alloc _
  have hbp : w0.heap[N]? = some (.cells #[.bool ideal, uv st, .int .i64 nn, .slice qa qn qc, .slice sa ss.length sc, .slice pa pn pc] 38 (0, 0)) := by rw [hw0, hN]; exact heap_alloc_some (heap_new _ _)
  have hb0 : w0.heap[N + 1]? = some (.cells #[uv commit, uv pt.a, uv pt.b, .slice ca c.length cc] 28 (0, 0)) := by
    rw [hw0, hN]
    have := heap_new (w.alloc (.cells #[.bool ideal, uv st, .int .i64 nn, .slice qa qn qc, .slice sa ss.length sc, .slice pa pn pc] 38)) (.cells #[uv commit, uv pt.a, uv pt.b, .slice ca c.length cc] 28)
    simpa using this
  have HBP := hid hbp
  have H : Hid (∀ v, Ext w0 v → (v.cell? ⟨N + 1, 0, none⟩ = some (uv commit) ∧ v.cell? ⟨N + 1, 1, none⟩ = some (uv pt.a) ∧ v.cell? ⟨N + 1, 2, none⟩ = some (uv pt.b) ∧ v.cell? ⟨N + 1, 3, none⟩ = some (.slice ca c.length cc))) := hid fun v k => four_cells (k.heap_some hb0)
  have HW := hid hw0
  have HX0 := hid hx0
  have HC := hid hc
  have HSS := hid (And.intro hs (And.intro hS hE))
  obtain ⟨c0, c1, c2, c3⟩ := H.out w0 (Ext.refl _)
  obtain ⟨res, hres⟩ : ∃ res, res = openP ideal ss view pt c := ⟨_, rfl⟩
  rw [← hres]
  have HRES := hid hres
  clear hw0 hx0 hb0 hbp hc hs hE hres
  go_enter Tryz.func30, Tryz.ntmps30
  go_upto_region 1 with fail
  rw [← HW.out, ← hN]
  clear hN
  go_wp2_with fail
  refine (rpValid_any pt _).mono ?_
  rintro e w1 ⟨rfl, hx⟩
  have HX1 := hid hx
  clear hx c0 c1 c2 c3
  cases hv : validP pt with
  | false =>
    have hr : res = (0, 0, false) := by rw [HRES.out]; unfold openP; rw [hv]; rfl
    subst hr
    clear hv
    go_wp2_with fail
    exact bodyPost_ret (v := .tuple #[uv 0, uv 0, .bool false]) (by simp [results, Tryz.results30, go_sem]) rfl ⟨rfl, HX0.out.trans HX1.out⟩
  | true =>
    have hr : res = pick2 (if ideal then openI ss (envKey (pShared pt view) pt) 0 c else cipOpen (envKey (pShared pt view) pt) 0 c) := by rw [HRES.out]; unfold openP; rw [hv]; rfl
    have HR := hid hr
    clear hv hr HRES
    have H1 : Hid (∀ v, Ext w1 v → (v.cell? ⟨N + 1, 0, none⟩ = some (uv commit) ∧ v.cell? ⟨N + 1, 1, none⟩ = some (uv pt.a) ∧ v.cell? ⟨N + 1, 2, none⟩ = some (uv pt.b) ∧ v.cell? ⟨N + 1, 3, none⟩ = some (.slice ca c.length cc))) := hid fun v k => H.out v (HX1.out.trans k)
    go_wp2_with fail
    refine wp_region_T (fun v => (v.cell? ⟨N + 1, 0, none⟩ = some (uv commit) ∧ v.cell? ⟨N + 1, 1, none⟩ = some (uv pt.a) ∧ v.cell? ⟨N + 1, 2, none⟩ = some (uv pt.b) ∧ v.cell? ⟨N + 1, 3, none⟩ = some (.slice ca c.length cc)) ∧ Ext w1 v) 6 [(0, true), (1, true), (2, true), (4, true), (5, true), (3, false), (6, false), (7, false)] (by kernel_rfl) (by kernel_rfl) (by intro c a d v w h; cases d <;> exact h) ?_
    intro ops hops
    have HS := keep0 H1.out
    iterate 5
      refine wpT_take (v := ?_) (by rw [hops, List.getElem?_toArray]; rfl) (by first | rfl | (rw [hops]; rfl)) ?_ HS ?_
      rotate_left
      · intro v h; go_simp; with_reducible rfl
      simp only [Act.put, List.getElem_toArray, List.getElem_cons_zero, List.getElem_cons_succ, List.setIfInBounds_toArray, List.set_cons_zero, List.set_cons_succ]
    refine wpT_step (by rw [hops, List.getElem?_toArray]; rfl) (by first | rfl | (rw [hops]; rfl)) ?_
    intro K hK
    go_wp2_with fail
    refine (rShared_any pt view _).mono ?_
    rintro e w2 ⟨rfl, hx⟩
    have HS1 := keepE H1.out HS hx
    clear HS hx
    refine hK _ _ ⟨fun _ => HS1, ?_⟩
    clear hK K
    refine wpT_step (by rw [hops, List.getElem?_toArray]; rfl) (by first | rfl | (rw [hops]; rfl)) ?_
    intro K hK
    go_wp2_with fail
    refine (rKey_any (pShared pt view) pt _).mono ?_
    rintro e w3 ⟨rfl, hx⟩
    have HX3 := hid (HX1.out.trans (HS1.2.trans hx))
    clear HS1 hx
    refine hK _ _ ⟨fun h => absurd h (by decide), ?_⟩
    clear hK K
    refine wpT_step (by rw [hops, List.getElem?_toArray]; rfl) (by first | rfl | (rw [hops]; rfl)) ?_
    intro K hK
    go_wp2_with fail
    try (with_reducible refine ⟨fun h => absurd h (by decide), ?_⟩)
    try rw [wpT_nil]
    try clear hops ops
    generalize envKey (pShared pt view) pt = k at *
    obtain ⟨c0, c1, c2, c3⟩ := H.out w3 HX3.out
    obtain ⟨d0, d1, d2, d3, d4, d5⟩ := six_cellsP (HX3.out.heap_some HBP.out)
    obtain ⟨r, hr⟩ : ∃ r, r = (if ideal then openI ss k 0 c else cipOpen k 0 c) := ⟨_, rfl⟩
    rw [← hr] at HR
    have HRR := hid hr
    clear hr
    cases ideal with
    | true =>
      have HO := hid (rMOpen_any (st := st) (nn := nn) (qv := .slice qa qn qc) (pv := .slice pa pn pc) (key := k) (nonce := 0) ⟨_, _, _, rfl⟩ ⟨_, _, _, rfl⟩ (HSS.out.1.ext (HX0.out.trans HX3.out)) (HC.out.ext (HX0.out.trans HX3.out)).weak (by omega) HSS.out.2.1 HSS.out.2.2)
      have hrr := HRR.out
      simp only [if_true] at hrr
      rw [← hrr] at HO
      clear hrr
      obtain ⟨l, ok⟩ := r
      clear HRR
      go_wp2_with fail
      refine (HO.out).mono ?_
      rintro e w4 ⟨v, rfl, hown, hx⟩
      simp only at hown ⊢
      obtain ⟨la, lc, rfl, -⟩ := id hown
      have HX4 := hid (HX3.out.trans hx)
      have HOW := hid hown
      clear c0 c1 c2 c3 d0 d1 d2 d3 d4 d5 hown hx HO
      cases ok with
      | false =>
        have hr := HR.out
        rw [pick2_no] at hr
        subst hr
        clear HR
        go_wp2_with fail
        exact bodyPost_ret (v := .tuple #[uv 0, uv 0, .bool false]) (by simp [results, Tryz.results30, go_sem]) rfl ⟨rfl, HX0.out.trans HX4.out⟩
      | true =>
        by_cases hlen : l.length = 2
        case neg =>
          have hl2 : ((l.length : Int) != 2) = true := by simp; omega
          have hr := HR.out
          rw [pick2_len hlen] at hr
          subst hr
          clear HR hlen
          go_wp2_with fail
          exact bodyPost_ret (v := .tuple #[uv 0, uv 0, .bool false]) (by simp [results, Tryz.results30, go_sem]) rfl ⟨rfl, HX0.out.trans HX4.out⟩
        obtain ⟨x, y, rfl⟩ : ∃ x y, l = [x, y] := by
          match l, hlen with
          | [x, y], _ => exact ⟨x, y, rfl⟩
        have hr : res = (x, y, true) := HR.out
        subst hr
        simp only [List.length_cons, List.length_nil, Nat.zero_add, Nat.reduceAdd] at HOW ⊢
        obtain ⟨lb, lo, rfl, hcx⟩ := HOW.out.at (show ([x, y] : List UInt64)[0]? = some x from rfl)
        obtain ⟨lb', lo', he, hcy⟩ := HOW.out.at (show ([x, y] : List UInt64)[1]? = some y from rfl)
        injection he with he
        injection he with he1 he2
        subst he1 he2
        have HCC := hid (fun (v : World) (k : Ext w4 v) => And.intro (k.cell_some hcx) (k.cell_some hcy))
        clear HR hlen hcx hcy
        go_wp2_with fail
        refine wp_region_T (fun v => (v.cell? ⟨lb, lo, none⟩ = some (uv x) ∧ v.cell? ⟨lb, lo + 1, none⟩ = some (uv y)) ∧ Ext w4 v) 7 [(0, true), (1, true), (2, true), (3, true), (4, true), (5, true), (6, true), (7, false), (8, false)] (by kernel_rfl) (by kernel_rfl) (by intro c a d v w h; cases d <;> exact h) ?_
        intro ops hops
        have HS := keep0 HCC.out
        iterate 7
          refine wpT_take (v := ?_) (by rw [hops, List.getElem?_toArray]; rfl) (by first | rfl | (rw [hops]; rfl)) ?_ HS ?_
          rotate_left
          · intro v h; go_simp; with_reducible rfl
          simp only [Act.put, List.getElem_toArray, List.getElem_cons_zero, List.getElem_cons_succ, List.setIfInBounds_toArray, List.set_cons_zero, List.set_cons_succ]
        clear HS
        refine wpT_step (by rw [hops, List.getElem?_toArray]; rfl) (by first | rfl | (rw [hops]; rfl)) ?_
        intro K hK
        go_wp2_with fail
        try (with_reducible refine ⟨fun h => absurd h (by decide), ?_⟩)
        try rw [← hops]
        refine wpT_step (by rw [hops, List.getElem?_toArray]; rfl) (by first | rfl | (rw [hops]; rfl)) ?_
        intro K hK
        go_wp2_with fail
        try (with_reducible refine ⟨fun h => absurd h (by decide), ?_⟩)
        try rw [wpT_nil]
        try clear hops ops
        go_wp2_with fail
        exact bodyPost_ret (v := .tuple #[uv x, uv y, .bool true]) (by simp [results, Tryz.results30, go_sem]) rfl ⟨rfl, (HX0.out.trans HX4.out).drew⟩
    | false =>
      have HO := hid (rOpenC_any k 0 _ c _ (HC.out.ext (HX0.out.trans HX3.out)).weak hL)
      have hrr := HRR.out
      simp only [Bool.false_eq_true, if_false] at hrr
      rw [← hrr] at HO
      clear hrr
      obtain ⟨l, ok⟩ := r
      clear HRR
      go_wp2_with fail
      refine (HO.out).mono ?_
      rintro e w4 ⟨v, rfl, hown, hx, -⟩
      simp only at hown ⊢
      obtain ⟨la, lc, rfl, -⟩ := ownsRow_rd hown
      have HX4 := hid (HX3.out.trans hx)
      have HOW := hid hown.rdu
      clear c0 c1 c2 c3 d0 d1 d2 d3 d4 d5 hown hx HO
      cases ok with
      | false =>
        have hr := HR.out
        rw [pick2_no] at hr
        subst hr
        clear HR
        go_wp2_with fail
        exact bodyPost_ret (v := .tuple #[uv 0, uv 0, .bool false]) (by simp [results, Tryz.results30, go_sem]) rfl ⟨rfl, HX0.out.trans HX4.out⟩
      | true =>
        by_cases hlen : l.length = 2
        case neg =>
          have hl2 : ((l.length : Int) != 2) = true := by simp; omega
          have hr := HR.out
          rw [pick2_len hlen] at hr
          subst hr
          clear HR hlen
          go_wp2_with fail
          exact bodyPost_ret (v := .tuple #[uv 0, uv 0, .bool false]) (by simp [results, Tryz.results30, go_sem]) rfl ⟨rfl, HX0.out.trans HX4.out⟩
        obtain ⟨x, y, rfl⟩ : ∃ x y, l = [x, y] := by
          match l, hlen with
          | [x, y], _ => exact ⟨x, y, rfl⟩
        have hr : res = (x, y, true) := HR.out
        subst hr
        simp only [List.length_cons, List.length_nil, Nat.zero_add, Nat.reduceAdd] at HOW ⊢
        obtain ⟨lb, lo, rfl, hcx⟩ := HOW.out.at (show ([x, y] : List UInt64)[0]? = some x from rfl)
        obtain ⟨lb', lo', he, hcy⟩ := HOW.out.at (show ([x, y] : List UInt64)[1]? = some y from rfl)
        injection he with he
        injection he with he1 he2
        subst he1 he2
        have HCC := hid (fun (v : World) (k : Ext w4 v) => And.intro (k.cell_some hcx) (k.cell_some hcy))
        clear HR hlen hcx hcy
        go_wp2_with fail
        refine wp_region_T (fun v => (v.cell? ⟨lb, lo, none⟩ = some (uv x) ∧ v.cell? ⟨lb, lo + 1, none⟩ = some (uv y)) ∧ Ext w4 v) 7 [(0, true), (1, true), (2, true), (3, true), (4, true), (5, true), (6, true), (7, false), (8, false)] (by kernel_rfl) (by kernel_rfl) (by intro c a d v w h; cases d <;> exact h) ?_
        intro ops hops
        have HS := keep0 HCC.out
        iterate 7
          refine wpT_take (v := ?_) (by rw [hops, List.getElem?_toArray]; rfl) (by first | rfl | (rw [hops]; rfl)) ?_ HS ?_
          rotate_left
          · intro v h; go_simp; with_reducible rfl
          simp only [Act.put, List.getElem_toArray, List.getElem_cons_zero, List.getElem_cons_succ, List.setIfInBounds_toArray, List.set_cons_zero, List.set_cons_succ]
        clear HS
        refine wpT_step (by rw [hops, List.getElem?_toArray]; rfl) (by first | rfl | (rw [hops]; rfl)) ?_
        intro K hK
        go_wp2_with fail
        try (with_reducible refine ⟨fun h => absurd h (by decide), ?_⟩)
        try rw [← hops]
        refine wpT_step (by rw [hops, List.getElem?_toArray]; rfl) (by first | rfl | (rw [hops]; rfl)) ?_
        intro K hK
        go_wp2_with fail
        try (with_reducible refine ⟨fun h => absurd h (by decide), ?_⟩)
        try rw [wpT_nil]
        try clear hops ops
        go_wp2_with fail
        exact bodyPost_ret (v := .tuple #[uv x, uv y, .bool true]) (by simp [results, Tryz.results30, go_sem]) rfl ⟨rfl, (HX0.out.trans HX4.out).drew⟩
end Go.Proofs.YtgfmjfkdogcnhaaGreat
