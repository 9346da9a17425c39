/- The reference's Seal of envelopes. -/
import Derived.Test.YtgfmjfkdogcnhaaGreatRefEnv
set_option linter.unusedSimpArgs false
namespace Go.Proofs.YtgfmjfkdogcnhaaGreat
open Go.RowKit
attribute [local irreducible] perm fAdd fMul fPow fSub fNeg fRed hashU drawOf nextState cipSeal
theorem alloc_step (w : World) (o : Obj) {N : Nat} (h : w.heap.size = N) : (w.alloc o).heap[N]? = some o ∧ (w.alloc o).heap.size = N + 1 ∧ Ext w (w.alloc o) := by
  subst h
  exact ⟨heap_new w o, by simp, (Ext.refl w).alloc o⟩
theorem addSeal_ideal (M : Orc) (s : Sl) : (M.addSeal s).ideal = M.ideal := rfl
theorem addSeal_seals (M : Orc) (s : Sl) : (M.addSeal s).seals = M.seals ++ [s] := rfl
theorem addSeal_draws (M : Orc) (s : Sl) : (M.addSeal s).draws = M.draws := rfl
theorem addSeal_state (M : Orc) (s : Sl) : (M.addSeal s).state = M.state := rfl
theorem addSeal_qs (M : Orc) (s : Sl) : (M.addSeal s).qs = M.qs := rfl
theorem rseal_ideal (M : Orc) (k nc : UInt64) (l : List UInt64) : (M.rseal k nc l).2.ideal = M.ideal := by
  unfold Orc.rseal
  generalize cipE k nc l = b
  cases b with
  | false => rfl
  | true =>
    rw [if_pos rfl]
    generalize takeL M (l.length + 1) = o
    have h := steps_ideal M (l.length + 1)
    generalize M.steps (l.length + 1) = N at *
    exact (addSeal_ideal N _).trans h
def Orc.rsealT (M : Orc) (k nc : UInt64) (l : List UInt64) : List UInt64 × Orc := if M.ideal then M.rseal k nc l else (if cipE k nc l then cipSeal k nc l else [], M)
def Orc.rEnvSeal (M : Orc) (a : E2) (n : Nt) (e : UInt64) : (E2 × List UInt64) × Orc :=
  if validP a && n.ok then ((pPublic e, (M.rsealT (envKey (pShared a e) (pPublic e)) 0 [n.value, n.blind]).1), (M.rsealT (envKey (pShared a e) (pPublic e)) 0 [n.value, n.blind]).2) else ((⟨0, 0⟩, []), M)
def REnvSealO (G : Nat → Prop) (w : World) (qv pv : Value) (r : (E2 × List UInt64) × Orc) (e : Ending) (w' : World) : Prop :=
  ∃ v sv, e = .returned (.tuple #[r.1.1.v, v, plVal r.2.ideal r.2.state r.2.draws qv sv pv]) ∧ StS G w' sv r.2.seals ∧ (∀ w'', Kp G w' w'' → RdU w'' v r.1.2) ∧ Ext w w'
theorem five_setP' {w : World} {b : Nat} {c0 c1 c2 c3 c4 c5 d0 d1 d2 d3 d4 : Value} {T : TypeId} (h : w.heap[b]? = some (.cells #[c0, c1, c2, c3, c4, c5] T (0, 0))) :
    (((((w.setCell ⟨b, 0, none⟩ d0).setCell ⟨b, 1, none⟩ d1).setCell ⟨b, 2, none⟩ d2).setCell ⟨b, 3, none⟩ d3).setCell ⟨b, 4, none⟩ d4).heap[b]? = some (.cells #[d0, d1, d2, d3, d4, c5] T (0, 0)) ∧
      Kp (fun k => k = b) w (((((w.setCell ⟨b, 0, none⟩ d0).setCell ⟨b, 1, none⟩ d1).setCell ⟨b, 2, none⟩ d2).setCell ⟨b, 3, none⟩ d3).setCell ⟨b, 4, none⟩ d4) :=
  ⟨heap_setCell_same (heap_setCell_same (heap_setCell_same (heap_setCell_same (heap_setCell_same h 0 d0) 1 d1) 2 d2) 3 d3) 4 d4,
   (((((Kp.refl (fun k => k = b) w).setCell (p := ⟨b, 0, none⟩) (.inl rfl) _).setCell (p := ⟨b, 1, none⟩) (.inl rfl) _).setCell (p := ⟨b, 2, none⟩) (.inl rfl) _).setCell (p := ⟨b, 3, none⟩) (.inl rfl) _).setCell (p := ⟨b, 4, none⟩) (.inl rfl) _⟩
theorem six_setP {w : World} {b : Nat} {c0 c1 c2 c3 c4 c5 d0 d1 d2 d3 d4 d5 : Value} {T : TypeId} (h : w.heap[b]? = some (.cells #[c0, c1, c2, c3, c4, c5] T (0, 0))) :
    ((((((w.setCell ⟨b, 0, none⟩ d0).setCell ⟨b, 1, none⟩ d1).setCell ⟨b, 2, none⟩ d2).setCell ⟨b, 3, none⟩ d3).setCell ⟨b, 4, none⟩ d4).setCell ⟨b, 5, none⟩ d5).heap[b]? = some (.cells #[d0, d1, d2, d3, d4, d5] T (0, 0)) ∧
      Kp (fun k => k = b) w ((((((w.setCell ⟨b, 0, none⟩ d0).setCell ⟨b, 1, none⟩ d1).setCell ⟨b, 2, none⟩ d2).setCell ⟨b, 3, none⟩ d3).setCell ⟨b, 4, none⟩ d4).setCell ⟨b, 5, none⟩ d5) := by
  obtain ⟨h1, h2⟩ := five_setP' (d0 := d0) (d1 := d1) (d2 := d2) (d3 := d3) (d4 := d4) h
  exact ⟨heap_setCell_same h1 5 d5, h2.setCell (p := ⟨b, 5, none⟩) (.inl rfl) _⟩
/-- A model's five cells written into a place. -/
theorem model_setP {w : World} {b : Nat} {c0 c1 c2 c3 c4 c5 d1 d2 d3 d4 d5 : Value} {T : TypeId} (h : w.heap[b]? = some (.cells #[c0, c1, c2, c3, c4, c5] T (0, 0))) :
    (((((w.setCell ⟨b, 1, none⟩ d1).setCell ⟨b, 2, none⟩ d2).setCell ⟨b, 3, none⟩ d3).setCell ⟨b, 4, none⟩ d4).setCell ⟨b, 5, none⟩ d5).heap[b]? = some (.cells #[c0, d1, d2, d3, d4, d5] T (0, 0)) ∧
      Kp (fun k => k = b) w (((((w.setCell ⟨b, 1, none⟩ d1).setCell ⟨b, 2, none⟩ d2).setCell ⟨b, 3, none⟩ d3).setCell ⟨b, 4, none⟩ d4).setCell ⟨b, 5, none⟩ d5) :=
  ⟨heap_setCell_same (heap_setCell_same (heap_setCell_same (heap_setCell_same (heap_setCell_same h 1 d1) 2 d2) 3 d3) 4 d4) 5 d5,
   (((((Kp.refl (fun k => k = b) w).setCell (p := ⟨b, 1, none⟩) (.inl rfl) _).setCell (p := ⟨b, 2, none⟩) (.inl rfl) _).setCell (p := ⟨b, 3, none⟩) (.inl rfl) _).setCell (p := ⟨b, 4, none⟩) (.inl rfl) _).setCell (p := ⟨b, 5, none⟩) (.inl rfl) _⟩
def zero6 : Obj := .cells #[.bool false, .int .u64 0, .int .i64 0, .slice none 0 0, .slice none 0 0, .slice none 0 0] 38
structure BoxS (w w0 : World) (N : Nat) (oP oA oN : Obj) : Prop where
  ex : Ext w w0
  b0 : w0.heap[N]? = some oP
  b1 : w0.heap[N + 1]? = some oA
  b2 : w0.heap[N + 1 + 1]? = some oN
  b3 : w0.heap[N + 1 + 1 + 1]? = some zero2
  b4 : w0.heap[N + 1 + 1 + 1 + 1]? = some (.cells #[.bool false, .int .u64 0, .int .i64 0, .slice none 0 0, .slice none 0 0, .slice none 0 0] 38)
theorem BoxS.make (w : World) (oP oA oN : Obj) : BoxS w (((((w.alloc oP).alloc oA).alloc oN).alloc zero2).alloc (.cells #[.bool false, .int .u64 0, .int .i64 0, .slice none 0 0, .slice none 0 0, .slice none 0 0] 38)) w.heap.size oP oA oN := by
  obtain ⟨a0, s0, x0⟩ := alloc_step w oP rfl
  obtain ⟨a1, s1, x1⟩ := alloc_step (w.alloc oP) oA s0
  obtain ⟨a2, s2, x2⟩ := alloc_step ((w.alloc oP).alloc oA) oN s1
  obtain ⟨a3, s3, x3⟩ := alloc_step (((w.alloc oP).alloc oA).alloc oN) zero2 s2
  obtain ⟨a4, s4, x4⟩ := alloc_step ((((w.alloc oP).alloc oA).alloc oN).alloc zero2) (.cells #[.bool false, .int .u64 0, .int .i64 0, .slice none 0 0, .slice none 0 0, .slice none 0 0] 38) s3
  exact ⟨x0.trans (x1.trans (x2.trans (x3.trans x4))), x4.heap_some (x3.heap_some (x2.heap_some (x1.heap_some a0))), x4.heap_some (x3.heap_some (x2.heap_some a1)), x4.heap_some (x3.heap_some a2), x4.heap_some a3, a4⟩
set_option maxRecDepth 100000 in
set_option maxHeartbeats 12800000 in
theorem rEnvSeal_any {G : Nat → Prop} {w : World} {M : Orc} {qv sv pv : Value} {num : Int} {owner : UInt64} {a : E2} {n : Nt} {ex : UInt64} (hq : isSl qv) (hp : isSl pv) (hs : StS G w sv M.seals) (hG : ∀ k, G k → k < w.heap.size) (hS : M.seals.length ≤ 1000000) (hd : M.draws ≤ 1000000000) :
    Calls Tryz.prog 47 #[plVal M.ideal M.state M.draws qv sv pv, .agg #[.int .i64 num, uv owner, uv a.a, uv a.b], nvl n, uv ex] w (REnvSealO G w qv pv (M.rEnvSeal a n ex)) := by
  obtain ⟨qa, qn, qc, rfl⟩ := hq
  obtain ⟨pa, pn, pc, rfl⟩ := hp
  obtain ⟨sa, sc, rfl⟩ := hs.now.len
  obtain ⟨N, hN⟩ : ∃ N, N = w.heap.size := ⟨_, rfl⟩
  obtain ⟨w0, hw0⟩ : ∃ w0, w0 = ((((w.alloc (.cells #[.bool M.ideal, uv M.state, .int .i64 (M.draws : Int), .slice qa qn qc, .slice sa M.seals.length sc, .slice pa pn pc] 38)).alloc (.cells #[.int .i64 num, uv owner, uv a.a, uv a.b] 51)).alloc (.cells #[uv n.value, uv n.owner, uv n.rho, uv n.blind] 42)).alloc zero2).alloc (.cells #[.bool false, .int .u64 0, .int .i64 0, .slice none 0 0, .slice none 0 0, .slice none 0 0] 38) := ⟨_, rfl⟩
  have hB : BoxS w w0 N (.cells #[.bool M.ideal, uv M.state, .int .i64 (M.draws : Int), .slice qa qn qc, .slice sa M.seals.length sc, .slice pa pn pc] 38) (.cells #[.int .i64 num, uv owner, uv a.a, uv a.b] 51) (.cells #[uv n.value, uv n.owner, uv n.rho, uv n.blind] 42) := by rw [hw0, hN]; exact BoxS.make w _ _ _
  have HB := hid hB
  have HW := hid hw0
  have HN := hid hN
  have HST := hid hs
  have HG := hid hG
  have HSD := hid (And.intro hS hd)
  have HA : Hid (∀ v, Ext w0 v → (v.cell? ⟨N + 1, 0, none⟩ = some (.int .i64 num) ∧ v.cell? ⟨N + 1, 1, none⟩ = some (uv owner) ∧ v.cell? ⟨N + 1, 2, none⟩ = some (uv a.a) ∧ v.cell? ⟨N + 1, 3, none⟩ = some (uv a.b))) := hid fun v k => four_cells (k.heap_some hB.b1)
  have HNT : Hid (∀ v, Ext w0 v → (v.cell? ⟨N + 1 + 1, 0, none⟩ = some (uv n.value) ∧ v.cell? ⟨N + 1 + 1, 1, none⟩ = some (uv n.owner) ∧ v.cell? ⟨N + 1 + 1, 2, none⟩ = some (uv n.rho) ∧ v.cell? ⟨N + 1 + 1, 3, none⟩ = some (uv n.blind))) := hid fun v k => four_cells (k.heap_some hB.b2)
  obtain ⟨c0, c1, c2, c3⟩ := HA.out w0 (Ext.refl _)
  obtain ⟨res, hres⟩ : ∃ res, res = M.rEnvSeal a n ex := ⟨_, rfl⟩
  rw [← hres]
  have HRES := hid hres
  clear hw0 hB hs hG hS hd hres
  go_enter Tryz.func47, Tryz.ntmps47
  go_upto_region 1 with fail
  rw [← HW.out, ← hN]
  clear hN
  go_wp2_with fail
  refine (rpValid_any a _).mono ?_
  rintro e w1 ⟨rfl, hx⟩
  have HX1 := hid hx
  clear hx c0 c1 c2 c3
  cases hv : validP a with
  | false =>
    have hr : res = ((⟨0, 0⟩, []), M) := by rw [HRES.out]; unfold Orc.rEnvSeal; rw [hv]; rfl
    clear hv HRES
    go_wp2_with fail
    have H2 : Hid (∀ v, Kp (fun k => k = N + 1 + 1 + 1 ∨ k = N + 1 + 1 + 1 + 1) w1 v → v.cell? ⟨N, 0, none⟩ = some (.bool M.ideal) ∧ v.cell? ⟨N, 1, none⟩ = some (uv M.state) ∧ v.cell? ⟨N, 2, none⟩ = some (.int .i64 (M.draws : Int)) ∧ v.cell? ⟨N, 3, none⟩ = some (.slice qa qn qc) ∧ v.cell? ⟨N, 4, none⟩ = some (.slice sa M.seals.length sc) ∧ v.cell? ⟨N, 5, none⟩ = some (.slice pa pn pc)) := hid fun v k => six_cellsP (k.heap_some (by omega) (HX1.out.heap_some HB.out.b0))
    refine wp_region_T (fun v => (v.cell? ⟨N, 0, none⟩ = some (.bool M.ideal) ∧ v.cell? ⟨N, 1, none⟩ = some (uv M.state) ∧ v.cell? ⟨N, 2, none⟩ = some (.int .i64 (M.draws : Int)) ∧ v.cell? ⟨N, 3, none⟩ = some (.slice qa qn qc) ∧ v.cell? ⟨N, 4, none⟩ = some (.slice sa M.seals.length sc) ∧ v.cell? ⟨N, 5, none⟩ = some (.slice pa pn pc)) ∧ Kp (fun k => k = N + 1 + 1 + 1 ∨ k = N + 1 + 1 + 1 + 1) w1 v) 4 [(0, true), (1, true), (2, false), (3, true), (4, false)] (by kernel_rfl) (by kernel_rfl) (by intro c a d v w h; cases d <;> exact h) ?_
    intro ops hops
    have HSx := And.intro (H2.out _ (Kp.refl _ w1).drew) (Kp.refl (fun k => k = N + 1 + 1 + 1 ∨ k = N + 1 + 1 + 1 + 1) w1).drew
    iterate 2
      refine wpT_take (v := ?_) (by rw [hops, List.getElem?_toArray]; rfl) (by first | rfl | (rw [hops]; rfl)) ?_ HSx ?_
      rotate_left
      · intro v h; go_simp; with_reducible rfl
      simp only [Act.put, List.getElem_toArray, List.getElem_cons_zero, List.getElem_cons_succ, List.setIfInBounds_toArray, List.set_cons_zero, List.set_cons_succ]
    have hb3 := HX1.out.heap_some HB.out.b3
    obtain ⟨k0, k1⟩ := two_cells hb3
    have kf := frozen_of hb3
    obtain ⟨hb3', hk3⟩ := two_set (d0 := .int .u64 0) (d1 := .int .u64 0) hb3
    have HB3 := hid hb3'
    have HK3 : Hid (Kp (fun k => k = N + 1 + 1 + 1 ∨ k = N + 1 + 1 + 1 + 1) w1 _) := hid (hk3.mono fun k _ h => .inl h)
    have HB4 := hid (hk3.heap_some (by omega) (HX1.out.heap_some HB.out.b4))
    clear hb3 hb3' hk3
    refine wpT_step (by rw [hops, List.getElem?_toArray]; rfl) (by first | rfl | (rw [hops]; rfl)) ?_
    intro K hK
    go_wp2_with fail
    refine ⟨fun _ => And.intro (H2.out _ HK3.out.drew) HK3.out.drew, ?_⟩
    generalize (w1.setCell ⟨N + 1 + 1 + 1, 0, none⟩ (.int .u64 0)).setCell ⟨N + 1 + 1 + 1, 1, none⟩ (.int .u64 0) = wY at *
    have HSy := And.intro (H2.out _ HK3.out.drew) HK3.out.drew
    iterate 1
      refine wpT_take (v := ?_) (by rw [hops, List.getElem?_toArray]; rfl) (by first | rfl | (rw [hops]; rfl)) ?_ HSy ?_
      rotate_left
      · intro v h; go_simp; with_reducible rfl
      simp only [Act.put, List.getElem_toArray, List.getElem_cons_zero, List.getElem_cons_succ, List.setIfInBounds_toArray, List.set_cons_zero, List.set_cons_succ]
    clear HSx HSy k0 k1 kf
    obtain ⟨k0, k1, k2, k3, k4, k5⟩ := six_cellsP HB4.out
    have kf := frozen_of HB4.out
    obtain ⟨hb5, hk5⟩ := six_setP (d0 := .bool M.ideal) (d1 := uv M.state) (d2 := .int .i64 (M.draws : Int)) (d3 := .slice qa qn qc) (d4 := .slice sa M.seals.length sc) (d5 := .slice pa pn pc) HB4.out
    obtain ⟨r0, r1, r2, r3, r4, r5⟩ := six_cellsP hb5
    obtain ⟨q0, q1⟩ := two_cells (hk5.heap_some (by omega) HB3.out)
    have hkf := (HK3.out.trans (hk5.mono (G := fun k => k = N + 1 + 1 + 1 ∨ k = N + 1 + 1 + 1 + 1) fun k _ h => .inr h)).drew
    have hfin := (HB.out.ex.trans HX1.out).kp hkf (fun k h => by have := HN.out; omega)
    have HF := hid (And.intro hfin (And.intro r0 (And.intro r1 (And.intro r2 (And.intro r3 (And.intro r4 (And.intro r5 (And.intro q0 q1))))))))
    clear hb5 hk5 r0 r1 r2 r3 r4 r5 q0 q1 hkf hfin
    refine wpT_step (by rw [hops, List.getElem?_toArray]; rfl) (by first | rfl | (rw [hops]; rfl)) ?_
    intro K hK
    go_wp2_with fail
    try (with_reducible refine ⟨fun h => absurd h (by decide), ?_⟩)
    try rw [wpT_nil]
    try clear hops ops
    go_wp2_with fail
    obtain ⟨hfin, r0, r1, r2, r3, r4, r5, q0, q1⟩ := HF.out
    refine bodyPost_ret (v := .tuple #[.agg #[.int .u64 0, .int .u64 0], .slice none 0 0, plVal M.ideal M.state M.draws (.slice qa qn qc) (.slice sa M.seals.length sc) (.slice pa pn pc)]) (by simp [results, Tryz.results47, go_sem, r0, r1, r2, r3, r4, r5, q0, q1]) rfl ?_
    rw [hr]
    exact ⟨_, _, rfl, HST.out.grow (.of_ext hfin) (fun i h => .inl h), fun w'' _ => (RdC.nil w'').rdu rfl, hfin⟩
  | true =>
    have HV := hid hv
    obtain ⟨c0, c1, c2, c3⟩ := HNT.out w1 HX1.out
    clear hv
    go_wp2_with fail
    refine (refValid_any n _).mono ?_
    rintro e w2 ⟨rfl, hx⟩
    have HX2 := hid (HX1.out.trans hx)
    clear hx c0 c1 c2 c3
    cases hok : n.ok with
    | false =>
      have hr : res = ((⟨0, 0⟩, []), M) := by rw [HRES.out]; unfold Orc.rEnvSeal; rw [HV.out, hok]; rfl
      clear hok HRES
      go_wp2_with fail
      have H2 : Hid (∀ v, Kp (fun k => k = N + 1 + 1 + 1 ∨ k = N + 1 + 1 + 1 + 1) w2 v → v.cell? ⟨N, 0, none⟩ = some (.bool M.ideal) ∧ v.cell? ⟨N, 1, none⟩ = some (uv M.state) ∧ v.cell? ⟨N, 2, none⟩ = some (.int .i64 (M.draws : Int)) ∧ v.cell? ⟨N, 3, none⟩ = some (.slice qa qn qc) ∧ v.cell? ⟨N, 4, none⟩ = some (.slice sa M.seals.length sc) ∧ v.cell? ⟨N, 5, none⟩ = some (.slice pa pn pc)) := hid fun v k => six_cellsP (k.heap_some (by omega) (HX2.out.heap_some HB.out.b0))
      refine wp_region_T (fun v => (v.cell? ⟨N, 0, none⟩ = some (.bool M.ideal) ∧ v.cell? ⟨N, 1, none⟩ = some (uv M.state) ∧ v.cell? ⟨N, 2, none⟩ = some (.int .i64 (M.draws : Int)) ∧ v.cell? ⟨N, 3, none⟩ = some (.slice qa qn qc) ∧ v.cell? ⟨N, 4, none⟩ = some (.slice sa M.seals.length sc) ∧ v.cell? ⟨N, 5, none⟩ = some (.slice pa pn pc)) ∧ Kp (fun k => k = N + 1 + 1 + 1 ∨ k = N + 1 + 1 + 1 + 1) w2 v) 4 [(0, true), (1, true), (2, false), (3, true), (4, false)] (by kernel_rfl) (by kernel_rfl) (by intro c a d v w h; cases d <;> exact h) ?_
      intro ops hops
      have HSx := And.intro (H2.out _ (Kp.refl _ w2).drew) (Kp.refl (fun k => k = N + 1 + 1 + 1 ∨ k = N + 1 + 1 + 1 + 1) w2).drew
      iterate 2
        refine wpT_take (v := ?_) (by rw [hops, List.getElem?_toArray]; rfl) (by first | rfl | (rw [hops]; rfl)) ?_ HSx ?_
        rotate_left
        · intro v h; go_simp; with_reducible rfl
        simp only [Act.put, List.getElem_toArray, List.getElem_cons_zero, List.getElem_cons_succ, List.setIfInBounds_toArray, List.set_cons_zero, List.set_cons_succ]
      have hb3 := HX2.out.heap_some HB.out.b3
      obtain ⟨k0, k1⟩ := two_cells hb3
      have kf := frozen_of hb3
      obtain ⟨hb3', hk3⟩ := two_set (d0 := .int .u64 0) (d1 := .int .u64 0) hb3
      have HB3 := hid hb3'
      have HK3 : Hid (Kp (fun k => k = N + 1 + 1 + 1 ∨ k = N + 1 + 1 + 1 + 1) w2 _) := hid (hk3.mono fun k _ h => .inl h)
      have HB4 := hid (hk3.heap_some (by omega) (HX2.out.heap_some HB.out.b4))
      clear hb3 hb3' hk3
      refine wpT_step (by rw [hops, List.getElem?_toArray]; rfl) (by first | rfl | (rw [hops]; rfl)) ?_
      intro K hK
      go_wp2_with fail
      refine ⟨fun _ => And.intro (H2.out _ HK3.out.drew) HK3.out.drew, ?_⟩
      generalize (w2.setCell ⟨N + 1 + 1 + 1, 0, none⟩ (.int .u64 0)).setCell ⟨N + 1 + 1 + 1, 1, none⟩ (.int .u64 0) = wY at *
      have HSy := And.intro (H2.out _ HK3.out.drew) HK3.out.drew
      iterate 1
        refine wpT_take (v := ?_) (by rw [hops, List.getElem?_toArray]; rfl) (by first | rfl | (rw [hops]; rfl)) ?_ HSy ?_
        rotate_left
        · intro v h; go_simp; with_reducible rfl
        simp only [Act.put, List.getElem_toArray, List.getElem_cons_zero, List.getElem_cons_succ, List.setIfInBounds_toArray, List.set_cons_zero, List.set_cons_succ]
      clear HSx HSy k0 k1 kf
      obtain ⟨k0, k1, k2, k3, k4, k5⟩ := six_cellsP HB4.out
      have kf := frozen_of HB4.out
      obtain ⟨hb5, hk5⟩ := six_setP (d0 := .bool M.ideal) (d1 := uv M.state) (d2 := .int .i64 (M.draws : Int)) (d3 := .slice qa qn qc) (d4 := .slice sa M.seals.length sc) (d5 := .slice pa pn pc) HB4.out
      obtain ⟨r0, r1, r2, r3, r4, r5⟩ := six_cellsP hb5
      obtain ⟨q0, q1⟩ := two_cells (hk5.heap_some (by omega) HB3.out)
      have hkf := (HK3.out.trans (hk5.mono (G := fun k => k = N + 1 + 1 + 1 ∨ k = N + 1 + 1 + 1 + 1) fun k _ h => .inr h)).drew
      have hfin := (HB.out.ex.trans HX2.out).kp hkf (fun k h => by have := HN.out; omega)
      have HF := hid (And.intro hfin (And.intro r0 (And.intro r1 (And.intro r2 (And.intro r3 (And.intro r4 (And.intro r5 (And.intro q0 q1))))))))
      clear hb5 hk5 r0 r1 r2 r3 r4 r5 q0 q1 hkf hfin
      refine wpT_step (by rw [hops, List.getElem?_toArray]; rfl) (by first | rfl | (rw [hops]; rfl)) ?_
      intro K hK
      go_wp2_with fail
      try (with_reducible refine ⟨fun h => absurd h (by decide), ?_⟩)
      try rw [wpT_nil]
      try clear hops ops
      go_wp2_with fail
      obtain ⟨hfin, r0, r1, r2, r3, r4, r5, q0, q1⟩ := HF.out
      refine bodyPost_ret (v := .tuple #[.agg #[.int .u64 0, .int .u64 0], .slice none 0 0, plVal M.ideal M.state M.draws (.slice qa qn qc) (.slice sa M.seals.length sc) (.slice pa pn pc)]) (by simp [results, Tryz.results47, go_sem, r0, r1, r2, r3, r4, r5, q0, q1]) rfl ?_
      rw [hr]
      exact ⟨_, _, rfl, HST.out.grow (.of_ext hfin) (fun i h => .inl h), fun w'' _ => (RdC.nil w'').rdu rfl, hfin⟩
    | true =>
      have hr : res = ((pPublic ex, (M.rsealT (envKey (pShared a ex) (pPublic ex)) 0 [n.value, n.blind]).1), (M.rsealT (envKey (pShared a ex) (pPublic ex)) 0 [n.value, n.blind]).2) := by rw [HRES.out]; unfold Orc.rEnvSeal; rw [HV.out, hok]; rfl
      have HR := hid hr
      clear hok hr HRES
      go_wp2_with fail
      refine (rPublic_any ex _).mono ?_
      rintro e w3 ⟨rfl, hx⟩
      generalize hq : pPublic ex = q at *
      have HX3 := hid ((HX2.out.trans hx).alloc q.o)
      have HQ := hid (heap_new w3 q.o)
      have HSZ3 := hid (show N + 1 + 1 + 1 + 1 < w3.heap.size from heap_lt ((HX2.out.trans hx).heap_some HB.out.b4))
      clear hx hq
      go_upto_region 4 with fail
      obtain ⟨R, hR⟩ : ∃ R, R = w3.heap.size := ⟨_, rfl⟩
      obtain ⟨w4, hw4⟩ : ∃ w4, w4 = w3.alloc q.o := ⟨_, rfl⟩
      rw [← hw4, ← hR]
      rw [← hw4] at HX3
      rw [← hw4, ← hR] at HQ
      have HWR := hid (show N + 1 + 1 + 1 + 1 < R by rw [hR]; exact HSZ3.out)
      clear hw4 hR
      have H4 : Hid (∀ v, Ext w4 v → (v.cell? ⟨N + 1, 2, none⟩ = some (uv a.a) ∧ v.cell? ⟨N + 1, 3, none⟩ = some (uv a.b)) ∧ (v.cell? ⟨R, 0, none⟩ = some (uv q.a) ∧ v.cell? ⟨R, 1, none⟩ = some (uv q.b))) := hid fun v k => ⟨(HA.out v (HX3.out.trans k)).2.2, two_cells (k.heap_some HQ.out)⟩
      refine wp_region_T (fun v => ((v.cell? ⟨N + 1, 2, none⟩ = some (uv a.a) ∧ v.cell? ⟨N + 1, 3, none⟩ = some (uv a.b)) ∧ (v.cell? ⟨R, 0, none⟩ = some (uv q.a) ∧ v.cell? ⟨R, 1, none⟩ = some (uv q.b))) ∧ Ext w4 v) 5 [(0, true), (1, true), (2, true), (4, true), (3, false), (5, false), (6, false)] (by kernel_rfl) (by kernel_rfl) (by intro c a d v w h; cases d <;> exact h) ?_
      intro ops hops
      have HS := keep0 H4.out
      iterate 4
        refine wpT_take (v := ?_) (by rw [hops, List.getElem?_toArray]; rfl) (by first | rfl | (rw [hops]; rfl)) ?_ HS ?_
        rotate_left
        · intro v h; go_simp; with_reducible rfl
        simp only [Act.put, List.getElem_toArray, List.getElem_cons_zero, List.getElem_cons_succ, List.setIfInBounds_toArray, List.set_cons_zero, List.set_cons_succ]
      refine wpT_step (by rw [hops, List.getElem?_toArray]; rfl) (by first | rfl | (rw [hops]; rfl)) ?_
      intro K hK
      go_wp2_with fail
      refine (rShared_any a ex _).mono ?_
      rintro e w5 ⟨rfl, hx⟩
      have HS1 := keepE H4.out HS hx
      clear HS hx
      refine hK _ _ ⟨fun _ => HS1, ?_⟩
      clear hK K
      refine wpT_step (by rw [hops, List.getElem?_toArray]; rfl) (by first | rfl | (rw [hops]; rfl)) ?_
      intro K hK
      go_wp2_with fail
      refine (rKey_any (pShared a ex) q _).mono ?_
      rintro e w6 ⟨rfl, hx⟩
      have HX6 := hid (HX3.out.trans (HS1.2.trans hx))
      have HX46 := hid (HS1.2.trans hx)
      clear HS1 hx
      refine hK _ _ ⟨fun h => absurd h (by decide), ?_⟩
      clear hK K
      refine wpT_step (by rw [hops, List.getElem?_toArray]; rfl) (by first | rfl | (rw [hops]; rfl)) ?_
      intro K hK
      go_wp2_with fail
      try (with_reducible refine ⟨fun h => absurd h (by decide), ?_⟩)
      try rw [wpT_nil]
      try clear hops ops
      generalize envKey (pShared a ex) q = k at *
      obtain ⟨c0, c1, c2, c3⟩ := HNT.out w6 HX6.out
      have hx7 := (Ext.refl w6).alloc (.cells #[uv n.value, uv n.blind] 22)
      have HPL : Hid (RdU (w6.alloc (.cells #[uv n.value, uv n.blind] 22)) (.slice (some ⟨w6.heap.size, 0, none⟩) 2 2) [n.value, n.blind]) := hid ((RdC.block (heap_new w6 _) (n := 2) (by unfold maxLen; omega)).rdu rfl)
      go_upto_region 6 with fail
      obtain ⟨w7, hw7⟩ : ∃ w7, w7 = w6.alloc (.cells #[uv n.value, uv n.blind] 22) := ⟨_, rfl⟩
      rw [← hw7] at HPL hx7 ⊢
      have HX7 := hid (HX6.out.trans hx7)
      have HQ7 := hid ((HX46.out.trans hx7).heap_some HQ.out)
      generalize w6.heap.size = lb at *
      clear c0 c1 c2 c3 hx7 hw7 HX46 HQ H4
      have HP7 := hid (HX7.out.heap_some HB.out.b0)
      have HC3 := hid (HX7.out.heap_some HB.out.b3)
      have HC4 := hid (HX7.out.heap_some HB.out.b4)
      obtain ⟨p0, p1, p2, p3, p4, p5⟩ := six_cellsP HP7.out
      cases hI : M.ideal with
      | false =>
        have hr := HR.out
        unfold Orc.rsealT at hr
        rw [hI] at hr p0
        simp only [Bool.false_eq_true, if_false] at hr
        have HRR := hid hr
        have HI := hid hI
        clear hI hr HR
        have hp7 := HP7.out
        rw [HI.out] at hp7
        have HP7F := hid hp7
        clear hp7 p0 p1 p2 p3 p4 p5
        have H7 : Hid (∀ v, Kp (fun k => k = N + 1 + 1 + 1 ∨ k = N + 1 + 1 + 1 + 1) w7 v → (v.cell? ⟨R, 0, none⟩ = some (uv q.a) ∧ v.cell? ⟨R, 1, none⟩ = some (uv q.b)) ∧ v.cell? ⟨N, 0, none⟩ = some (.bool false) ∧ v.cell? ⟨N, 1, none⟩ = some (uv M.state) ∧ v.cell? ⟨N, 2, none⟩ = some (.int .i64 (M.draws : Int)) ∧ v.cell? ⟨N, 3, none⟩ = some (.slice qa qn qc) ∧ v.cell? ⟨N, 4, none⟩ = some (.slice sa M.seals.length sc) ∧ v.cell? ⟨N, 5, none⟩ = some (.slice pa pn pc)) := hid fun v kk => ⟨two_cells (kk.heap_some (by have := HWR.out; omega) HQ7.out), six_cellsP (kk.heap_some (by omega) HP7F.out)⟩
        obtain ⟨p0, p1, p2, p3, p4, p5⟩ := six_cellsP HP7F.out
        go_wp2_with fail
        refine wp_region_T (fun v => ((v.cell? ⟨R, 0, none⟩ = some (uv q.a) ∧ v.cell? ⟨R, 1, none⟩ = some (uv q.b)) ∧ v.cell? ⟨N, 0, none⟩ = some (.bool false) ∧ v.cell? ⟨N, 1, none⟩ = some (uv M.state) ∧ v.cell? ⟨N, 2, none⟩ = some (.int .i64 (M.draws : Int)) ∧ v.cell? ⟨N, 3, none⟩ = some (.slice qa qn qc) ∧ v.cell? ⟨N, 4, none⟩ = some (.slice sa M.seals.length sc) ∧ v.cell? ⟨N, 5, none⟩ = some (.slice pa pn pc)) ∧ Kp (fun k => k = N + 1 + 1 + 1 ∨ k = N + 1 + 1 + 1 + 1) w7 v) 7 [(0, true), (1, true), (2, true), (4, true), (3, false), (5, false), (6, true), (7, false)] (by kernel_rfl) (by kernel_rfl) (by intro c a d v w h; cases d <;> exact h) ?_
        intro ops hops
        have HS := And.intro (H7.out _ (Kp.refl _ w7).drew) (Kp.refl (fun k => k = N + 1 + 1 + 1 ∨ k = N + 1 + 1 + 1 + 1) w7).drew
        iterate 4
          refine wpT_take (v := ?_) (by rw [hops, List.getElem?_toArray]; rfl) (by first | rfl | (rw [hops]; rfl)) ?_ HS ?_
          rotate_left
          · intro v h; go_simp; with_reducible rfl
          simp only [Act.put, List.getElem_toArray, List.getElem_cons_zero, List.getElem_cons_succ, List.setIfInBounds_toArray, List.set_cons_zero, List.set_cons_succ]
        clear p0 p1 p2 p3 p4 p5
        refine wpT_step (by rw [hops, List.getElem?_toArray]; rfl) (by first | rfl | (rw [hops]; rfl)) ?_
        intro K hK
        go_wp2_with fail
        refine (rSealC_any k 0 _ [n.value, n.blind] _ (HPL.out.ext (Ext.refl w7).drew).weak (by simp)).mono ?_
        rintro e w8 ⟨vo, rfl, hown, hx, hvn⟩
        generalize (if cipE k 0 [n.value, n.blind] = true then cipSeal k 0 [n.value, n.blind] else []) = out at *
        obtain ⟨oa, oc, rfl, -⟩ := ownsRow_rd hown
        have HX78 := hid ((Ext.refl w7).drew.trans hx)
        have HX8 := hid (HX7.out.trans HX78.out)
        have HXX8 := hid (HB.out.ex.trans HX8.out)
        have HOW := hid hown
        have HVN : Hid (∀ j, blk (.slice oa out.length oc) = some j → w7.heap.size ≤ j) := hid fun j h => hvn j h
        have HC38 := hid (HX78.out.heap_some HC3.out)
        have HC48 := hid (HX78.out.heap_some HC4.out)
        have H8 : Hid (∀ v, Kp (fun k => k = N + 1 + 1 + 1 ∨ k = N + 1 + 1 + 1 + 1) w8 v → (v.cell? ⟨R, 0, none⟩ = some (uv q.a) ∧ v.cell? ⟨R, 1, none⟩ = some (uv q.b)) ∧ v.cell? ⟨N, 0, none⟩ = some (.bool false) ∧ v.cell? ⟨N, 1, none⟩ = some (uv M.state) ∧ v.cell? ⟨N, 2, none⟩ = some (.int .i64 (M.draws : Int)) ∧ v.cell? ⟨N, 3, none⟩ = some (.slice qa qn qc) ∧ v.cell? ⟨N, 4, none⟩ = some (.slice sa M.seals.length sc) ∧ v.cell? ⟨N, 5, none⟩ = some (.slice pa pn pc)) := hid fun v kk => H7.out v ((Kp.of_ext HX78.out).trans kk)
        have HS8 := And.intro (H8.out _ (Kp.refl (fun k => k = N + 1 + 1 + 1 ∨ k = N + 1 + 1 + 1 + 1) w8)) (Kp.of_ext (F := fun k => k = N + 1 + 1 + 1 ∨ k = N + 1 + 1 + 1 + 1) HX78.out)
        refine hK _ _ ⟨fun _ => HS8, ?_⟩
        clear hK K
        clear HS HS8 hown hx hvn
        have HSH : Hid (∀ v, Kp (fun k => k = N + 1 + 1 + 1 ∨ k = N + 1 + 1 + 1 + 1) w8 v → Kp (fun k => k = N + 1 + 1 + 1 ∨ k = N + 1 + 1 + 1 + 1) w7 v) := hid fun v kk => (Kp.of_ext HX78.out).trans kk
        have hb3 := HC38.out
        obtain ⟨k0, k1⟩ := two_cells hb3
        have kf := frozen_of hb3
        obtain ⟨hb3', hk3⟩ := two_set (d0 := uv q.a) (d1 := uv q.b) hb3
        have HB3 := hid hb3'
        have HK3 : Hid (Kp (fun k => k = N + 1 + 1 + 1 ∨ k = N + 1 + 1 + 1 + 1) w8 _) := hid (hk3.mono fun k _ h => .inl h)
        have HB4 := hid (hk3.heap_some (by omega) HC48.out)
        clear hb3 hb3' hk3
        refine wpT_step (by rw [hops, List.getElem?_toArray]; rfl) (by first | rfl | (rw [hops]; rfl)) ?_
        intro K hK
        go_wp2_with fail
        refine ⟨fun _ => And.intro (H8.out _ HK3.out) (HSH.out _ HK3.out), ?_⟩
        generalize (w8.setCell ⟨N + 1 + 1 + 1, 0, none⟩ (uv q.a)).setCell ⟨N + 1 + 1 + 1, 1, none⟩ (uv q.b) = wY at *
        have HSy := And.intro (H8.out _ HK3.out) (HSH.out _ HK3.out)
        iterate 1
          refine wpT_take (v := ?_) (by rw [hops, List.getElem?_toArray]; rfl) (by first | rfl | (rw [hops]; rfl)) ?_ HSy ?_
          rotate_left
          · intro v h; go_simp; with_reducible rfl
          simp only [Act.put, List.getElem_toArray, List.getElem_cons_zero, List.getElem_cons_succ, List.setIfInBounds_toArray, List.set_cons_zero, List.set_cons_succ]
        clear HSy k0 k1 kf
        obtain ⟨k0, k1, k2, k3, k4, k5⟩ := six_cellsP HB4.out
        have kf := frozen_of HB4.out
        obtain ⟨hb5, hk5⟩ := six_setP (d0 := .bool false) (d1 := uv M.state) (d2 := .int .i64 (M.draws : Int)) (d3 := .slice qa qn qc) (d4 := .slice sa M.seals.length sc) (d5 := .slice pa pn pc) HB4.out
        obtain ⟨r0, r1, r2, r3, r4, r5⟩ := six_cellsP hb5
        obtain ⟨q0, q1⟩ := two_cells (hk5.heap_some (by omega) HB3.out)
        have hkf := (HK3.out.trans (hk5.mono (G := fun k => k = N + 1 + 1 + 1 ∨ k = N + 1 + 1 + 1 + 1) fun k _ h => .inr h))
        have HF := hid (And.intro hkf (And.intro r0 (And.intro r1 (And.intro r2 (And.intro r3 (And.intro r4 (And.intro r5 (And.intro q0 q1))))))))
        clear hb5 hk5 r0 r1 r2 r3 r4 r5 q0 q1 hkf
        refine wpT_step (by rw [hops, List.getElem?_toArray]; rfl) (by first | rfl | (rw [hops]; rfl)) ?_
        intro K hK
        go_wp2_with fail
        try (with_reducible refine ⟨fun h => absurd h (by decide), ?_⟩)
        try rw [wpT_nil]
        try clear hops ops
        go_wp2_with fail
        obtain ⟨hkf, r0, r1, r2, r3, r4, r5, q0, q1⟩ := HF.out
        have hn := HN.out
        have hfin := HXX8.out.kp hkf (fun k h => by omega)
        refine bodyPost_ret (v := .tuple #[.agg #[uv q.a, uv q.b], .slice oa out.length oc, plVal false M.state M.draws (.slice qa qn qc) (.slice sa M.seals.length sc) (.slice pa pn pc)]) (by simp [results, Tryz.results47, go_sem, r0, r1, r2, r3, r4, r5, q0, q1]) rfl ?_
        rw [HRR.out]
        refine ⟨.slice oa out.length oc, .slice sa M.seals.length sc, by rw [HI.out], HST.out.grow (.of_ext hfin) (fun i h => .inl h), fun w'' k'' => ?_, hfin⟩
        have hsz := HX7.out.size
        have hsz0 := HB.out.ex.size
        have hwr := heap_lt HC4.out
        exact OwnU.rdu (ownsRow_kp (ownsRow_kp HOW.out hkf (fun j h e => by have := HVN.out j h; omega)) k'' (fun j h e => by have := HVN.out j h; have := HG.out j e; omega))
      | true =>
        have hr := HR.out
        unfold Orc.rsealT at hr
        rw [hI] at hr p0
        simp only [if_true] at hr
        have hid2 := rseal_ideal M k 0 [n.value, n.blind]
        have HSI := hid (HST.out.grow (G' := fun j => G j ∨ w.heap.size ≤ j ∧ j < w7.heap.size) (.of_ext (HB.out.ex.trans HX7.out)) (fun j h => h.imp id fun h => h.1))
        have HSEAL := hid (rMSeal_any (M := M) (key := k) (nonce := 0) (l := [n.value, n.blind]) (qv := .slice qa qn qc) (pv := .slice pa pn pc) ⟨_, _, _, rfl⟩ ⟨_, _, _, rfl⟩ HSI.out (fun j h => by
          rcases h with h | h
          · have := HG.out j h; have := (HB.out.ex.trans HX7.out).size; omega
          · exact h.2) HPL.out.weak (by simp) (by have := HSD.out.1; omega) (by have := HSD.out.2; omega))
        generalize M.rseal k 0 [n.value, n.blind] = r at *
        obtain ⟨out, M2⟩ := r
        simp only at hr hid2 HSEAL
        rw [hI] at hid2
        have HRR := hid hr
        have HI2 := hid (And.intro hI hid2)
        clear hI hr hid2 HR
        go_wp2_with fail
        refine (HSEAL.out).mono ?_
        rintro e w8 ⟨vo, sv2, rfl, hst, hrd, hx⟩
        simp only at hst hrd ⊢
        obtain ⟨sa2, sc2, rfl⟩ := hst.now.len
        obtain ⟨oa, oc, rfl, -⟩ := hrd w8 (Kp.refl _ _)
        have HST8 := hid hst
        have HRD8 := hid hrd
        have HX78 := hid hx
        clear hst hrd hx p0 p1 p2 p3 p4 p5 HSEAL
        go_upto_region 9 with fail
        obtain ⟨T, hT⟩ : ∃ T, T = w8.heap.size := ⟨_, rfl⟩
        obtain ⟨w9, hw9⟩ : ∃ w9, w9 = w8.alloc (.cells #[uv M2.state, .int .i64 (M2.draws : Int), .slice qa qn qc, .slice sa2 M2.seals.length sc2, .slice pa pn pc] 36) := ⟨_, rfl⟩
        have hx9 : Ext w8 w9 := by rw [hw9]; exact (Ext.refl w8).alloc _
        have hb9 : w9.heap[T]? = some (.cells #[uv M2.state, .int .i64 (M2.draws : Int), .slice qa qn qc, .slice sa2 M2.seals.length sc2, .slice pa pn pc] 36 (0, 0)) := by rw [hw9, hT]; exact heap_new _ _
        rw [← hw9, ← hT]
        have HX9 := hid (HX78.out.trans hx9)
        have HX89 := hid hx9
        obtain ⟨t0, t1, t2, t3, t4⟩ := five_cells hb9
        clear hw9 hx9 hb9
        have hp9 := HX9.out.heap_some HP7.out
        obtain ⟨p0, p1, p2, p3, p4, p5⟩ := six_cellsP hp9
        have kf := frozen_of hp9
        obtain ⟨hb10, hk10⟩ := model_setP (d1 := uv M2.state) (d2 := .int .i64 (M2.draws : Int)) (d3 := .slice qa qn qc) (d4 := .slice sa2 M2.seals.length sc2) (d5 := .slice pa pn pc) hp9
        rw [show M.ideal = true from HI2.out.1] at hb10
        have HB10 := hid hb10
        have HK10 := hid hk10
        clear hp9 hb10 hk10 hT
        go_upto_region 10 with fail
        generalize ((((w9.setCell ⟨N, 1, none⟩ (uv M2.state)).setCell ⟨N, 2, none⟩ (.int .i64 (M2.draws : Int))).setCell ⟨N, 3, none⟩ (.slice qa qn qc)).setCell ⟨N, 4, none⟩ (.slice sa2 M2.seals.length sc2)).setCell ⟨N, 5, none⟩ (.slice pa pn pc) = w10 at *
        clear p0 p1 p2 p3 p4 p5 kf t0 t1 t2 t3 t4
        have hn := HN.out
        have HXX10 := hid (((HB.out.ex.trans HX7.out).trans HX9.out).kp HK10.out (fun k h => by omega))
        have HQ10 := hid (HK10.out.heap_some (by have := HWR.out; omega) (HX9.out.heap_some HQ7.out))
        have HC38 := hid (HK10.out.heap_some (by omega) (HX9.out.heap_some HC3.out))
        have HC48 := hid (HK10.out.heap_some (by omega) (HX9.out.heap_some HC4.out))
        have hsz7 := (HB.out.ex.trans HX7.out).size
        have hN7 := heap_lt HP7.out
        have HK8 : Hid (Kp (fun j => G j ∨ w.heap.size ≤ j ∧ j < w7.heap.size) w8 w10) := hid ((Kp.of_ext HX89.out).trans (HK10.out.mono fun j _ h => .inr (by omega)))
        have H8 : Hid (∀ v, Kp (fun k => k = N + 1 + 1 + 1 ∨ k = N + 1 + 1 + 1 + 1) w10 v → (v.cell? ⟨R, 0, none⟩ = some (uv q.a) ∧ v.cell? ⟨R, 1, none⟩ = some (uv q.b)) ∧ v.cell? ⟨N, 0, none⟩ = some (.bool true) ∧ v.cell? ⟨N, 1, none⟩ = some (uv M2.state) ∧ v.cell? ⟨N, 2, none⟩ = some (.int .i64 (M2.draws : Int)) ∧ v.cell? ⟨N, 3, none⟩ = some (.slice qa qn qc) ∧ v.cell? ⟨N, 4, none⟩ = some (.slice sa2 M2.seals.length sc2) ∧ v.cell? ⟨N, 5, none⟩ = some (.slice pa pn pc)) := hid fun v kk => ⟨two_cells (kk.heap_some (by have := HWR.out; omega) HQ10.out), six_cellsP (kk.heap_some (by omega) HB10.out)⟩
        have HN4 : Hid (N + 1 + 1 + 1 + 1 < w7.heap.size) := hid (heap_lt HC4.out)
        clear hn hsz7 hN7
        refine wp_region_T (fun v => ((v.cell? ⟨R, 0, none⟩ = some (uv q.a) ∧ v.cell? ⟨R, 1, none⟩ = some (uv q.b)) ∧ v.cell? ⟨N, 0, none⟩ = some (.bool true) ∧ v.cell? ⟨N, 1, none⟩ = some (uv M2.state) ∧ v.cell? ⟨N, 2, none⟩ = some (.int .i64 (M2.draws : Int)) ∧ v.cell? ⟨N, 3, none⟩ = some (.slice qa qn qc) ∧ v.cell? ⟨N, 4, none⟩ = some (.slice sa2 M2.seals.length sc2) ∧ v.cell? ⟨N, 5, none⟩ = some (.slice pa pn pc)) ∧ Kp (fun k => k = N + 1 + 1 + 1 ∨ k = N + 1 + 1 + 1 + 1) w10 v) 5 [(0, true), (1, true), (2, true), (3, false), (4, true), (5, false)] (by kernel_rfl) (by kernel_rfl) (by intro c a d v w h; cases d <;> exact h) ?_
        intro ops hops
        have HS := And.intro (H8.out _ (Kp.refl _ w10).drew) (Kp.refl (fun k => k = N + 1 + 1 + 1 ∨ k = N + 1 + 1 + 1 + 1) w10).drew
        iterate 3
          refine wpT_take (v := ?_) (by rw [hops, List.getElem?_toArray]; rfl) (by first | rfl | (rw [hops]; rfl)) ?_ HS ?_
          rotate_left
          · intro v h; go_simp; with_reducible rfl
          simp only [Act.put, List.getElem_toArray, List.getElem_cons_zero, List.getElem_cons_succ, List.setIfInBounds_toArray, List.set_cons_zero, List.set_cons_succ]
        clear HS
        have hb3 := HC38.out
        obtain ⟨k0, k1⟩ := two_cells hb3
        have kf := frozen_of hb3
        obtain ⟨hb3', hk3⟩ := two_set (d0 := uv q.a) (d1 := uv q.b) hb3
        have HB3 := hid hb3'
        have HK3 : Hid (Kp (fun k => k = N + 1 + 1 + 1 ∨ k = N + 1 + 1 + 1 + 1) w10 _) := hid (hk3.mono fun k _ h => .inl h)
        have HB4 := hid (hk3.heap_some (by omega) HC48.out)
        clear hb3 hb3' hk3
        refine wpT_step (by rw [hops, List.getElem?_toArray]; rfl) (by first | rfl | (rw [hops]; rfl)) ?_
        intro K hK
        go_wp2_with fail
        refine ⟨fun _ => And.intro (H8.out _ HK3.out.drew) HK3.out.drew, ?_⟩
        generalize (w10.setCell ⟨N + 1 + 1 + 1, 0, none⟩ (uv q.a)).setCell ⟨N + 1 + 1 + 1, 1, none⟩ (uv q.b) = wY at *
        have HSy := And.intro (H8.out _ HK3.out.drew) HK3.out.drew
        iterate 1
          refine wpT_take (v := ?_) (by rw [hops, List.getElem?_toArray]; rfl) (by first | rfl | (rw [hops]; rfl)) ?_ HSy ?_
          rotate_left
          · intro v h; go_simp; with_reducible rfl
          simp only [Act.put, List.getElem_toArray, List.getElem_cons_zero, List.getElem_cons_succ, List.setIfInBounds_toArray, List.set_cons_zero, List.set_cons_succ]
        clear HSy k0 k1 kf
        obtain ⟨k0, k1, k2, k3, k4, k5⟩ := six_cellsP HB4.out
        have kf := frozen_of HB4.out
        obtain ⟨hb5, hk5⟩ := six_setP (d0 := .bool true) (d1 := uv M2.state) (d2 := .int .i64 (M2.draws : Int)) (d3 := .slice qa qn qc) (d4 := .slice sa2 M2.seals.length sc2) (d5 := .slice pa pn pc) HB4.out
        obtain ⟨r0, r1, r2, r3, r4, r5⟩ := six_cellsP hb5
        obtain ⟨q0, q1⟩ := two_cells (hk5.heap_some (by omega) HB3.out)
        have hkf := (HK3.out.trans (hk5.mono (G := fun k => k = N + 1 + 1 + 1 ∨ k = N + 1 + 1 + 1 + 1) fun k _ h => .inr h))
        have HF := hid (And.intro hkf (And.intro r0 (And.intro r1 (And.intro r2 (And.intro r3 (And.intro r4 (And.intro r5 (And.intro q0 q1))))))))
        clear hb5 hk5 r0 r1 r2 r3 r4 r5 q0 q1 hkf
        refine wpT_step (by rw [hops, List.getElem?_toArray]; rfl) (by first | rfl | (rw [hops]; rfl)) ?_
        intro K hK
        go_wp2_with fail
        try (with_reducible refine ⟨fun h => absurd h (by decide), ?_⟩)
        try rw [wpT_nil]
        try clear hops ops
        go_wp2_with fail
        obtain ⟨hkf, r0, r1, r2, r3, r4, r5, q0, q1⟩ := HF.out
        have hn := HN.out
        have hfin := HXX10.out.kp hkf.drew (fun k h => by omega)
        refine bodyPost_ret (v := .tuple #[.agg #[uv q.a, uv q.b], .slice oa out.length oc, plVal true M2.state M2.draws (.slice qa qn qc) (.slice sa2 M2.seals.length sc2) (.slice pa pn pc)]) (by simp [results, Tryz.results47, go_sem, r0, r1, r2, r3, r4, r5, q0, q1]) rfl ?_
        rw [HRR.out]
        refine ⟨.slice oa out.length oc, .slice sa2 M2.seals.length sc2, by rw [HI2.out.2], ?_, fun w'' k'' => ?_, hfin⟩
        · exact HST8.out.grow (HK8.out.trans (hkf.drew.mono fun j _ h => .inr (by have := HN4.out; omega))) (fun j h => .inl (.inl h))
        · exact HRD8.out w'' ((HK8.out.trans (hkf.drew.mono fun j _ h => .inr (by have := HN4.out; omega))).trans (k''.mono fun j _ h => .inl h))
end Go.Proofs.YtgfmjfkdogcnhaaGreat
