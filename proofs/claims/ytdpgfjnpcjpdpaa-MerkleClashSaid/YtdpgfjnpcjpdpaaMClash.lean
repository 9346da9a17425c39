/- MerkleClash returns true: the walk. -/
import Derived.Test.YtdpgfjnpcjpdpaaMClashLaw
import Derived.Test.YtdpgfjnpcjpdpaaAwk12
import Derived.Test.YtdpgfjnpcjpdpaaMUnk
import Derived.Test.YtdpgfjnpcjpdpaaAllocs
import Derived.Test.YtdpgfjnpcjpdpaaBind
set_option linter.unusedSimpArgs false
namespace Go.Proofs.Ytdpgfjnpcjpdpaa
open Go.RowKit
attribute [local irreducible] perm fAdd fMul fPow fSub fNeg fRed hashU drawOf nextState
set_option maxRecDepth 100000 in
set_option maxHeartbeats 3200000 in
theorem alike_any {w : World} {b : Nat} {M : Orc} {F : Nat → Prop} {ib : Bool} {st : UInt64} {nn : Nat} {qv sv pv : Value} (h : OrcAt w b M F) (hc : RdQc w qv M.qs) (hs : isSl sv) (hp : isSl pv) (hq : M.qs.length ≤ 1000000000) (hE : ∀ q ∈ M.qs, q.elems.length ≤ 1000000000000) :
    Calls Try.prog 54 #[.pointer (some ⟨b, 0, none⟩), oVal ib st nn qv sv pv] w fun e w' => e = .returned (.bool true) ∧ Ext w w' := by
  obtain ⟨sa, sn, sc, rfl⟩ := hs
  obtain ⟨pa, pn, pc, rfl⟩ := hp
  have hrq := hc.rdQ
  obtain ⟨qa, qc, rfl, -⟩ := id hrq
  obtain ⟨w0, hw0⟩ : ∃ w0, w0 = w.alloc (.cells #[.bool ib, uv st, .int .i64 (nn : Int), .slice qa M.qs.length qc, .slice sa sn sc, .slice pa pn pc] 105) := ⟨_, rfl⟩
  have hx0 : Ext w w0 := by rw [hw0]; exact (Ext.refl _).alloc _
  have hb0 : w0.heap[w.heap.size]? = some (.cells #[.bool ib, uv st, .int .i64 (nn : Int), .slice qa M.qs.length qc, .slice sa sn sc, .slice pa pn pc] 105 (0, 0)) := by rw [hw0]; exact heap_new _ _
  have HW := hid hw0
  have HX0 := hid hx0
  have HB0 := hid hb0
  have HRQ := hid (hrq.ext hx0)
  have HO := hid (h.ext hx0)
  have HE := hid hE
  have HQ := hid hq
  have HQS := hid (Questions_any (HO.out.ext (Ext.refl _).drew) hq hE)
  clear hw0 hx0 hb0 hrq hc h hE
  go_enter Try.func54, Try.ntmps54
  go_upto_region 1 with fail
  rw [← HW.out]
  have H3 : Hid (∀ v, Ext w0 v → v.cell? ⟨w.heap.size, 3, none⟩ = some (.slice qa M.qs.length qc)) := hid fun v k => k.cell_some (cell_of HB0.out 3)
  refine wp_region_T (fun v => (v.cell? ⟨w.heap.size, 3, none⟩ = some (.slice qa M.qs.length qc)) ∧ Ext w0 v) 5 [(0, true), (2, true), (3, true), (4, true), (1, false), (5, false), (6, false)] (by kernel_rfl) (by kernel_rfl) (by intro c a d v w h; cases d <;> exact h) ?_
  intro ops hops
  have HS := keep0 H3.out
  iterate 4
    refine wpT_take (v := ?_) (by rw [hops, List.getElem?_toArray]; rfl) (by first | rfl | (rw [hops]; rfl)) ?_ HS ?_
    rotate_left
    · intro v h; go_simp; with_reducible rfl
    simp only [Act.put, List.getElem_toArray, List.getElem_cons_zero, List.getElem_cons_succ, List.setIfInBounds_toArray, List.set_cons_zero, List.set_cons_succ]
  refine wpT_step (by rw [hops, List.getElem?_toArray]; rfl) (by first | rfl | (rw [hops]; rfl)) ?_
  intro K hK
  go_wp2_with fail
  refine HQS.out.mono ?_
  rintro e w1 ⟨v1, Q1, rfl, hQ1, hown, hels, hx1, -⟩
  have hr1 := rdQ_of hQ1 hown (fun x hx => (hels x hx).1)
  obtain ⟨va, vc, rfl, -⟩ := id hr1
  have HX1 := hid (HS.2.trans hx1)
  have HR1 := hid hr1
  refine hK _ _ ⟨fun _ => keepE H3.out HS hx1, ?_⟩
  clear hK K
  clear HS hown hels hx1 hr1 HQS
  refine wpT_step (by rw [hops, List.getElem?_toArray]; rfl) (by first | rfl | (rw [hops]; rfl)) ?_
  intro K hK
  go_wp2_with fail
  refine (refQuestions_any M.qs _ _ _ HR1.out (HRQ.out.ext HX1.out) HE.out HQ.out).mono ?_
  rintro e w2 ⟨rfl, hx2⟩
  have HX2 := hid ((HX0.out.trans HX1.out).trans hx2)
  clear hx2
  refine hK _ _ ⟨fun h => absurd h (by decide), ?_⟩
  clear hK K
  refine wpT_step (by rw [hops, List.getElem?_toArray]; rfl) (by first | rfl | (rw [hops]; rfl)) ?_
  intro K hK
  go_wp2_with fail
  try (with_reducible refine ⟨fun h => absurd h (by decide), ?_⟩)
  try rw [wpT_nil]
  try clear hops ops
  go_wp2_with fail
  go_ret
  exact ⟨rfl, HX2.out⟩

theorem short_parts {x : Opn} (h : x.short = true) : x.leaf.length ≤ 10 ∧ x.path.length ≤ 12 := by
  unfold Opn.short at h
  simp only [Bool.and_eq_true, decide_eq_true_eq] at h
  exact h
abbrev Z12 : Obj := .cells #[.bool false, .int .u64 0, .int .i64 0, .slice none 0 0, .slice none 0 0, .slice none 0 0] 105
/-- Behind begin: the program's oracle; and a reference's one, where it is there already. -/
def CB0 (w0 : World) (M : Orc) (r : Value) : CB := fun b1 x v => ∃ b F, r = .pointer (some ⟨b, 0, none⟩) ∧ OrcAt v b M F ∧ (∀ k, F k → w0.heap.size ≤ k) ∧ Ext w0 v ∧ (b1 = true → zF w0 F Z12 x v)
theorem CB0.grows {w0 : World} {M : Orc} {r : Value} {S : World → Prop} (hS : ∀ v, Ext w0 v → S v) : CB.Grows S Z12 (CB0 w0 M r) where
  s := fun _ _ _ ⟨_, _, _, _, _, h, _⟩ => hS _ h
  g1 := fun _ _ ⟨b, F, h1, h2, h3, h4, _⟩ => ⟨b, F, h1, h2.ext ((Ext.refl _).alloc _), h3, h4.alloc _, fun _ => zF.new h4.size h2.foot_lt⟩
theorem CB0.ext {w0 : World} {M : Orc} {r : Value} {b1 : Bool} {x : Value} {v v' : World} (h : CB0 w0 M r b1 x v) (k : Ext v v') : CB0 w0 M r b1 x v' := by
  obtain ⟨b, F, h1, h2, h3, h4, h5⟩ := h
  exact ⟨b, F, h1, h2.ext k, h3, h4.trans k, fun hb => (h5 hb).kp (.of_ext k) fun _ _ h => h⟩
/-- Behind Oracle, too: the reference's oracle as a value, whose lists lie neither in the blocks in front of the call nor behind it. -/
def CB1 (w0 : World) (M : Orc) (r rm : Value) : CB := fun b1 x v => ∃ b F, (r = .pointer (some ⟨b, 0, none⟩) ∧ OrcAt v b M F ∧ (∀ k, F k → w0.heap.size ≤ k) ∧ Ext w0 v ∧ (b1 = true → zF w0 F Z12 x v)) ∧
  ∃ qv sv pv u0 L, rm = oVal M.ideal M.state M.draws qv sv pv ∧ Ext u0 v ∧ StMc (fun k => k < L) u0 qv sv pv M ∧ (∀ k, F k → k < L) ∧ (b1 = true → ∃ g, x = .pointer (some ⟨g, 0, none⟩) ∧ (g < L ∨ u0.heap.size ≤ g))
theorem CB1.grows {w0 : World} {M : Orc} {r rm : Value} {S : World → Prop} (hS : ∀ v, Ext w0 v → S v) : CB.Grows S Z12 (CB1 w0 M r rm) where
  s := fun _ _ _ ⟨_, _, h, _⟩ => hS _ h.2.2.2.1
  g1 := fun _ _ ⟨b, F, ⟨a1, a2, a3, a4, _⟩, qv, sv, pv, u0, L, h1, h2, h3, h4, _⟩ => ⟨b, F, ⟨a1, a2.ext ((Ext.refl _).alloc _), a3, a4.alloc _, fun _ => zF.new a4.size a2.foot_lt⟩, qv, sv, pv, u0, L, h1, h2.alloc _, h3, h4, fun _ => ⟨_, rfl, .inr h2.size⟩⟩
theorem st_put {u0 v W : World} {L g : Nat} {F : Nat → Prop} {qv sv pv : Value} {M : Orc} (h2 : Ext u0 v) (h3 : StMc (fun k => k < L) u0 qv sv pv M) (hF : ∀ k, F k → k < L) (h5 : g < L ∨ u0.heap.size ≤ g) (hk : Kp (fun k => k = g) v W) : StMc F W qv sv pv M := by
  rcases h5 with h5 | h5
  · exact h3.grow ((Kp.of_ext h2).trans (hk.mono fun k _ h => by subst h; exact h5)) (fun i h => .inl (hF i h))
  · exact h3.grow (.of_ext (h2.kp hk fun k h => by subst h; exact h5)) (fun i h => .inl (hF i h))
/-- Behind Clash: two questions, and whether they are worth anything. -/
def CD (w0 : World) (b : Nat) (F : Nat → Prop) (M : Orc) (p q : Qn) (ok : Bool) (r : Value) : CA := fun b1 b2 x y v => ∃ u u' F', r = .tuple #[.agg #[uv p.label, u, uv p.answer], .agg #[uv q.label, u', uv q.answer], .bool ok] ∧
  OwnU v u p.elems ∧ OwnU v u' q.elems ∧ OrcTo w0 b F M v F' ∧ ZZ w0 F' Zq Zq b1 b2 x y v
theorem CD.grows {w0 : World} {b : Nat} {F : Nat → Prop} {M : Orc} {p q : Qn} {ok : Bool} {r : Value} {S : World → Prop} (hS : ∀ v, Kp F w0 v → S v) : CA.Grows S Zq Zq (CD w0 b F M p q ok r) where
  s := fun _ _ _ _ _ ⟨_, _, _, _, _, _, h, _⟩ => hS _ h.kp
  g1 := fun _ _ _ _ ⟨u, u', F', h1, h2, h3, h4, h5⟩ => ⟨u, u', F', h1, ownsRow_ext h2 ((Ext.refl _).alloc _), ownsRow_ext h3 ((Ext.refl _).alloc _), h4.ext ((Ext.refl _).alloc _), h5.g1 h4.kp.size h4.at'.foot_lt⟩
  g2 := fun _ _ _ _ ⟨u, u', F', h1, h2, h3, h4, h5⟩ => ⟨u, u', F', h1, ownsRow_ext h2 ((Ext.refl _).alloc _), ownsRow_ext h3 ((Ext.refl _).alloc _), h4.ext ((Ext.refl _).alloc _), h5.g2 h4.kp.size h4.at'.foot_lt⟩
set_option maxRecDepth 100000 in
set_option maxHeartbeats 25600000 in
theorem MerkleClash_any {w : World} {real : Bool} {seed root : UInt64} {n i : Int} {qv lf pv lf2 pv2 : Value} {Q : List Qn} {x y : Opn} (hq : RdQ' w qv Q) (hl : RdU' w lf x.leaf) (hp : RdU' w pv x.path) (hl2 : RdU' w lf2 y.leaf) (hp2 : RdU' w pv2 y.path) :
    Calls Try.prog 14 #[.agg #[.bool real, uv seed, qv], .agg #[uv root, .int .i64 n, .int .i64 i, lf, uv x.salt, pv], .agg #[lf2, uv y.salt, pv2]] w fun e w' => e = .returned (.bool true) ∧ Ext w w' := by
  obtain ⟨qa, qc, rfl, -⟩ := id hq
  obtain ⟨fa, fc, rfl, -⟩ := id hl
  obtain ⟨pa, pc, rfl, -⟩ := id hp
  obtain ⟨ga, gc, rfl, -⟩ := id hl2
  obtain ⟨ra, rc, rfl, -⟩ := id hp2
  obtain ⟨N, hN⟩ : ∃ N, N = w.heap.size := ⟨_, rfl⟩
  obtain ⟨w0, hw0⟩ : ∃ w0, w0 = ((w.alloc (.cells #[.bool real, uv seed, .slice qa Q.length qc] 66)).alloc (.cells #[uv root, .int .i64 n, .int .i64 i, .slice fa x.leaf.length fc, uv x.salt, .slice pa x.path.length pc] 55)).alloc (.cells #[.slice ga y.leaf.length gc, uv y.salt, .slice ra y.path.length rc] 53) := ⟨_, rfl⟩
  have hx0 : Ext w w0 := by rw [hw0]; exact (((Ext.refl w).alloc _).alloc _).alloc _
  have hb0 : w0.heap[N]? = some (.cells #[.bool real, uv seed, .slice qa Q.length qc] 66 (0, 0)) := by rw [hw0, hN]; exact heap_alloc_some (heap_alloc_some (heap_new _ _))
  have hb1 : w0.heap[N + 1]? = some (.cells #[uv root, .int .i64 n, .int .i64 i, .slice fa x.leaf.length fc, uv x.salt, .slice pa x.path.length pc] 55 (0, 0)) := by rw [hw0, hN]; exact heap_alloc_some (heap_at _ trivial (by simp))
  have hb2 : w0.heap[N + 1 + 1]? = some (.cells #[.slice ga y.leaf.length gc, uv y.salt, .slice ra y.path.length rc] 53 (0, 0)) := by rw [hw0, hN]; exact heap_at _ trivial (by simp)
  have HC : Hid (∀ v, Ext w0 v → (v.cell? ⟨N, 0, none⟩ = some (.bool real) ∧ v.cell? ⟨N, 1, none⟩ = some (uv seed) ∧ v.cell? ⟨N, 2, none⟩ = some (.slice qa Q.length qc)) ∧
      (v.cell? ⟨N + 1, 0, none⟩ = some (uv root) ∧ v.cell? ⟨N + 1, 1, none⟩ = some (.int .i64 n) ∧ v.cell? ⟨N + 1, 2, none⟩ = some (.int .i64 i) ∧ v.cell? ⟨N + 1, 3, none⟩ = some (.slice fa x.leaf.length fc) ∧ v.cell? ⟨N + 1, 4, none⟩ = some (uv x.salt) ∧ v.cell? ⟨N + 1, 5, none⟩ = some (.slice pa x.path.length pc)) ∧
      (v.cell? ⟨N + 1 + 1, 0, none⟩ = some (.slice ga y.leaf.length gc) ∧ v.cell? ⟨N + 1 + 1, 1, none⟩ = some (uv y.salt) ∧ v.cell? ⟨N + 1 + 1, 2, none⟩ = some (.slice ra y.path.length rc))) := hid fun v k =>
    ⟨⟨cell_of (k.heap_some hb0) 0, cell_of (k.heap_some hb0) 1, cell_of (k.heap_some hb0) 2⟩, six_cellsO (k.heap_some hb1), cell_of (k.heap_some hb2) 0, cell_of (k.heap_some hb2) 1, cell_of (k.heap_some hb2) 2⟩
  have HX0 := hid hx0
  have HN := hid hN
  have HQ := hid hq
  have HL := hid hl
  have HP := hid hp
  have HL2 := hid hl2
  have HP2 := hid hp2
  have HA := hid awake12_any
  have HW0 := hid hw0
  clear hx0 hb0 hb1 hb2 hq hl hp hl2 hp2 hw0
  go_enter Try.func14, Try.ntmps14
  go_upto_region 1 with fail
  rw [← HW0.out, ← hN]
  clear hN
  go_wp2_with fail
  refine (HA.out _).mono ?_
  rintro e w1 ⟨rfl, hx1⟩
  have HX1 := hid hx1
  obtain ⟨⟨c0, c1, c2⟩, -, -⟩ := HC.out w1 hx1
  clear hx1
  go_wp2_with fail
  refine (Few_any (HQ.out.ext (HX0.out.trans HX1.out))).mono ?_
  rintro e w2 ⟨rfl, hx2⟩
  have HX2 := hid (HX1.out.trans hx2)
  clear hx2 c0 c1 c2
  cases hf : fewW Q with
  | false =>
    clear hf
    go_wp2_with fail
    refine (HA.out _).mono ?_
    rintro e wz ⟨rfl, hxz⟩
    have HXZ := hid ((HX0.out.trans HX2.out).trans hxz)
    clear hxz
    go_wp2_with fail
    go_ret
    exact ⟨rfl, HXZ.out⟩
  | true =>
    have HFW := hid hf
    obtain ⟨-, ⟨c0, c1, c2, c3, c4, c5⟩, -⟩ := HC.out w2 HX2.out
    clear hf
    go_wp2_with fail
    refine (short_any x fa pa fc pc _).mono ?_
    rintro e w3 ⟨rfl, hx3⟩
    have HX3 := hid (HX2.out.trans hx3)
    clear hx3 c0 c1 c2 c3 c4 c5
    cases hs : x.short with
    | false =>
      clear hs
      go_wp2_with fail
      refine (HA.out _).mono ?_
      rintro e wz ⟨rfl, hxz⟩
      have HXZ := hid ((HX0.out.trans HX3.out).trans hxz)
      clear hxz
      go_wp2_with fail
      go_ret
      exact ⟨rfl, HXZ.out⟩
    | true =>
      have HSL := hid (short_parts hs)
      obtain ⟨-, -, ⟨c0, c1, c2⟩⟩ := HC.out w3 HX3.out
      clear hs
      go_wp2_with fail
      refine (short_any y ga ra gc rc _).mono ?_
      rintro e w4 ⟨rfl, hx4⟩
      have HX4 := hid (HX3.out.trans hx4)
      clear hx4 c0 c1 c2
      cases hs : y.short with
      | false =>
        clear hs
        go_wp2_with fail
        refine (HA.out _).mono ?_
        rintro e wz ⟨rfl, hxz⟩
        have HXZ := hid ((HX0.out.trans HX4.out).trans hxz)
        clear hxz
        go_wp2_with fail
        go_ret
        exact ⟨rfl, HXZ.out⟩
      | true =>
        have HSM := hid (short_parts hs)
        clear hs
        go_upto_region 3 with fail
        refine wp_region_N (fun v => (v.cell? ⟨N, 0, none⟩ = some (.bool real) ∧ v.cell? ⟨N, 1, none⟩ = some (uv seed) ∧ v.cell? ⟨N, 2, none⟩ = some (.slice qa Q.length qc)) ∧ Ext w4 v) 6 7 (by kernel_rfl) (by kernel_rfl) ?_
        intro ops hops
        have HR := And.intro (HC.out _ (HX4.out.drew)).1 (Ext.refl w4).drew
        refine N_take (i := 0) (v := ?_) (by rw [hops, List.getElem?_toArray]; rfl) (by rw [hops]; kernel_rfl) (by intro c a d v w h; cases d <;> exact h) (by first | rfl | (rw [hops]; rfl)) ?_ HR ?_
        rotate_left
        · intro v h; go_simp; with_reducible rfl
        simp only [Act.put, List.getElem_toArray, List.getElem_cons_zero, List.getElem_cons_succ, List.setIfInBounds_toArray, List.set_cons_zero, List.set_cons_succ]
        refine N_take (i := 2) (v := ?_) (by rw [hops, List.getElem?_toArray]; rfl) (by rw [hops]; kernel_rfl) (by intro c a d v w h; cases d <;> exact h) (by first | rfl | (rw [hops]; rfl)) ?_ HR ?_
        rotate_left
        · intro v h; go_simp; with_reducible rfl
        simp only [Act.put, List.getElem_toArray, List.getElem_cons_zero, List.getElem_cons_succ, List.setIfInBounds_toArray, List.set_cons_zero, List.set_cons_succ]
        have hal : ∀ Q, Alloc1 Try.prog ops Q 4 8 Z12 := fun Q => ⟨⟨_, by rw [hops, List.getElem?_toArray]; rfl, fun t => rfl, fun a w K hK => by go_wp2_with fail; exact hK⟩⟩
        have hgr := CG1.grows (Z := Z12) (w0 := w4) (F := fun _ => False) (S := fun v => (v.cell? ⟨N, 0, none⟩ = some (.bool real) ∧ v.cell? ⟨N, 1, none⟩ = some (uv seed) ∧ v.cell? ⟨N, 2, none⟩ = some (.slice qa Q.length qc)) ∧ Ext w4 v) (fun k h => h.elim) (fun v k => by have h := k.toExt (fun _ h => h.elim); exact And.intro (HC.out _ (HX4.out.trans h)).1 h)
        refine WB_start (i1 := 4) (d1 := 8) (f := 4) (C := CG1 w4 (fun _ => False) Z12) undef ⟨(Ext.refl w4).drew, fun h => by cases h⟩ (by rfl) (by rfl) (by rfl) ?_
        refine WB_call (hal _) hgr (c := 1) (fun v => CB0 w4 (beginM real seed Q) v) (by rw [hops]; kernel_rfl) (by rw [hops, List.getElem?_toArray]; rfl) rfl (fun t => rfl) (by decide) (fun v b1 x w' h => by obtain ⟨b, F, -, -, -, h, -⟩ := h; exact And.intro (HC.out _ (HX4.out.trans h)).1 h) ?_ ?_
        · intro b1 x1 v hC K hK
          simp only [Act.put, List.setIfInBounds_toArray, List.set_cons_zero, List.set_cons_succ]
          go_wp2_with fail
          refine (begin_any (HQ.out.ext (HX0.out.trans (HX4.out.trans hC.1))) HFW.out).mono ?_
          rintro e v' ⟨b, F, rfl, hat, hx, hF⟩
          exact hK _ _ ⟨b, F, rfl, hat, fun k hk => Nat.le_trans hC.1.size (hF k hk), hC.1.trans hx, fun hb => by
            obtain ⟨g, h1, h2, -, h4⟩ := hC.2 hb
            exact ⟨g, h1, h2, fun hf => by have := hF g hf; have := heap_lt h4; omega, hx.heap_some h4⟩⟩ _ (by simp only [Act.put, List.setIfInBounds_toArray, List.set_cons_zero, List.set_cons_succ] <;> rfl)
        intro v36
        simp only [Act.put, List.setIfInBounds_toArray, List.set_cons_zero, List.set_cons_succ]
        have hgr2 := CB0.grows (w0 := w4) (M := beginM real seed Q) (r := v36) (S := fun v => (v.cell? ⟨N, 0, none⟩ = some (.bool real) ∧ v.cell? ⟨N, 1, none⟩ = some (uv seed) ∧ v.cell? ⟨N, 2, none⟩ = some (.slice qa Q.length qc)) ∧ Ext w4 v) (fun v h => And.intro (HC.out _ (HX4.out.trans h)).1 h)
        refine WB_call (hal _) hgr2 (c := 3) (fun v => CB1 w4 (beginM real seed Q) v36 v) (by rw [hops]; kernel_rfl) (by rw [hops, List.getElem?_toArray]; rfl) rfl (fun t => rfl) (by decide) (fun v b1 x w' h => by obtain ⟨b, F, h, -⟩ := h; exact And.intro (HC.out _ (HX4.out.trans h.2.2.2.1)).1 h.2.2.2.1) ?_ ?_
        · intro b1 x1 v hC K hK
          have h4 : Ext w4 v := by obtain ⟨b, F, -, -, -, h4, -⟩ := hC; exact h4
          have HCC := hid hC
          clear hC
          simp only [Act.put, List.setIfInBounds_toArray, List.set_cons_zero, List.set_cons_succ]
          go_wp2_with fail
          refine (wOracle_any (HQ.out.ext (HX0.out.trans (HX4.out.trans h4))) HFW.out).mono ?_
          rintro e v' ⟨qv1, sv1, pv1, rfl, hrd, hx⟩
          have hC := HCC.out
          have hC' := hC.ext hx
          obtain ⟨b, F, a1, a2, a3, a4, a5⟩ := hC
          exact hK _ _ ⟨b, F, ⟨a1, a2.ext hx, a3, a4.trans hx, fun hb => (a5 hb).kp (.of_ext hx) fun _ _ h => h⟩, qv1, sv1, pv1, v', v.heap.size, rfl, Ext.refl _, hrd, a2.foot_lt, fun hb => by
            obtain ⟨g, h1, -, -, h2⟩ := a5 hb
            exact ⟨g, h1, .inl (heap_lt h2)⟩⟩ _ (by simp only [Act.put, List.setIfInBounds_toArray, List.set_cons_zero, List.set_cons_succ] <;> rfl)
        intro v38
        simp only [Act.put, List.setIfInBounds_toArray, List.set_cons_zero, List.set_cons_succ]
        have hgr3 := CB1.grows (w0 := w4) (M := beginM real seed Q) (r := v36) (rm := v38) (S := fun v => (v.cell? ⟨N, 0, none⟩ = some (.bool real) ∧ v.cell? ⟨N, 1, none⟩ = some (uv seed) ∧ v.cell? ⟨N, 2, none⟩ = some (.slice qa Q.length qc)) ∧ Ext w4 v) (fun v h => And.intro (HC.out _ (HX4.out.trans h)).1 h)
        refine WB_last (hal _) hgr3 (by rw [hops]; kernel_rfl) ?_
        rintro x1 v ⟨b, F, ⟨rfl, hat, hF, hxv, hz⟩, mq, ms, mp, u0, L, rfl, hu1, hu2, hu3, hu4⟩
        obtain ⟨g, rfl, hg0, hgF, hgb⟩ := hz rfl
        obtain ⟨g', hgg, hu5⟩ := hu4 rfl
        injection hgg with hgg
        injection hgg with hgg
        injection hgg with hgg
        subst hgg
        obtain ⟨⟨mqa, mqn, mqc, rfl⟩, ⟨msa, msn, msc, rfl⟩, ⟨mpa, mpn, mpc, rfl⟩⟩ := hu2.now.sl
        simp only [Act.put, List.setIfInBounds_toArray, List.set_cons_zero, List.set_cons_succ]
        have HS5 := And.intro (HC.out _ (HX4.out.trans hxv)).1 hxv
        refine N_take (i := 5) (v := ?_) (by rw [hops, List.getElem?_toArray]; rfl) (by rw [hops]; kernel_rfl) (by intro c a d v w h; cases d <;> exact h) (by first | rfl | (rw [hops]; rfl)) ?_ HS5 ?_
        rotate_left
        · intro v h; go_simp; with_reducible rfl
        simp only [Act.put, List.getElem_toArray, List.getElem_cons_zero, List.getElem_cons_succ, List.setIfInBounds_toArray, List.set_cons_zero, List.set_cons_succ]
        have HMG : Hid (Good (beginM real seed Q) ∧ (beginM real seed Q).sound ∧ (∀ q ∈ (beginM real seed Q).qs, q.elems.length ≤ 20) ∧ (beginM real seed Q).qs.length ≤ 40 ∧ (beginM real seed Q).draws = 0) := hid ⟨good_begin _ _ _, begin_sound _ _ _, begin_elems _ _ _ HFW.out, begin_small _ _ _ (fewW_parts HFW.out).2⟩
        generalize beginM real seed Q = M at *
        obtain ⟨k0, k1, k2, k3, k4, k5⟩ := six_cellsO hgb
        have kf := frozen_of hgb
        obtain ⟨hb6, hk6⟩ := six_setO (d0 := .bool M.ideal) (d1 := uv M.state) (d2 := .int .i64 (M.draws : Int)) (d3 := .slice mqa mqn mqc) (d4 := .slice msa msn msc) (d5 := .slice mpa mpn mpc) hgb
        have hrd : StMc F ((((((v.setCell ⟨g, 0, none⟩ (.bool M.ideal)).setCell ⟨g, 1, none⟩ (uv M.state)).setCell ⟨g, 2, none⟩ (.int .i64 (M.draws : Int))).setCell ⟨g, 3, none⟩ (.slice mqa mqn mqc)).setCell ⟨g, 4, none⟩ (.slice msa msn msc)).setCell ⟨g, 5, none⟩ (.slice mpa mpn mpc)) (.slice mqa mqn mqc) (.slice msa msn msc) (.slice mpa mpn mpc) M := st_put hu1 hu2 hu3 hu5 hk6
        have hat6 : OrcAt ((((((v.setCell ⟨g, 0, none⟩ (.bool M.ideal)).setCell ⟨g, 1, none⟩ (uv M.state)).setCell ⟨g, 2, none⟩ (.int .i64 (M.draws : Int))).setCell ⟨g, 3, none⟩ (.slice mqa mqn mqc)).setCell ⟨g, 4, none⟩ (.slice msa msn msc)).setCell ⟨g, 5, none⟩ (.slice mpa mpn mpc)) b M F := hat.kp hk6 (by rintro k hk rfl; exact hgF hk)
        have hx6 : Ext w4 ((((((v.setCell ⟨g, 0, none⟩ (.bool M.ideal)).setCell ⟨g, 1, none⟩ (uv M.state)).setCell ⟨g, 2, none⟩ (.int .i64 (M.draws : Int))).setCell ⟨g, 3, none⟩ (.slice mqa mqn mqc)).setCell ⟨g, 4, none⟩ (.slice msa msn msc)).setCell ⟨g, 5, none⟩ (.slice mpa mpn mpc)) := hxv.kp hk6 (fun k h => by subst h; exact hg0)
        delta setSix at hb6
        refine N_one (i := 6) (by rw [hops, List.getElem?_toArray]; rfl) (by rw [hops]; kernel_rfl) (by first | rfl | (rw [hops]; rfl)) ?_
        intro K hK
        go_wp2_with fail
        refine ⟨by kernel_rfl, ?_⟩
        clear hal hgr hgr2 hgr3 hgb k0 k1 k2 k3 k4 k5 kf hk6 HR HS5 hat hxv hz hu1 hu2 hu3 hu4 hu5
        try clear hK K
        clear hops ops
        generalize ((((((v.setCell ⟨g, 0, none⟩ (.bool M.ideal)).setCell ⟨g, 1, none⟩ (uv M.state)).setCell ⟨g, 2, none⟩ (.int .i64 (M.draws : Int))).setCell ⟨g, 3, none⟩ (.slice mqa mqn mqc)).setCell ⟨g, 4, none⟩ (.slice msa msn msc)).setCell ⟨g, 5, none⟩ (.slice mpa mpn mpc)) = w5 at *
        have HB6 := hid hb6
        have HRD := hid hrd
        have HAT := hid hat6
        have HX6 := hid (HX4.out.trans hx6)
        have HFF : Hid (∀ k, F k → w0.heap.size ≤ k) := hid fun k hk => Nat.le_trans HX4.out.size (hF k hk)
        have hg0' : Hid (¬ F g) := hid hgF
        clear hb6 hrd hat6 hx6 hF hg0 hgF
        have HXW := hid (HX0.out.trans HX6.out)
        obtain ⟨k0, k1, k2, k3, k4, k5⟩ := six_cellsO HB6.out
        obtain ⟨-, ⟨c0, c1, c2, c3, c4, c5⟩, -⟩ := HC.out w5 HX6.out
        have HVE := hid (rVerify_any (root := root) (n0 := n) (i := i) HRD.out.now HMG.out.2.1 (HL.out.ext HXW.out) (HP.out.ext HXW.out) (by have := HSL.out.2; omega) (by have := HSL.out.1; omega) (by have := HMG.out.2.2.2.1; omega) (fun q hq => by have := HMG.out.2.2.1 q hq; omega) (by have := HMG.out.2.2.2.2; omega))
        go_wp2_with fail
        refine HVE.out.mono ?_
        rintro e w6 ⟨id1, st1, nn1, qv1, sv1, pv1, rfl, ⟨⟨za, zn, zc, rfl⟩, ⟨ya, yn, yc, rfl⟩, ⟨xa, xn, xc, rfl⟩⟩, hx7⟩
        have HX7 := hid hx7
        clear hx7 HVE k0 k1 k2 k3 k4 k5 c0 c1 c2 c3 c4 c5
        have HCL := hid (clash_all (root := root) (n := n) (i := i) (x := x) (y := y) HMG.out.2.1 HMG.out.1 (by have := HSL.out.1; omega) (by have := HSM.out.1; omega))
        go_upto_region 7 with fail
        generalize hz7 : w6.alloc (.cells #[.bool id1, .int .u64 (st1.toNat : Int), .int .i64 (nn1 : Int), .slice za zn zc, .slice ya yn yc, .slice xa xn xc] 105) = w7 at *
        have HX8 := hid (show Ext w5 w7 by rw [← hz7]; exact HX7.out.alloc _)
        have hb7 := HX8.out.heap_some HB6.out
        obtain ⟨k0, k1, k2, k3, k4, k5⟩ := six_cellsO hb7
        obtain ⟨-, ⟨c0, c1, c2, -⟩, ⟨e0, e1, e2⟩⟩ := HC.out w7 (HX6.out.trans HX8.out)
        have HVE := hid (rVerify_any (root := root) (n0 := n) (i := i) (HRD.out.now.ext HX8.out) HMG.out.2.1 (HL2.out.ext (HXW.out.trans HX8.out)) (HP2.out.ext (HXW.out.trans HX8.out)) (by have := HSM.out.2; omega) (by have := HSM.out.1; omega) (by have := HMG.out.2.2.2.1; omega) (fun q hq => by have := HMG.out.2.2.1 q hq; omega) (by have := HMG.out.2.2.2.2; omega))
        clear hz7 hb7
        go_wp2_with fail
        refine HVE.out.mono ?_
        rintro e w8 ⟨id2, st2, nn2, qv2, sv2, pv2, rfl, ⟨⟨za', zn', zc', rfl⟩, ⟨ya', yn', yc', rfl⟩, ⟨xa', xn', xc', rfl⟩⟩, hx8⟩
        have HX9 := hid (HX8.out.trans hx8)
        clear hx8 HVE k0 k1 k2 k3 k4 k5 c0 c1 c2 e0 e1 e2
        go_upto_region 8 with fail
        generalize hz9 : w8.alloc (.cells #[.bool id2, .int .u64 (st2.toNat : Int), .int .i64 (nn2 : Int), .slice za' zn' zc', .slice ya' yn' yc', .slice xa' xn' xc'] 105) = w9 at *
        have HX10 := hid (show Ext w5 w9 by rw [← hz9]; exact HX9.out.alloc _)
        have HAT9 := hid (HAT.out.ext HX10.out)
        have HXW9 := hid (HXW.out.trans HX10.out)
        have HF9 : Hid (∀ k, F k → w.heap.size ≤ k) := hid fun k hk => Nat.le_trans HX0.out.size (HFF.out k hk)
        have HC9 : Hid (∀ v, Kp F w9 v → (v.cell? ⟨N + 1, 0, none⟩ = some (uv root) ∧ v.cell? ⟨N + 1, 1, none⟩ = some (.int .i64 n) ∧ v.cell? ⟨N + 1, 2, none⟩ = some (.int .i64 i) ∧ v.cell? ⟨N + 1, 3, none⟩ = some (.slice fa x.leaf.length fc) ∧ v.cell? ⟨N + 1, 4, none⟩ = some (uv x.salt) ∧ v.cell? ⟨N + 1, 5, none⟩ = some (.slice pa x.path.length pc)) ∧
      (v.cell? ⟨N + 1 + 1, 0, none⟩ = some (.slice ga y.leaf.length gc) ∧ v.cell? ⟨N + 1 + 1, 1, none⟩ = some (uv y.salt) ∧ v.cell? ⟨N + 1 + 1, 2, none⟩ = some (.slice ra y.path.length rc))) := hid fun v k => (HC.out v ((HX6.out.trans HX10.out).kp k HFF.out)).2
        clear hz9
        obtain ⟨pq, hpq⟩ : ∃ pq : Qn × Qn, pq = (M.clash root n i x y).getD (⟨0, [], 0⟩, ⟨0, [], 0⟩) := ⟨_, rfl⟩
        obtain ⟨ok, hok⟩ : ∃ ok, ok = (M.clash root n i x y).isSome := ⟨_, rfl⟩
        obtain ⟨ca, cb⟩ := pq
        have HPQ := hid hpq
        have HOK := hid hok
        clear hpq hok
        refine wp_region_N (fun v => ((v.cell? ⟨N + 1, 0, none⟩ = some (uv root) ∧ v.cell? ⟨N + 1, 1, none⟩ = some (.int .i64 n) ∧ v.cell? ⟨N + 1, 2, none⟩ = some (.int .i64 i) ∧ v.cell? ⟨N + 1, 3, none⟩ = some (.slice fa x.leaf.length fc) ∧ v.cell? ⟨N + 1, 4, none⟩ = some (uv x.salt) ∧ v.cell? ⟨N + 1, 5, none⟩ = some (.slice pa x.path.length pc)) ∧ (v.cell? ⟨N + 1 + 1, 0, none⟩ = some (.slice ga y.leaf.length gc) ∧ v.cell? ⟨N + 1 + 1, 1, none⟩ = some (uv y.salt) ∧ v.cell? ⟨N + 1 + 1, 2, none⟩ = some (.slice ra y.path.length rc))) ∧ Kp F w9 v) 21 22 (by kernel_rfl) (by kernel_rfl) ?_
        intro ops hops
        have HR := And.intro (HC9.out _ (Kp.refl F w9).drew) (Kp.refl F w9).drew
        refine N_take (i := 0) (v := ?_) (by rw [hops, List.getElem?_toArray]; rfl) (by rw [hops]; kernel_rfl) (by intro c a d v w h; cases d <;> exact h) (by first | rfl | (rw [hops]; rfl)) ?_ HR ?_
        rotate_left
        · intro v h; go_simp; with_reducible rfl
        simp only [Act.put, List.getElem_toArray, List.getElem_cons_zero, List.getElem_cons_succ, List.setIfInBounds_toArray, List.set_cons_zero, List.set_cons_succ]
        refine N_take (i := 1) (v := ?_) (by rw [hops, List.getElem?_toArray]; rfl) (by rw [hops]; kernel_rfl) (by intro c a d v w h; cases d <;> exact h) (by first | rfl | (rw [hops]; rfl)) ?_ HR ?_
        rotate_left
        · intro v h; go_simp; with_reducible rfl
        simp only [Act.put, List.getElem_toArray, List.getElem_cons_zero, List.getElem_cons_succ, List.setIfInBounds_toArray, List.set_cons_zero, List.set_cons_succ]
        refine N_take (i := 2) (v := ?_) (by rw [hops, List.getElem?_toArray]; rfl) (by rw [hops]; kernel_rfl) (by intro c a d v w h; cases d <;> exact h) (by first | rfl | (rw [hops]; rfl)) ?_ HR ?_
        rotate_left
        · intro v h; go_simp; with_reducible rfl
        simp only [Act.put, List.getElem_toArray, List.getElem_cons_zero, List.getElem_cons_succ, List.setIfInBounds_toArray, List.set_cons_zero, List.set_cons_succ]
        refine N_take (i := 3) (v := ?_) (by rw [hops, List.getElem?_toArray]; rfl) (by rw [hops]; kernel_rfl) (by intro c a d v w h; cases d <;> exact h) (by first | rfl | (rw [hops]; rfl)) ?_ HR ?_
        rotate_left
        · intro v h; go_simp; with_reducible rfl
        simp only [Act.put, List.getElem_toArray, List.getElem_cons_zero, List.getElem_cons_succ, List.setIfInBounds_toArray, List.set_cons_zero, List.set_cons_succ]
        refine N_take (i := 4) (v := ?_) (by rw [hops, List.getElem?_toArray]; rfl) (by rw [hops]; kernel_rfl) (by intro c a d v w h; cases d <;> exact h) (by first | rfl | (rw [hops]; rfl)) ?_ HR ?_
        rotate_left
        · intro v h; go_simp; with_reducible rfl
        simp only [Act.put, List.getElem_toArray, List.getElem_cons_zero, List.getElem_cons_succ, List.setIfInBounds_toArray, List.set_cons_zero, List.set_cons_succ]
        refine N_take (i := 5) (v := ?_) (by rw [hops, List.getElem?_toArray]; rfl) (by rw [hops]; kernel_rfl) (by intro c a d v w h; cases d <;> exact h) (by first | rfl | (rw [hops]; rfl)) ?_ HR ?_
        rotate_left
        · intro v h; go_simp; with_reducible rfl
        simp only [Act.put, List.getElem_toArray, List.getElem_cons_zero, List.getElem_cons_succ, List.setIfInBounds_toArray, List.set_cons_zero, List.set_cons_succ]
        refine N_take (i := 6) (v := ?_) (by rw [hops, List.getElem?_toArray]; rfl) (by rw [hops]; kernel_rfl) (by intro c a d v w h; cases d <;> exact h) (by first | rfl | (rw [hops]; rfl)) ?_ HR ?_
        rotate_left
        · intro v h; go_simp; with_reducible rfl
        simp only [Act.put, List.getElem_toArray, List.getElem_cons_zero, List.getElem_cons_succ, List.setIfInBounds_toArray, List.set_cons_zero, List.set_cons_succ]
        refine N_take (i := 7) (v := ?_) (by rw [hops, List.getElem?_toArray]; rfl) (by rw [hops]; kernel_rfl) (by intro c a d v w h; cases d <;> exact h) (by first | rfl | (rw [hops]; rfl)) ?_ HR ?_
        rotate_left
        · intro v h; go_simp; with_reducible rfl
        simp only [Act.put, List.getElem_toArray, List.getElem_cons_zero, List.getElem_cons_succ, List.setIfInBounds_toArray, List.set_cons_zero, List.set_cons_succ]
        refine N_take (i := 8) (v := ?_) (by rw [hops, List.getElem?_toArray]; rfl) (by rw [hops]; kernel_rfl) (by intro c a d v w h; cases d <;> exact h) (by first | rfl | (rw [hops]; rfl)) ?_ HR ?_
        rotate_left
        · intro v h; go_simp; with_reducible rfl
        simp only [Act.put, List.getElem_toArray, List.getElem_cons_zero, List.getElem_cons_succ, List.setIfInBounds_toArray, List.set_cons_zero, List.set_cons_succ]
        refine N_take (i := 10) (v := ?_) (by rw [hops, List.getElem?_toArray]; rfl) (by rw [hops]; kernel_rfl) (by intro c a d v w h; cases d <;> exact h) (by first | rfl | (rw [hops]; rfl)) ?_ HR ?_
        rotate_left
        · intro v h; go_simp; with_reducible rfl
        simp only [Act.put, List.getElem_toArray, List.getElem_cons_zero, List.getElem_cons_succ, List.setIfInBounds_toArray, List.set_cons_zero, List.set_cons_succ]
        have hal : ∀ Q, Allocs Try.prog ops Q 17 18 13 14 Zq Zq := fun Q => ⟨⟨_, by rw [hops, List.getElem?_toArray]; rfl, fun t => rfl, fun a w K hK => by go_wp2_with fail; exact hK⟩, ⟨_, by rw [hops, List.getElem?_toArray]; rfl, fun t => rfl, fun a w K hK => by go_wp2_with fail; exact hK⟩, by decide, by decide⟩
        have hgr := CG.grows (Z1 := Zq) (Z2 := Zq) (w0 := w9) HAT9.out.foot_lt (fun v k => And.intro (HC9.out v k) k)
        refine WA_start (i1 := 17) (i2 := 18) (d1 := 13) (d2 := 14) (f := 10) (C := CG w9 F Zq Zq) undef undef ⟨(Ext.refl w9).drew, ZZ.none⟩ (by rfl) (by rfl) (by rfl) ?_
        refine WA_call (hal _) hgr (c := 9) (fun v => CL1 (OwnO w9 v x) (CG w9 F Zq Zq)) (by rw [hops]; kernel_rfl) (by rw [hops, List.getElem?_toArray]; rfl) rfl (fun t => rfl) (by decide) (fun v b1 b2 x y w' h => hgr.s _ _ _ _ _ h.2) ?_ ?_
        · intro b1 b2 x1 x2 v hC K hK
          simp only [Act.put, List.setIfInBounds_toArray, List.set_cons_zero, List.set_cons_succ]
          go_wp2_with fail
          refine (own12_any (x := x) (HL.out.ext (HXW9.out.trans hC.1)) (HP.out.ext (HXW9.out.trans hC.1)) (by have := HSL.out; omega) (by have := HSL.out; omega)).mono ?_
          rintro e v' ⟨lf', pv', rfl, ho1, ho2, hy, hn1, hn2⟩
          exact hK _ _ ⟨⟨lf', pv', rfl, ho1, ho2, fun k hk => Nat.le_trans hC.1.size (hn1 k hk), fun k hk => Nat.le_trans hC.1.size (hn2 k hk)⟩, hC.ext hy⟩ _ (by simp only [Act.put, List.setIfInBounds_toArray, List.set_cons_zero, List.set_cons_succ] <;> rfl)
        intro v9
        simp only [Act.put, List.setIfInBounds_toArray, List.set_cons_zero, List.set_cons_succ]
        have hgr2 := CL1.grows (p := OwnO w9 v9 x) hgr OwnO.ext
        refine WA_call (hal _) hgr2 (c := 11) (fun v => CL1 (OwnO w9 v y) (CL1 (OwnO w9 v9 x) (CG w9 F Zq Zq))) (by rw [hops]; kernel_rfl) (by rw [hops, List.getElem?_toArray]; rfl) rfl (fun t => rfl) (by decide) (fun v b1 b2 x y w' h => hgr.s _ _ _ _ _ h.2.2) ?_ ?_
        · rintro b1 b2 x1 x2 v ⟨hv9, hC⟩ K hK
          simp only [Act.put, List.setIfInBounds_toArray, List.set_cons_zero, List.set_cons_succ]
          go_wp2_with fail
          refine (own12_any (x := y) (HL2.out.ext (HXW9.out.trans hC.1)) (HP2.out.ext (HXW9.out.trans hC.1)) (by have := HSM.out; omega) (by have := HSM.out; omega)).mono ?_
          rintro e v' ⟨lf', pv', rfl, ho1, ho2, hy, hn1, hn2⟩
          exact hK _ _ ⟨⟨lf', pv', rfl, ho1, ho2, fun k hk => Nat.le_trans hC.1.size (hn1 k hk), fun k hk => Nat.le_trans hC.1.size (hn2 k hk)⟩, hv9.ext _ _ hy, hC.ext hy⟩ _ (by simp only [Act.put, List.setIfInBounds_toArray, List.set_cons_zero, List.set_cons_succ] <;> rfl)
        intro v11
        simp only [Act.put, List.setIfInBounds_toArray, List.set_cons_zero, List.set_cons_succ]
        have hgr3 := CL1.grows (p := OwnO w9 v11 y) hgr2 OwnO.ext
        have hgr5 := fun (r : Value) => CD.grows (w0 := w9) (b := b) (F := F) (M := M) (p := ca) (q := cb) (ok := ok) (r := r) (fun v k => And.intro (HC9.out v k) k)
        refine WA_call (hal _) hgr3 (c := 12) (fun v => CD w9 b F M ca cb ok v) (by rw [hops]; kernel_rfl) (by rw [hops, List.getElem?_toArray]; rfl) rfl (fun t => rfl) (by decide) (fun v b1 b2 x y w' h => (hgr5 v).s _ _ _ _ _ h) ?_ ?_
        · rintro b1 b2 x1 x2 v ⟨⟨mf, mp, rfl, hm1, hm2, hm3, hm4⟩, ⟨nf, np, rfl, hm5, hm6, hm7, hm8⟩, hC⟩ K hK
          obtain ⟨mfa, mfc, rfl, -⟩ := ownsRow_rd hm1
          obtain ⟨mpa', mpc', rfl, -⟩ := ownsRow_rd hm2
          obtain ⟨nfa, nfc, rfl, -⟩ := ownsRow_rd hm5
          obtain ⟨npa, npc, rfl, -⟩ := ownsRow_rd hm6
          simp only [Act.put, List.setIfInBounds_toArray, List.set_cons_zero, List.set_cons_succ]
          go_wp2_with fail
          have hatv := HAT9.out.ext hC.1
          have hfl := HAT9.out.foot_lt
          refine (mClash_any (x := x) (y := y) hatv (ownU_stays hm5 fun j hj hf => by have h1 := hm7 j hj; have h2 := hfl j hf; omega) (ownU_stays hm6 fun j hj hf => by have h1 := hm8 j hj; have h2 := hfl j hf; omega) (ownU_stays hm1 fun j hj hf => by have h1 := hm3 j hj; have h2 := hfl j hf; omega) (ownU_stays hm2 fun j hj hf => by have h1 := hm4 j hj; have h2 := hfl j hf; omega)
            (by have := HSL.out; omega) (by have := HSM.out; omega) (by have := HSL.out; omega) (by have := HSM.out; omega) (by have := HMG.out.2.2.2.1; omega) (by have := HMG.out.2.2.2.2; omega)).mono ?_
          rintro e v' ⟨⟨F9, ht9⟩, hr⟩
          rcases hr with ⟨hr, rfl⟩ | ⟨p, q, u, u', hr, rfl, hu1, hu2⟩
          · have h1 := HPQ.out
            have h2 := HOK.out
            rw [hr] at h1 h2
            simp only [Option.getD_none, Prod.mk.injEq] at h1
            obtain ⟨rfl, rfl⟩ := h1
            subst h2
            exact hK _ _ ⟨.slice none 0 0, .slice none 0 0, F9, rfl, World.ownsRow_nil _ _ _ _, World.ownsRow_nil _ _ _ _, .pre hC.1 ht9, hC.2.kp ht9.kp fun k hk hn => ht9.apart hk hn⟩ _ (by simp only [Act.put, List.setIfInBounds_toArray, List.set_cons_zero, List.set_cons_succ] <;> rfl)
          · have h1 := HPQ.out
            have h2 := HOK.out
            rw [hr] at h1 h2
            simp only [Option.getD_some, Prod.mk.injEq] at h1
            obtain ⟨rfl, rfl⟩ := h1
            subst h2
            exact hK _ _ ⟨u, u', F9, rfl, hu1, hu2, .pre hC.1 ht9, hC.2.kp ht9.kp fun k hk hn => ht9.apart hk hn⟩ _ (by simp only [Act.put, List.setIfInBounds_toArray, List.set_cons_zero, List.set_cons_succ] <;> rfl)
        intro v12
        simp only [Act.put, List.setIfInBounds_toArray, List.set_cons_zero, List.set_cons_succ]
        refine WA_pure (φ := ∃ ua uc ub ud, v12 = .tuple #[.agg #[uv ca.label, .slice ua ca.elems.length uc, uv ca.answer], .agg #[uv cb.label, .slice ub cb.elems.length ud, uv cb.answer], .bool ok]) (fun b1 b2 x1 x2 v h => by
          obtain ⟨u, u', F', h1, h2, h3, -⟩ := h
          obtain ⟨ua, uc, rfl, -⟩ := ownsRow_rd h2
          obtain ⟨ub, ud, rfl, -⟩ := ownsRow_rd h3
          exact ⟨ua, uc, ub, ud, h1⟩) ?_
        rintro ⟨ua, uc, ub, ud, rfl⟩
        refine WA_take (i := 13) (v := ?_) (fun _ _ _ _ _ h => (hgr5 _).s _ _ _ _ _ h) (by rw [hops, List.getElem?_toArray]; rfl) rfl (fun t => rfl) (by decide) (by rw [hops]; kernel_rfl) (by intro c a d v w h; cases d <;> exact h) ?_ ?_
        rotate_left
        · intro x1 x2 v h
          simp only [Act.put, List.setIfInBounds_toArray, List.set_cons_zero, List.set_cons_succ]
          go_simp
          with_reducible rfl
        simp only [Act.put, List.setIfInBounds_toArray, List.set_cons_zero, List.set_cons_succ]
        refine WA_take (i := 14) (v := ?_) (fun _ _ _ _ _ h => (hgr5 _).s _ _ _ _ _ h) (by rw [hops, List.getElem?_toArray]; rfl) rfl (fun t => rfl) (by decide) (by rw [hops]; kernel_rfl) (by intro c a d v w h; cases d <;> exact h) ?_ ?_
        rotate_left
        · intro x1 x2 v h
          simp only [Act.put, List.setIfInBounds_toArray, List.set_cons_zero, List.set_cons_succ]
          go_simp
          with_reducible rfl
        simp only [Act.put, List.setIfInBounds_toArray, List.set_cons_zero, List.set_cons_succ]
        refine WA_take (i := 15) (v := ?_) (fun _ _ _ _ _ h => (hgr5 _).s _ _ _ _ _ h) (by rw [hops, List.getElem?_toArray]; rfl) rfl (fun t => rfl) (by decide) (by rw [hops]; kernel_rfl) (by intro c a d v w h; cases d <;> exact h) ?_ ?_
        rotate_left
        · intro x1 x2 v h
          simp only [Act.put, List.setIfInBounds_toArray, List.set_cons_zero, List.set_cons_succ]
          go_simp
          with_reducible rfl
        simp only [Act.put, List.setIfInBounds_toArray, List.set_cons_zero, List.set_cons_succ]
        refine WA_take (i := 16) (v := ?_) (fun _ _ _ _ _ h => (hgr5 _).s _ _ _ _ _ h) (by rw [hops, List.getElem?_toArray]; rfl) rfl (fun t => rfl) (by decide) (by rw [hops]; kernel_rfl) (by intro c a d v w h; cases d <;> exact h) ?_ ?_
        rotate_left
        · intro x1 x2 v h
          simp only [Act.put, List.setIfInBounds_toArray, List.set_cons_zero, List.set_cons_succ]
          go_simp
          with_reducible rfl
        simp only [Act.put, List.setIfInBounds_toArray, List.set_cons_zero, List.set_cons_succ]
        refine WA_last (hal _) (hgr5 _) (by rw [hops]; kernel_rfl) ?_
        intro x1 x2 v hCC
        obtain ⟨u, u', F9, hu0, hu1, hu2, ht9, hzz⟩ := hCC
        obtain ⟨g1, rfl, hg1, hg1F, hg1b⟩ := hzz.z1 rfl
        obtain ⟨g2, rfl, hg2, hg2F, hg2b⟩ := hzz.z2 rfl
        have hgne : ¬ g1 = g2 := fun h => hzz.ne rfl rfl (by rw [h])
        have hu : u = .slice ua ca.elems.length uc ∧ u' = .slice ub cb.elems.length ud := by
          simp only [Value.tuple.injEq, Array.mk.injEq, List.cons.injEq, Value.agg.injEq, and_true, true_and] at hu0
          exact ⟨hu0.1.symm, hu0.2.symm⟩
        obtain ⟨rfl, rfl⟩ := hu
        clear hu0
        have z0 : v.cell? ⟨g1, 0, none⟩ = some (.int .u64 0) := cell_of hg1b 0
        have z1 : v.cell? ⟨g1, 1, none⟩ = some (.slice none 0 0) := cell_of hg1b 1
        have z2 : v.cell? ⟨g1, 2, none⟩ = some (.int .u64 0) := cell_of hg1b 2
        have zf := frozen_of hg1b
        obtain ⟨s1, s2⟩ := setq3 hg1b rfl (uv ca.label) (.slice ua ca.elems.length uc) (uv ca.answer)
        have hk1 := ht9.kp.setCell (p := ⟨g1, 0, none⟩) (.inr hg1) (uv ca.label) |>.setCell (p := ⟨g1, 1, none⟩) (.inr hg1) (.slice ua ca.elems.length uc) |>.setCell (p := ⟨g1, 2, none⟩) (.inr hg1) (uv ca.answer)
        have hto1 := ht9.kpOther s2 (by rintro k rfl; exact ⟨hg1F, hg1⟩)
        have hv1 := ownsRow_kp hu1 s2 (by rintro k hk rfl; exact own_ne hu1 hg1b (by decide) hk)
        have hv2 := ownsRow_kp hu2 s2 (by rintro k hk rfl; exact own_ne hu2 hg1b (by decide) hk)
        have hb2 := s2.heap_some (fun h => hgne h.symm) hg2b
        simp only [Act.put, List.setIfInBounds_toArray, List.set_cons_zero, List.set_cons_succ]
        refine N_one (i := 19) (by rw [hops, List.getElem?_toArray]; rfl) (by rw [hops]; kernel_rfl) (by first | rfl | (rw [hops]; rfl)) ?_
        intro K hK
        go_wp2_with fail
        refine ⟨fun _ => And.intro (HC9.out _ hk1) hk1, ?_⟩
        generalize (((v.setCell ⟨g1, 0, none⟩ (uv ca.label)).setCell ⟨g1, 1, none⟩ (.slice ua ca.elems.length uc)).setCell ⟨g1, 2, none⟩ (uv ca.answer)) = vb at *
        clear z0 z1 z2 zf hk1 s2 ht9 hu1 hu2 hg1b hg2b hzz
        have z0 : vb.cell? ⟨g2, 0, none⟩ = some (.int .u64 0) := cell_of hb2 0
        have z1 : vb.cell? ⟨g2, 1, none⟩ = some (.slice none 0 0) := cell_of hb2 1
        have z2 : vb.cell? ⟨g2, 2, none⟩ = some (.int .u64 0) := cell_of hb2 2
        have zf := frozen_of hb2
        obtain ⟨t1, t2⟩ := setq3 hb2 rfl (uv cb.label) (.slice ub cb.elems.length ud) (uv cb.answer)
        have hk1 := hto1.kp.setCell (p := ⟨g2, 0, none⟩) (.inr hg2) (uv cb.label) |>.setCell (p := ⟨g2, 1, none⟩) (.inr hg2) (.slice ub cb.elems.length ud) |>.setCell (p := ⟨g2, 2, none⟩) (.inr hg2) (uv cb.answer)
        have hto2 := hto1.kpOther t2 (by rintro k rfl; exact ⟨hg2F, hg2⟩)
        have hp1 := ownsRow_kp hv1 t2 (by rintro k hk rfl; exact own_ne hv1 hb2 (by decide) hk)
        have hp2 := ownsRow_kp hv2 t2 (by rintro k hk rfl; exact own_ne hv2 hb2 (by decide) hk)
        have hb1 := t2.heap_some hgne s1
        refine N_one (i := 20) (by rw [hops, List.getElem?_toArray]; rfl) (by rw [hops]; kernel_rfl) (by first | rfl | (rw [hops]; rfl)) ?_
        intro K hK
        go_wp2_with fail
        refine ⟨fun _ => And.intro (HC9.out _ hk1) hk1, ?_⟩
        generalize (((vb.setCell ⟨g2, 0, none⟩ (uv cb.label)).setCell ⟨g2, 1, none⟩ (.slice ub cb.elems.length ud)).setCell ⟨g2, 2, none⟩ (uv cb.answer)) = vc at *
        clear z0 z1 z2 zf hk1 t2 hto1 hv1 hv2 hb2 s1
        have HKC : Hid (Kp F w9 vc) := hid hto2.kp
        have HATC := hid hto2.at'
        have HR1 := hid (OwnU.rdu hp1)
        have HR2 := hid (OwnU.rdu hp2)
        have HG1 := hid hb1
        have HG2 := hid t1
        clear hto2 hp1 hp2 hb1 t1 hg1 hg2 hg1F hg2F hgne
        refine N_one (i := 21) (by rw [hops, List.getElem?_toArray]; rfl) (by rw [hops]; kernel_rfl) (by first | rfl | (rw [hops]; rfl)) ?_
        intro K hK
        go_wp2_with fail
        try (with_reducible refine ⟨fun h => absurd h (by decide), ?_⟩)
        clear hal hgr hgr2 hgr3 hgr5 HR
        refine N_done (by rw [hops]; kernel_rfl) ?_
        try clear hK K
        clear hops ops
        have HXC : Hid (Ext w vc) := hid (HXW9.out.kp HKC.out HF9.out)
        have HBG := hid (HKC.out.heap_some hg0'.out (HX10.out.heap_some HB6.out))
        have HAL := hid (alike_any (ib := M.ideal) (st := M.state) (nn := M.draws) (sv := .slice msa msn msc) (pv := .slice mpa mpn mpc) HATC.out ((HRD.out.ext HX10.out).grow (G' := fun _ => False) HKC.out (fun _ h => h.elim)).now.qs ⟨_, _, _, rfl⟩ ⟨_, _, _, rfl⟩ (by have := HMG.out.2.2.2.1; omega) (fun q hq => by have := HMG.out.2.2.1 q hq; omega))
        have HV : Hid ((fitsP M.rpeek root n i x && (fitsP M.rpeek root n i y && !(x.same y))) = ok) := hid (by rw [HCL.out.1, HOK.out])
        have HGO : Hid (∀ a b, M.clash root n i x y = some (a, b) → ClashS M root n i x y a b) := hid HCL.out.2
        clear HCL
        generalize fitsP M.rpeek root n i x = A at *
        generalize fitsP M.rpeek root n i y = B at *
        obtain ⟨k0, k1, k2, k3, k4, k5⟩ := six_cellsO HBG.out
        go_wp2_with fail
        refine HAL.out.mono ?_
        rintro e wa ⟨rfl, hxa⟩
        have HXA := hid hxa
        clear hxa k0 k1 k2 k3 k4 k5 HAL
        cases A
        case' false =>
          have hok : ok = false := by rw [← HV.out]; rfl
          subst hok
          have HXQ := hid HXA.out
          go_upto_region 11 with fail
          generalize wa = wq at *
        case' true =>
          cases B
          case' false =>
            have hok : ok = false := by rw [← HV.out]; rfl
            subst hok
            have HXQ := hid HXA.out
            go_upto_region 11 with fail
            generalize wa = wq at *
          case' true =>
            have hcs := HC9.out wa (HKC.out.ext HXA.out)
            obtain ⟨⟨-, -, -, c3, c4, c5⟩, e0, e1, e2⟩ := hcs
            have HSA := hid (ref12Same_any (w := wa) (x := x) (y := y) (HL.out.ext (HXC.out.trans HXA.out)) (HP.out.ext (HXC.out.trans HXA.out)) (HL2.out.ext (HXC.out.trans HXA.out)) (HP2.out.ext (HXC.out.trans HXA.out)) (by have := HSL.out; omega) (by have := HSL.out; omega) (by have := HSM.out; omega) (by have := HSM.out; omega))
            go_wp2_with fail
            refine HSA.out.mono ?_
            rintro e wb ⟨rfl, hxb⟩
            have HXB := hid (HXA.out.trans hxb)
            clear hxb c3 c4 c5 e0 e1 e2 HSA
            cases hsm : x.same y
            case' true =>
              have hok : ok = false := by rw [← HV.out, hsm]; rfl
              subst hok
              clear hsm
              have HXQ := hid HXB.out
              go_upto_region 11 with fail
              generalize wb = wq at *
            case' false =>
              have hok : ok = true := by rw [← HV.out, hsm]; rfl
              subst hok
              clear hsm
              obtain ⟨a', b', hab⟩ : ∃ a' b', M.clash root n i x y = some (a', b') := by
                have h := HOK.out
                cases hc : M.clash root n i x y with
                | none => rw [hc] at h; cases h
                | some p => exact ⟨p.1, p.2, rfl⟩
              have hpq := HPQ.out
              rw [hab] at hpq
              simp only [Option.getD_some, Prod.mk.injEq] at hpq
              obtain ⟨rfl, rfl⟩ := hpq
              have HCS := hid (HGO.out _ _ hab)
              have y0 : wb.cell? ⟨g1, 0, none⟩ = some (uv ca.label) := cell_of (HXB.out.heap_some HG1.out) 0
              have y1 : wb.cell? ⟨g1, 1, none⟩ = some (.slice ua ca.elems.length uc) := cell_of (HXB.out.heap_some HG1.out) 1
              have y2 : wb.cell? ⟨g1, 2, none⟩ = some (uv ca.answer) := cell_of (HXB.out.heap_some HG1.out) 2
              have y3 : wb.cell? ⟨g2, 0, none⟩ = some (uv cb.label) := cell_of (HXB.out.heap_some HG2.out) 0
              have y4 : wb.cell? ⟨g2, 1, none⟩ = some (.slice ub cb.elems.length ud) := cell_of (HXB.out.heap_some HG2.out) 1
              have y5 : wb.cell? ⟨g2, 2, none⟩ = some (uv cb.answer) := cell_of (HXB.out.heap_some HG2.out) 2
              have HGE := hid (genuine_any (p := ca) (q := cb) (HATC.out.ext HXB.out) (HR1.out.ext HXB.out) (HR2.out.ext HXB.out) HCS.out.la HCS.out.lb (by have := HMG.out.2.2.2.1; omega) HCS.out.pa HCS.out.pb HCS.out.ans HCS.out.ne)
              clear hab
              go_wp2_with fail
              refine HGE.out.mono ?_
              rintro e wz ⟨rfl, hxz⟩
              have HXZ := hid ((HXC.out.trans HXB.out).trans hxz)
              clear hxz y0 y1 y2 y3 y4 y5
              go_wp2_with fail
              go_ret
              exact ⟨rfl, HXZ.out⟩
        all_goals
          have hno : M.clash root n i x y = none := by
            have h := HOK.out
            cases hc : M.clash root n i x y with
            | none => rfl
            | some p => rw [hc] at h; cases h
          have hpq := HPQ.out
          rw [hno] at hpq
          simp only [Option.getD_none, Prod.mk.injEq] at hpq
          obtain ⟨rfl, rfl⟩ := hpq
          have y0 : wq.cell? ⟨g1, 0, none⟩ = some (uv 0) := cell_of (HXQ.out.heap_some HG1.out) 0
          have y1 : wq.cell? ⟨g1, 1, none⟩ = some (.slice ua 0 uc) := cell_of (HXQ.out.heap_some HG1.out) 1
          have y2 : wq.cell? ⟨g1, 2, none⟩ = some (uv 0) := cell_of (HXQ.out.heap_some HG1.out) 2
          have HQ1 := hid (refQuestion_any ⟨0, [], 0⟩ ⟨0, [], 0⟩ (.slice ua 0 uc) (.slice none 0 0) wq (HR1.out.ext HXQ.out) ((RdC.nil wq).rdu rfl) (by simp) (by simp))
          clear hno
          go_wp2_with fail
          refine HQ1.out.mono ?_
          rintro e wr ⟨rfl, hxr⟩
          have HXR := hid (HXQ.out.trans hxr)
          clear hxr y0 y1 y2 HQ1
          have y0 : wr.cell? ⟨g2, 0, none⟩ = some (uv 0) := cell_of (HXR.out.heap_some HG2.out) 0
          have y1 : wr.cell? ⟨g2, 1, none⟩ = some (.slice ub 0 ud) := cell_of (HXR.out.heap_some HG2.out) 1
          have y2 : wr.cell? ⟨g2, 2, none⟩ = some (uv 0) := cell_of (HXR.out.heap_some HG2.out) 2
          have HQ2 := hid (refQuestion_any ⟨0, [], 0⟩ ⟨0, [], 0⟩ (.slice ub 0 ud) (.slice none 0 0) wr (HR2.out.ext HXR.out) ((RdC.nil wr).rdu rfl) (by simp) (by simp))
          go_wp2_with fail
          refine HQ2.out.mono ?_
          rintro e ws ⟨rfl, hxs⟩
          have HXS := hid ((HXC.out.trans HXR.out).trans hxs)
          clear hxs y0 y1 y2 HQ2
          go_wp2_with fail
          go_ret
          exact ⟨rfl, HXS.out⟩
end Go.Proofs.Ytdpgfjnpcjpdpaa
