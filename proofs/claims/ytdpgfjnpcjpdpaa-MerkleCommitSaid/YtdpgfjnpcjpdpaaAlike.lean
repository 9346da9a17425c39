/- The law's alike: the oracle and the reference's one know the same questions. A world's two oracles, laid down beside a new block. -/
import Derived.Test.YtdpgfjnpcjpdpaaRefO
import Derived.Test.YtdpgfjnpcjpdpaaAllocs
set_option linter.unusedSimpArgs false
namespace Go.Proofs.Ytdpgfjnpcjpdpaa
open Go.RowKit
attribute [local irreducible] perm fAdd fMul fPow fSub fNeg fRed hashU drawOf nextState
set_option maxRecDepth 100000 in
set_option maxHeartbeats 3200000 in
theorem alike_any {w : World} {b : Nat} {M : Orc} {F : Nat → Prop} {ib : Bool} {st : UInt64} {nn : Nat} {qv sv pv : Value} (h : OrcAt w b M F) (hc : RdQc w qv M.qs) (hs : isSl sv) (hp : isSl pv) (hq : M.qs.length ≤ 1000000000) (hE : ∀ q ∈ M.qs, q.elems.length ≤ 1000000000000) :
    Calls Try.prog 54 #[.pointer (some ⟨b, 0, none⟩), oVal ib st nn qv sv pv] w fun e w' => e = .returned (.bool true) ∧ Ext w w' := by
  obtain ⟨sa, sn, sc, rfl⟩ := hs
  obtain ⟨pa, pn, pc, rfl⟩ := hp
  have hrq := hc.rdQ
  obtain ⟨qa, qc, rfl, -⟩ := id hrq
  obtain ⟨w0, hw0⟩ : ∃ w0, w0 = w.alloc (.cells #[.bool ib, uv st, .int .i64 (nn : Int), .slice qa M.qs.length qc, .slice sa sn sc, .slice pa pn pc] 105) := ⟨_, rfl⟩
  have hx0 : Ext w w0 := by rw [hw0]; exact (Ext.refl _).alloc _
  have hb0 : w0.heap[w.heap.size]? = some (.cells #[.bool ib, uv st, .int .i64 (nn : Int), .slice qa M.qs.length qc, .slice sa sn sc, .slice pa pn pc] 105 (0, 0)) := by rw [hw0]; exact heap_new _ _
  have HW := hid hw0
  have HX0 := hid hx0
  have HB0 := hid hb0
  have HRQ := hid (hrq.ext hx0)
  have HO := hid (h.ext hx0)
  have HE := hid hE
  have HQ := hid hq
  have HQS := hid (Questions_any (HO.out.ext (Ext.refl _).drew) hq hE)
  clear hw0 hx0 hb0 hrq hc h hE
  go_enter Try.func54, Try.ntmps54
  go_upto_region 1 with fail
  rw [← HW.out]
  have H3 : Hid (∀ v, Ext w0 v → v.cell? ⟨w.heap.size, 3, none⟩ = some (.slice qa M.qs.length qc)) := hid fun v k => k.cell_some (cell_of HB0.out 3)
  refine wp_region_T (fun v => (v.cell? ⟨w.heap.size, 3, none⟩ = some (.slice qa M.qs.length qc)) ∧ Ext w0 v) 5 [(0, true), (2, true), (3, true), (4, true), (1, false), (5, false), (6, false)] (by kernel_rfl) (by kernel_rfl) (by intro c a d v w h; cases d <;> exact h) ?_
  intro ops hops
  have HS := keep0 H3.out
  iterate 4
    refine wpT_take (v := ?_) (by rw [hops, List.getElem?_toArray]; rfl) (by first | rfl | (rw [hops]; rfl)) ?_ HS ?_
    rotate_left
    · intro v h; go_simp; with_reducible rfl
    simp only [Act.put, List.getElem_toArray, List.getElem_cons_zero, List.getElem_cons_succ, List.setIfInBounds_toArray, List.set_cons_zero, List.set_cons_succ]
  refine wpT_step (by rw [hops, List.getElem?_toArray]; rfl) (by first | rfl | (rw [hops]; rfl)) ?_
  intro K hK
  go_wp2_with fail
  refine HQS.out.mono ?_
  rintro e w1 ⟨v1, Q1, rfl, hQ1, hown, hels, hx1, -⟩
  have hr1 := rdQ_of hQ1 hown (fun x hx => (hels x hx).1)
  obtain ⟨va, vc, rfl, -⟩ := id hr1
  have HX1 := hid (HS.2.trans hx1)
  have HR1 := hid hr1
  refine hK _ _ ⟨fun _ => keepE H3.out HS hx1, ?_⟩
  clear hK K
  clear HS hown hels hx1 hr1 HQS
  refine wpT_step (by rw [hops, List.getElem?_toArray]; rfl) (by first | rfl | (rw [hops]; rfl)) ?_
  intro K hK
  go_wp2_with fail
  refine (refQuestions_any M.qs _ _ _ HR1.out (HRQ.out.ext HX1.out) HE.out HQ.out).mono ?_
  rintro e w2 ⟨rfl, hx2⟩
  have HX2 := hid ((HX0.out.trans HX1.out).trans hx2)
  clear hx2
  refine hK _ _ ⟨fun h => absurd h (by decide), ?_⟩
  clear hK K
  refine wpT_step (by rw [hops, List.getElem?_toArray]; rfl) (by first | rfl | (rw [hops]; rfl)) ?_
  intro K hK
  go_wp2_with fail
  try (with_reducible refine ⟨fun h => absurd h (by decide), ?_⟩)
  try rw [wpT_nil]
  try clear hops ops
  go_wp2_with fail
  go_ret
  exact ⟨rfl, HX2.out⟩

abbrev Z12 : Obj := .cells #[.bool false, .int .u64 0, .int .i64 0, .slice none 0 0, .slice none 0 0, .slice none 0 0] 105
/-- Behind begin: the program's oracle; and a reference's one, where it is there already. -/
def CB0 (w0 : World) (M : Orc) (r : Value) : CB := fun b1 x v => ∃ b F, r = .pointer (some ⟨b, 0, none⟩) ∧ OrcAt v b M F ∧ (∀ k, F k → w0.heap.size ≤ k) ∧ Ext w0 v ∧ (b1 = true → zF w0 F Z12 x v)
theorem CB0.grows {w0 : World} {M : Orc} {r : Value} {S : World → Prop} (hS : ∀ v, Ext w0 v → S v) : CB.Grows S Z12 (CB0 w0 M r) where
  s := fun _ _ _ ⟨_, _, _, _, _, h, _⟩ => hS _ h
  g1 := fun _ _ ⟨b, F, h1, h2, h3, h4, _⟩ => ⟨b, F, h1, h2.ext ((Ext.refl _).alloc _), h3, h4.alloc _, fun _ => zF.new h4.size h2.foot_lt⟩
theorem CB0.ext {w0 : World} {M : Orc} {r : Value} {b1 : Bool} {x : Value} {v v' : World} (h : CB0 w0 M r b1 x v) (k : Ext v v') : CB0 w0 M r b1 x v' := by
  obtain ⟨b, F, h1, h2, h3, h4, h5⟩ := h
  exact ⟨b, F, h1, h2.ext k, h3, h4.trans k, fun hb => (h5 hb).kp (.of_ext k) fun _ _ h => h⟩
/-- Behind Oracle, too: the reference's oracle as a value, whose lists lie neither in the blocks in front of the call nor behind it. -/
def CB1 (w0 : World) (M : Orc) (r rm : Value) : CB := fun b1 x v => ∃ b F, (r = .pointer (some ⟨b, 0, none⟩) ∧ OrcAt v b M F ∧ (∀ k, F k → w0.heap.size ≤ k) ∧ Ext w0 v ∧ (b1 = true → zF w0 F Z12 x v)) ∧
  ∃ qv sv pv u0 L, rm = oVal M.ideal M.state M.draws qv sv pv ∧ Ext u0 v ∧ StMc (fun k => k < L) u0 qv sv pv M ∧ (∀ k, F k → k < L) ∧ (b1 = true → ∃ g, x = .pointer (some ⟨g, 0, none⟩) ∧ (g < L ∨ u0.heap.size ≤ g))
theorem CB1.grows {w0 : World} {M : Orc} {r rm : Value} {S : World → Prop} (hS : ∀ v, Ext w0 v → S v) : CB.Grows S Z12 (CB1 w0 M r rm) where
  s := fun _ _ _ ⟨_, _, h, _⟩ => hS _ h.2.2.2.1
  g1 := fun _ _ ⟨b, F, ⟨a1, a2, a3, a4, _⟩, qv, sv, pv, u0, L, h1, h2, h3, h4, _⟩ => ⟨b, F, ⟨a1, a2.ext ((Ext.refl _).alloc _), a3, a4.alloc _, fun _ => zF.new a4.size a2.foot_lt⟩, qv, sv, pv, u0, L, h1, h2.alloc _, h3, h4, fun _ => ⟨_, rfl, .inr h2.size⟩⟩
theorem st_put {u0 v W : World} {L g : Nat} {F : Nat → Prop} {qv sv pv : Value} {M : Orc} (h2 : Ext u0 v) (h3 : StMc (fun k => k < L) u0 qv sv pv M) (hF : ∀ k, F k → k < L) (h5 : g < L ∨ u0.heap.size ≤ g) (hk : Kp (fun k => k = g) v W) : StMc F W qv sv pv M := by
  rcases h5 with h5 | h5
  · exact h3.grow ((Kp.of_ext h2).trans (hk.mono fun k _ h => by subst h; exact h5)) (fun i h => .inl (hF i h))
  · exact h3.grow (.of_ext (h2.kp hk fun k h => by subst h; exact h5)) (fun i h => .inl (hF i h))
/-- The same, and the new block itself may turn. -/
theorem st_putB {u0 v W : World} {L g : Nat} {F : Nat → Prop} {qv sv pv : Value} {M : Orc} (h2 : Ext u0 v) (h3 : StMc (fun k => k < L) u0 qv sv pv M) (hF : ∀ k, F k → k < L) (h5 : g < L ∨ u0.heap.size ≤ g) (hk : Kp (fun k => k = g) v W) : StMc (fun k => F k ∨ k = g) W qv sv pv M := by
  rcases h5 with h5 | h5
  · exact h3.grow ((Kp.of_ext h2).trans (hk.mono fun k _ h => by subst h; exact h5)) (fun i h => .inl (by
      rcases h with h | h
      · exact hF i h
      · subst h; exact h5))
  · exact h3.grow (.of_ext (h2.kp hk fun k h => by subst h; exact h5)) (fun i h => by
      rcases h with h | h
      · exact .inl (hF i h)
      · subst h; exact .inr h5)
theorem begin_sound (real : Bool) (seed : UInt64) (Q : List Qn) : (beginM real seed Q).sound := by
  cases real with
  | true => intro _ q hq; cases hq
  | false =>
    intro h
    have : (beginM false seed Q).ideal = true := by
      show ((Orc.fresh true seed).progs Q).ideal = true
      rw [progs_ideal]; rfl
    rw [this] at h; cases h
theorem begin_elems (real : Bool) (seed : UInt64) (Q : List Qn) (h : fewW Q = true) : ∀ q ∈ (beginM real seed Q).qs, q.elems.length ≤ 20 := by
  cases real with
  | true => intro q hq; cases hq
  | false => exact progs_all (P := fun q => q.elems.length ≤ 20) Q (Orc.fresh true seed) (fun q hq => by cases hq) (fewW_parts h).1
end Go.Proofs.Ytdpgfjnpcjpdpaa
