/- The reference's Question and Questions: two recorded questions, two lists of them, compared. -/
import Derived.Test.YtdpgfjnpcjpdpaaSame
import Derived.Test.YtdpgfjnpcjpdpaaQs
set_option linter.unusedSimpArgs false
namespace Go.Proofs.Ytdpgfjnpcjpdpaa
open Go.RowKit
attribute [local irreducible] perm fAdd fMul fPow fSub fNeg fRed

def Qn.same (a b : Qn) : Bool := a.label == b.label && a.answer == b.answer && a.elems == b.elems
theorem Qn.same_self (a : Qn) : a.same a = true := by simp [Qn.same]
theorem u_eqB (x y : UInt64) : ((x.toNat : Int) == (y.toNat : Int)) = (x == y) := by
  rw [Bool.eq_iff_iff]
  simp only [beq_iff_eq]
  constructor
  · intro h; exact UInt64.toNat_inj.1 (by omega)
  · rintro rfl; rfl
set_option maxRecDepth 100000 in
set_option maxHeartbeats 1600000 in
theorem refQuestion_any (a b : Qn) (va vb : Value) (w : World) (ha : RdU w va a.elems) (hb : RdU w vb b.elems) (hA : a.elems.length ≤ 1000000000000) (hB : b.elems.length ≤ 1000000000000) :
    Calls Try.prog 60 #[.agg #[uv a.label, va, uv a.answer], .agg #[uv b.label, vb, uv b.answer]] w fun e w' => e = .returned (.bool (a.same b)) ∧ Ext w w' := by
  have HS : Hid (∀ v, Ext w v → Calls Try.prog 19 #[va, vb] v fun e w' => e = .returned (.bool (a.elems == b.elems)) ∧ Ext v w') := hid fun v k => Same_any _ _ _ _ _ (ha.ext k) (hb.ext k) hA hB
  obtain ⟨aa, ac, rfl, -⟩ := ha
  obtain ⟨ba, bc, rfl, -⟩ := hb
  have hx := ((Ext.refl w).alloc (.cells #[uv a.label, .slice aa a.elems.length ac, uv a.answer] 49)).alloc (.cells #[uv b.label, .slice ba b.elems.length bc, uv b.answer] 49)
  have HX := hid hx
  have hsame : ∀ x y z, ((a.label.toNat : Int) == (b.label.toNat : Int)) = x → ((a.answer.toNat : Int) == (b.answer.toNat : Int)) = y → (a.elems == b.elems) = z → a.same b = (x && y && z) := by
    rintro x y z rfl rfl rfl
    rw [u_eqB, u_eqB]; rfl
  have HSM := hid hsame
  clear hx hsame hA hB
  rcases h1 : ((a.label.toNat : Int) == (b.label.toNat : Int)) with _ | _
  · have hr := HSM.out _ _ _ h1 rfl rfl
    simp only [Bool.false_and] at hr
    rw [hr]
    clear hr
    go_enter Try.func60, Try.ntmps60
    go_wp2
    go_ret
    exact ⟨rfl, HX.out⟩
  · rcases h2 : ((a.answer.toNat : Int) == (b.answer.toNat : Int)) with _ | _
    · have hr := HSM.out _ _ _ h1 h2 rfl
      simp only [Bool.true_and, Bool.false_and] at hr
      rw [hr]
      clear hr
      go_enter Try.func60, Try.ntmps60
      go_wp2
      go_ret
      exact ⟨rfl, HX.out⟩
    · have hr := HSM.out _ _ _ h1 h2 rfl
      simp only [Bool.true_and] at hr
      have HR := hid hr
      clear hr
      go_enter Try.func60, Try.ntmps60
      go_wp2_with fail
      refine (HS.out _ HX.out).mono ?_
      rintro e w3 ⟨rfl, hx3⟩
      have HX3 := hid (HX.out.trans hx3)
      clear hx3
      have HR' : Hid (∀ r, (a.elems == b.elems) = r → a.same b = r) := hid fun r h => HR.out.trans h
      rcases hr : (a.elems == b.elems) with _ | _
      · have HQ := hid (HR'.out _ hr)
        clear hr
        go_wp2
        go_ret
        exact ⟨by rw [HQ.out]; rfl, HX3.out⟩
      · have HQ := hid (HR'.out _ hr)
        clear hr
        go_wp2
        go_ret
        exact ⟨by rw [HQ.out]; rfl, HX3.out⟩

/-- A slice that reads as a list of questions. -/
def RdQ (w : World) (v : Value) (l : List Qn) : Prop :=
  ∃ a c, v = .slice a l.length c ∧ l.length ≤ c ∧ c ≤ maxLen ∧ (a = none → c = 0) ∧
    ∀ ad, a = some ad → ad.spot = none ∧ ∀ i q, l[i]? = some q → ∃ u, w.cell? ⟨ad.block, ad.off + i * 3, none⟩ = some (uv q.label) ∧ w.cell? ⟨ad.block, ad.off + i * 3 + 1, none⟩ = some u ∧
      w.cell? ⟨ad.block, ad.off + i * 3 + 2, none⟩ = some (uv q.answer) ∧ RdU w u q.elems
theorem RdQ.ext {w w' : World} {v : Value} {l : List Qn} (h : RdQ w v l) (k : Ext w w') : RdQ w' v l := by
  obtain ⟨a, c, rfl, h2, h3, h4, h5⟩ := h
  refine ⟨a, c, rfl, h2, h3, h4, fun ad ha => ⟨(h5 ad ha).1, fun i n hn => ?_⟩⟩
  obtain ⟨u, e0, e1, e2, e3⟩ := (h5 ad ha).2 i n hn
  exact ⟨u, k.cell_some e0, k.cell_some e1, k.cell_some e2, e3.ext k⟩
theorem RdQ.at {w : World} {a : Option Addr} {n c : Nat} {l : List Qn} (h : RdQ w (.slice a n c) l) {i : Nat} {x : Qn} (hx : l[i]? = some x) : ∃ b o u, a = some ⟨b, o, none⟩ ∧
    w.cell? ⟨b, o + i * 3, none⟩ = some (uv x.label) ∧ w.cell? ⟨b, o + i * 3 + 1, none⟩ = some u ∧ w.cell? ⟨b, o + i * 3 + 2, none⟩ = some (uv x.answer) ∧ RdU w u x.elems := by
  obtain ⟨a', c', he, hlc, _, hnil, hcell⟩ := h
  injection he with h1 h2 h3
  subst h1
  have hi : i < l.length := (List.getElem?_eq_some_iff.1 hx).1
  cases a with
  | none => have := hnil rfl; omega
  | some ad =>
    obtain ⟨hs, hc⟩ := hcell ad rfl
    obtain ⟨b, o, s⟩ := ad
    simp only at hs
    subst hs
    obtain ⟨u, hu⟩ := hc i x hx
    exact ⟨b, o, u, rfl, hu⟩
theorem rdQ_of {w : World} {v : Value} {Q : List (Qn × Value)} {qs : List Qn} (hQ : Q.map (·.1) = qs) (ho : w.ownsRow 0 49 3 v Q.length (qCells Q)) (he : ∀ x ∈ Q, OwnU w x.2 x.1.elems) : RdQ w v qs := by
  obtain ⟨a, c, rfl, h1, h2, h3, h4⟩ := ownsRow_rd ho
  have hl : Q.length = qs.length := by rw [← hQ, List.length_map]
  rw [hl] at h1 ⊢
  refine ⟨a, c, rfl, h1, h2, h3, fun ad ha => ⟨(h4 ad ha).1, fun i q hq => ?_⟩⟩
  rw [← hQ, List.getElem?_map] at hq
  obtain ⟨⟨q', u⟩, hx, rfl⟩ := Option.map_eq_some_iff.1 hq
  obtain ⟨e0, e1, e2⟩ := qCells_at Q i q' u hx
  have hh := (h4 ad ha).2
  exact ⟨u, hh _ _ e0, by have := hh _ _ e1; rwa [← Nat.add_assoc] at this, by have := hh _ _ e2; rwa [← Nat.add_assoc] at this, (he _ (List.mem_of_getElem? hx)).rdu⟩

set_option maxRecDepth 100000 in
set_option maxHeartbeats 1600000 in
theorem refQuestions_any (qs : List Qn) (va vb : Value) (w : World) (ha : RdQ w va qs) (hb : RdQ w vb qs) (hE : ∀ q ∈ qs, q.elems.length ≤ 1000000000000) (hL : qs.length ≤ 1000000000) :
    Calls Try.prog 103 #[va, vb] w fun e w' => e = .returned (.bool true) ∧ Ext w w' := by
  obtain ⟨aa, ac, rfl, -⟩ := id ha
  obtain ⟨ba, bc, rfl, -⟩ := id hb
  have HA := hid ha
  have HB := hid hb
  have HE := hid hE
  obtain ⟨n, hn⟩ : ∃ n, n = qs.length := ⟨_, rfl⟩
  have HN := hid hn
  rw [← hn] at HA HB hL ⊢
  clear ha hb hE hn
  have hB : ((n : Int) != (n : Int)) = false := by simp
  go_enter Try.func103, Try.ntmps103
  go_wp2_with fail
  go_loopw [5] (fun iv wr => ∃ i : Nat, i ≤ n ∧ iv = .int .i64 i ∧ Hid (Ext w wr)) (fun iv _ => (n - (intOf iv).toNat))
  case atStart => exact ⟨0, by omega, rfl, hid (Ext.refl _)⟩
  case round =>
    obtain ⟨i, hi, rfl, HX⟩ := hrel
    by_cases hlt : i < n
    · have hltB : decide ((i : Int) < (n : Int)) = true := by simp; omega
      obtain ⟨q, hq⟩ : ∃ q, qs[i]? = some q := ⟨_, List.getElem?_eq_getElem (by have := HN.out; omega)⟩
      obtain ⟨ab, ao, ua, rfl, e0, e1, e2, e3⟩ := HA.out.at hq
      obtain ⟨bb, bo, ub, rfl, f0, f1, f2, f3⟩ := HB.out.at hq
      obtain ⟨x1, x2, rfl, -⟩ := id e3
      obtain ⟨y1, y2, rfl, -⟩ := id f3
      have hil : (i : Int) < (n : Int) := by omega
      have hi0 : (0 : Int) ≤ (i : Int) := Int.natCast_nonneg _
      have H6 : Hid (∀ v, Ext w v → (v.cell? ⟨ab, ao + i * 3, none⟩ = some (uv q.label) ∧ v.cell? ⟨ab, ao + i * 3 + 1, none⟩ = some (.slice x1 q.elems.length x2) ∧ v.cell? ⟨ab, ao + i * 3 + 2, none⟩ = some (uv q.answer)) ∧
          v.cell? ⟨bb, bo + i * 3, none⟩ = some (uv q.label) ∧ v.cell? ⟨bb, bo + i * 3 + 1, none⟩ = some (.slice y1 q.elems.length y2) ∧ v.cell? ⟨bb, bo + i * 3 + 2, none⟩ = some (uv q.answer)) :=
        hid fun v k => ⟨⟨k.cell_some e0, k.cell_some e1, k.cell_some e2⟩, k.cell_some f0, k.cell_some f1, k.cell_some f2⟩
      have HCQ : Hid (∀ v, Ext w v → Calls Try.prog 60 #[.agg #[uv q.label, .slice x1 q.elems.length x2, uv q.answer], .agg #[uv q.label, .slice y1 q.elems.length y2, uv q.answer]] v fun e w' => e = .returned (.bool true) ∧ Ext v w') := hid fun v k => by
        have hlen := HE.out q (List.mem_of_getElem? hq)
        have := refQuestion_any q q _ _ v (e3.ext k) (f3.ext k) hlen hlen
        rw [Qn.same_self] at this
        exact this
      clear e0 e1 e2 e3 f0 f1 f2 f3 hq
      go_wp2_with fail
      refine wp_region_T (fun v => ((v.cell? ⟨ab, ao + i * 3, none⟩ = some (uv q.label) ∧ v.cell? ⟨ab, ao + i * 3 + 1, none⟩ = some (.slice x1 q.elems.length x2) ∧ v.cell? ⟨ab, ao + i * 3 + 2, none⟩ = some (uv q.answer)) ∧ v.cell? ⟨bb, bo + i * 3, none⟩ = some (uv q.label) ∧ v.cell? ⟨bb, bo + i * 3 + 1, none⟩ = some (.slice y1 q.elems.length y2) ∧ v.cell? ⟨bb, bo + i * 3 + 2, none⟩ = some (uv q.answer)) ∧ Ext w v) 8 [(0, true), (1, true), (2, true), (3, true), (4, true), (5, true), (6, true), (7, true), (8, false), (9, false)] (by kernel_rfl) (by kernel_rfl) (by intro c a d v w h; cases d <;> exact h) ?_
      intro ops hops
      have HS : _ ∧ Ext w wr.drew := ⟨H6.out _ HX.out.drew, HX.out.drew⟩
      iterate 8
        refine wpT_take (v := ?_) (by rw [hops, List.getElem?_toArray]; rfl) (by first | rfl | (rw [hops]; rfl)) ?_ HS ?_
        rotate_left
        · intro v h; go_simp; with_reducible rfl
        simp only [Act.put, List.getElem_toArray, List.getElem_cons_zero, List.getElem_cons_succ, List.setIfInBounds_toArray, List.set_cons_zero, List.set_cons_succ]
      refine wpT_step (by rw [hops, List.getElem?_toArray]; rfl) (by first | rfl | (rw [hops]; rfl)) ?_
      intro K hK
      go_wp2_with fail
      refine (HCQ.out _ HX.out.drew).mono ?_
      rintro e w1 ⟨rfl, hx1⟩
      have HX1 := hid (HX.out.drew.trans hx1)
      clear hx1 HS
      refine hK _ _ ⟨fun h => absurd h (by decide), ?_⟩
      clear hK K
      refine wpT_step (by rw [hops, List.getElem?_toArray]; rfl) (by first | rfl | (rw [hops]; rfl)) ?_
      intro K hK
      go_wp2_with fail
      refine ⟨fun h => absurd h (by decide), ?_⟩
      rw [wpT_nil]
      clear hops ops
      go_wp2_with fail
      go_roundw
      case rel => exact ⟨i + 1, by omega, by go_num, HX1⟩
      case measure => simp [intOf]; omega
    · have hin' : i = n := by omega
      have hltB : decide ((i : Int) < (n : Int)) = false := by simp; omega
      go_wp2
      go_ret
      exact ⟨rfl, HX.out⟩
end Go.Proofs.Ytdpgfjnpcjpdpaa
