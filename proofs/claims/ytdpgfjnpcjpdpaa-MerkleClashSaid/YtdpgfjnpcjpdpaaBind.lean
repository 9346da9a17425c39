/- The reference's Same of openings; genuine; what stays small and good. -/
import Derived.Test.YtdpgfjnpcjpdpaaClash
import Derived.Test.YtdpgfjnpcjpdpaaMOpens
import Derived.Test.YtdpgfjnpcjpdpaaRefQ
import Derived.Test.YtdpgfjnpcjpdpaaAllocs
import Derived.Test.YtdpgfjnpcjpdpaaOwn12
import Derived.Test.YtdpgfjnpcjpdpaaMUnk
set_option linter.unusedSimpArgs false
namespace Go.Proofs.Ytdpgfjnpcjpdpaa
open Go.RowKit
attribute [local irreducible] perm fAdd fMul fPow fSub fNeg fRed hashU drawOf nextState awT

theorem Good.climb : ∀ (k : Nat) (M : Orc) (level : List UInt64), Good M → Good (M.climb k level).2
  | 0, M, level, h => by rw [Orc.climb]; exact h
  | k + 1, M, level, h => by
    by_cases h1 : level.length ≤ 1
    · rw [climb_stop M (k + 1) level h1]; exact h
    · rw [climb_go M k level h1]
      exact Good.climb k _ _ (Good.asks _ h)
theorem Good.commit {M : Orc} (h : Good M) (leaves : Lv) (salts : List UInt64) : Good (M.commitT leaves salts).2 := by
  unfold Orc.commitT
  split
  · exact Good.climb _ _ _ (Good.asks _ h)
  · exact h
theorem ask_small {M : Orc} {f : AskF} (hf : f = peekF ∨ f = hashF) (a : UInt64) (l : List UInt64) : (f M a l).2.qs.length ≤ M.qs.length + 1 ∧ (f M a l).2.draws ≤ M.draws + 1 := by
  rcases hf with rfl | rfl
  · exact ⟨Nat.le_succ _, Nat.le_succ _⟩
  · exact ⟨hash_qs_le M a l, hash_draws_le M a l⟩
theorem fol_small {f : AskF} (hf : f = peekF ∨ f = hashF) : ∀ (l : List UInt64) (i : Nat) (M : Orc) (q : UInt64 × List UInt64), (folF f l i M q).2.qs.length ≤ M.qs.length + l.length + 1 ∧ (folF f l i M q).2.draws ≤ M.draws + l.length + 1
  | [], i, M, q => by
    unfold folF; split <;> exact ask_small hf _ _
  | p :: r, i, M, q => by
    have h1 := ask_small (M := M) hf q.1 q.2
    unfold folF
    split
    · have h2 := fol_small hf r (i / 2) (f M q.1 q.2).2 (17, pairOf i (f M q.1 q.2).1.1 p)
      simp only [pre, List.length_cons]
      omega
    · simp only [List.length_cons]; omega
theorem verify_small (M : Orc) (root : UInt64) (n i : Int) (x : Opn) : (M.verify root n i x).2.qs.length ≤ M.qs.length + x.path.length + 1 ∧ (M.verify root n i x).2.draws ≤ M.draws + x.path.length + 1 := by
  unfold Orc.verify
  split
  · have hf : (if M.ideal then peekF else hashF) = peekF ∨ (if M.ideal then peekF else hashF) = hashF := by cases M.ideal <;> simp
    exact fol_small hf _ _ _ _
  · simp only; omega

set_option maxRecDepth 100000 in
set_option maxHeartbeats 800000 in
theorem SameW_any (av bv : Value) (a b : List UInt64) (w : World) (ha : RdU' w av a) (hb : RdU' w bv b) (hA : a.length ≤ 1000000000000) (hB : b.length ≤ 1000000000000) :
    Calls Try.prog 19 #[av, bv] w fun e w' => e = .returned (.bool (a == b)) ∧ Ext w w' := by
  by_cases hlen : a.length = b.length
  · cases a with
    | nil =>
      obtain rfl : b = [] := List.length_eq_zero_iff.1 hlen.symm
      obtain ⟨aa, ac, rfl, -⟩ := ha
      obtain ⟨ba, bc, rfl, -⟩ := hb
      go_enter Try.func19, Try.ntmps19
      go_wp2
      go_loopw [5] (fun iv wr => iv = .int .i64 0 ∧ wr = w) (fun _ _ => 0)
      case atStart => exact ⟨rfl, rfl⟩
      case round =>
        obtain ⟨rfl, rfl⟩ := hrel
        go_wp2
        go_ret
        exact ⟨rfl, Ext.refl _⟩
    | cons x r =>
      cases b with
      | nil => simp at hlen
      | cons y s => exact Same_any av bv _ _ w (ha.rdu (by simp)) (hb.rdu (by simp)) hA hB
  · obtain ⟨aa, ac, rfl, -⟩ := ha
    obtain ⟨ba, bc, rfl, -⟩ := hb
    have hlB : ((a.length : Int) != (b.length : Int)) = true := by simp; omega
    have hfin : (a == b) = false := by
      rw [beq_eq_false_iff_ne]; rintro rfl; exact hlen rfl
    have HF := hid hfin
    clear hfin hlen
    go_enter Try.func19, Try.ntmps19
    go_wp2
    go_ret
    exact ⟨ret_bool HF.out.symm, Ext.refl _⟩

def Opn.same (x y : Opn) : Bool := x.salt == y.salt && (x.leaf == y.leaf && x.path == y.path)
theorem Opn.same_eq {x y : Opn} (h : x.same y = false) : x ≠ y := by
  rintro rfl
  unfold Opn.same at h
  simp at h
set_option maxRecDepth 100000 in
set_option maxHeartbeats 1600000 in
theorem ref12Same_any {w : World} {x y : Opn} {lf pv lf2 pv2 : Value} (h1 : RdU' w lf x.leaf) (h2 : RdU' w pv x.path) (h3 : RdU' w lf2 y.leaf) (h4 : RdU' w pv2 y.path) (l1 : x.leaf.length ≤ 1000000000) (l2 : x.path.length ≤ 1000000000) (l3 : y.leaf.length ≤ 1000000000) (l4 : y.path.length ≤ 1000000000) :
    Calls Try.prog 56 #[.agg #[lf, uv x.salt, pv], .agg #[lf2, uv y.salt, pv2]] w fun e w' => e = .returned (.bool (x.same y)) ∧ Ext w w' := by
  obtain ⟨la, lc, rfl, -⟩ := id h1
  obtain ⟨pa, pc, rfl, -⟩ := id h2
  obtain ⟨ma, mc, rfl, -⟩ := id h3
  obtain ⟨ra, rc, rfl, -⟩ := id h4
  obtain ⟨w0, hw0⟩ : ∃ w0, w0 = (w.alloc (.cells #[.slice la x.leaf.length lc, uv x.salt, .slice pa x.path.length pc] 53)).alloc (.cells #[.slice ma y.leaf.length mc, uv y.salt, .slice ra y.path.length rc] 53) := ⟨_, rfl⟩
  have hx0 : Ext w w0 := by rw [hw0]; exact ((Ext.refl w).alloc _).alloc _
  have hba : w0.heap[w.heap.size]? = some (.cells #[.slice la x.leaf.length lc, uv x.salt, .slice pa x.path.length pc] 53 (0, 0)) := by rw [hw0]; exact heap_alloc_some (heap_new _ _)
  have hbb : w0.heap[w.heap.size + 1]? = some (.cells #[.slice ma y.leaf.length mc, uv y.salt, .slice ra y.path.length rc] 53 (0, 0)) := by
    rw [hw0]
    have := heap_new (w.alloc (.cells #[.slice la x.leaf.length lc, uv x.salt, .slice pa x.path.length pc] 53)) (.cells #[.slice ma y.leaf.length mc, uv y.salt, .slice ra y.path.length rc] 53)
    rwa [World.size_alloc] at this
  have hce : ∀ v, Ext w0 v → v.cell? ⟨w.heap.size, 0, none⟩ = some (.slice la x.leaf.length lc) ∧ v.cell? ⟨w.heap.size, 1, none⟩ = some (uv x.salt) ∧ v.cell? ⟨w.heap.size, 2, none⟩ = some (.slice pa x.path.length pc) ∧
      v.cell? ⟨w.heap.size + 1, 0, none⟩ = some (.slice ma y.leaf.length mc) ∧ v.cell? ⟨w.heap.size + 1, 1, none⟩ = some (uv y.salt) ∧ v.cell? ⟨w.heap.size + 1, 2, none⟩ = some (.slice ra y.path.length rc) := fun v k =>
    ⟨k.cell_some (cell_of hba 0), k.cell_some (cell_of hba 1), k.cell_some (cell_of hba 2), k.cell_some (cell_of hbb 0), k.cell_some (cell_of hbb 1), k.cell_some (cell_of hbb 2)⟩
  obtain ⟨c0, c1, c2, c3, c4, c5⟩ := hce w0 (Ext.refl _)
  have HCE := hid hce
  have HX0 := hid hx0
  have HS1 := hid (SameW_any _ _ x.leaf y.leaf w0 (h1.ext hx0) (h3.ext hx0) (by omega) (by omega))
  have HS2 := hid fun (v : World) (k : Ext w v) => SameW_any _ _ x.path y.path v (h2.ext k) (h4.ext k) (by omega) (by omega)
  obtain ⟨R, hR⟩ : ∃ R, R = x.same y := ⟨_, rfl⟩
  have hRd : R = (x.salt == y.salt && (x.leaf == y.leaf && x.path == y.path)) := hR
  rw [← hR]
  have HR := hid hRd
  have HW0 := hid hw0
  clear hw0 hba hbb hce hx0 h1 h2 h3 h4 l1 l2 l3 l4 hR hRd
  have hsb := u_eqB x.salt y.salt
  cases hs : x.salt == y.salt with
  | false =>
    have HF : Hid (R = false) := hid (by rw [HR.out, hs]; rfl)
    rw [hs] at hsb
    clear hs
    go_enter Try.func56, Try.ntmps56
    go_wp2_with fail
    go_ret
    rw [← HW0.out]
    exact ⟨ret_bool HF.out.symm, HX0.out⟩
  | true =>
    rw [hs] at hsb
    have HR' : Hid (R = (x.leaf == y.leaf && x.path == y.path)) := hid (by rw [HR.out, hs]; rfl)
    clear hs
    go_enter Try.func56, Try.ntmps56
    go_wp2_with fail
    rw [← HW0.out]
    refine HS1.out.mono ?_
    rintro e w1 ⟨rfl, hx1⟩
    have HX1 := hid (HX0.out.trans hx1)
    obtain ⟨d0, d1, d2, d3, d4, d5⟩ := HCE.out w1 hx1
    clear c0 c1 c2 c3 c4 c5 hx1
    cases hl : x.leaf == y.leaf with
    | false =>
      have HF : Hid (R = false) := hid (by rw [HR'.out, hl]; rfl)
      clear hl
      go_wp2_with fail
      go_ret
      exact ⟨ret_bool HF.out.symm, HX1.out⟩
    | true =>
      have HF : Hid (R = (x.path == y.path)) := hid (by rw [HR'.out, hl]; rfl)
      clear hl
      go_wp2_with fail
      refine (HS2.out _ HX1.out).mono ?_
      rintro e w2 ⟨rfl, hx2⟩
      have HX2 := hid (HX1.out.trans hx2)
      clear hx2 d0 d1 d2 d3 d4 d5
      go_wp2_with fail
      go_ret
      exact ⟨ret_bool HF.out.symm, HX2.out⟩

set_option maxRecDepth 100000 in
set_option maxHeartbeats 1600000 in
theorem genuine_any {w : World} {b : Nat} {M : Orc} {F : Nat → Prop} {p q : Qn} {u v : Value} (h : OrcAt w b M F) (hp : RdU w u p.elems) (hq : RdU w v q.elems) (hpl : p.elems.length ≤ 1000000001) (hql : q.elems.length ≤ 1000000001) (hqs : M.qs.length ≤ 1000000000)
    (hpp : M.peek p.label p.elems = (p.answer, true)) (hqp : M.peek q.label q.elems = (q.answer, true)) (ha : p.answer = q.answer) (hne : p.elems ≠ q.elems) :
    Calls Try.prog 58 #[.pointer (some ⟨b, 0, none⟩), .agg #[uv p.label, u, uv p.answer], .agg #[uv q.label, v, uv q.answer]] w fun e w' => e = .returned (.bool true) ∧ Ext w w' := by
  obtain ⟨pl, pe, pans⟩ := p
  obtain ⟨ql, qe, qans⟩ := q
  simp only at *
  subst ha
  obtain ⟨ua, uc, rfl, -⟩ := id hp
  obtain ⟨va, vc, rfl, -⟩ := id hq
  obtain ⟨w0, hw0⟩ : ∃ w0, w0 = (w.alloc (.cells #[uv pl, .slice ua pe.length uc, uv pans] 49)).alloc (.cells #[uv ql, .slice va qe.length vc, uv pans] 49) := ⟨_, rfl⟩
  have hx0 : Ext w w0 := by rw [hw0]; exact ((Ext.refl w).alloc _).alloc _
  have hba : w0.heap[w.heap.size]? = some (.cells #[uv pl, .slice ua pe.length uc, uv pans] 49 (0, 0)) := by rw [hw0]; exact heap_alloc_some (heap_new _ _)
  have hbb : w0.heap[w.heap.size + 1]? = some (.cells #[uv ql, .slice va qe.length vc, uv pans] 49 (0, 0)) := by
    rw [hw0]
    have := heap_new (w.alloc (.cells #[uv pl, .slice ua pe.length uc, uv pans] 49)) (.cells #[uv ql, .slice va qe.length vc, uv pans] 49)
    rwa [World.size_alloc] at this
  have hce : ∀ v, Ext w0 v → v.cell? ⟨w.heap.size, 0, none⟩ = some (uv pl) ∧ v.cell? ⟨w.heap.size, 1, none⟩ = some (.slice ua pe.length uc) ∧ v.cell? ⟨w.heap.size, 2, none⟩ = some (uv pans) ∧
      v.cell? ⟨w.heap.size + 1, 0, none⟩ = some (uv ql) ∧ v.cell? ⟨w.heap.size + 1, 1, none⟩ = some (.slice va qe.length vc) ∧ v.cell? ⟨w.heap.size + 1, 2, none⟩ = some (uv pans) := fun v k =>
    ⟨k.cell_some (cell_of hba 0), k.cell_some (cell_of hba 1), k.cell_some (cell_of hba 2), k.cell_some (cell_of hbb 0), k.cell_some (cell_of hbb 1), k.cell_some (cell_of hbb 2)⟩
  obtain ⟨c0, c1, c2, c3, c4, c5⟩ := hce w0 (Ext.refl _)
  have HCE := hid hce
  have HX0 := hid hx0
  have HP1 := hid (Peek_any (label := pl) (h.ext hx0) (hp.ext hx0) (by omega) hqs)
  have HP2 := hid fun (v' : World) (k : Ext w v') => Peek_any (label := ql) (h.ext k) (hq.ext k) (by omega) hqs
  have HSM := hid fun (v' : World) (k : Ext w v') => Same_any _ _ pe qe v' (hp.ext k) (hq.ext k) (by omega) (by omega)
  have HPP := hid hpp
  have HQP := hid hqp
  have hneB : (pe == qe) = false := by rw [beq_eq_false_iff_ne]; exact hne
  rw [hneB] at HSM
  have HW0 := hid hw0
  clear hw0 hba hbb hce hx0 h hp hq hpl hql hqs hpp hqp hne hneB
  have hlb := u_eqB pl ql
  go_enter Try.func58, Try.ntmps58
  go_wp2_with fail
  rw [← HW0.out]
  refine HP1.out.mono ?_
  rintro e w1 ⟨rfl, hx1⟩
  rw [HPP.out]
  have HX1 := hid (HX0.out.trans hx1)
  have HXX1 := hid hx1
  obtain ⟨d0, d1, d2, d3, d4, d5⟩ := HCE.out w1 hx1
  clear c0 c1 c2 c3 c4 c5 hx1
  go_wp2_with fail
  refine (HP2.out _ HX1.out).mono ?_
  rintro e w2 ⟨rfl, hx2⟩
  rw [HQP.out]
  have HX2 := hid (HX1.out.trans hx2)
  obtain ⟨c0, c1, c2, c3, c4, c5⟩ := HCE.out w2 (HXX1.out.trans hx2)
  clear d0 d1 d2 d3 d4 d5 hx2
  cases hl : pl == ql with
  | false =>
    have hd : ((pl.toNat : Int) != (ql.toNat : Int)) = true := by rw [hl] at hlb; simp [bne, hlb]
    clear hl hlb
    go_wp2_with fail
    go_ret
    exact ⟨rfl, HX2.out⟩
  | true =>
    have hd : ((pl.toNat : Int) != (ql.toNat : Int)) = false := by rw [hl] at hlb; simp [bne, hlb]
    clear hl hlb
    go_wp2_with fail
    refine (HSM.out _ HX2.out).mono ?_
    rintro e w3 ⟨rfl, hx3⟩
    have HX3 := hid (HX2.out.trans hx3)
    clear hx3
    go_wp2_with fail
    go_ret
    exact ⟨rfl, HX3.out⟩

/-! ## Clash beside two new blocks -/
abbrev Zq : Obj := .cells #[.int .u64 0, .slice none 0 0, .int .u64 0] 49
def OwnO (w0 : World) (u : Value) (x : Opn) (v : World) : Prop := ∃ lf pv, u = .agg #[lf, uv x.salt, pv] ∧ OwnU v lf x.leaf ∧ OwnU v pv x.path ∧ (∀ k, blk lf = some k → w0.heap.size ≤ k) ∧ ∀ k, blk pv = some k → w0.heap.size ≤ k
theorem OwnO.ext {w0 : World} {u : Value} {x : Opn} (v v' : World) (h : OwnO w0 u x v) (k : Ext v v') : OwnO w0 u x v' := by
  obtain ⟨lf, pv, h1, h2, h3, h4⟩ := h
  exact ⟨lf, pv, h1, ownsRow_ext h2 k, ownsRow_ext h3 k, h4⟩
/-- Behind Clash. -/
def CC (w0 : World) (b : Nat) (F : Nat → Prop) (M : Orc) (p q : Qn) (r : Value) : CA := fun b1 b2 x y v => ∃ u u' F', r = .tuple #[.agg #[uv p.label, u, uv p.answer], .agg #[uv q.label, u', uv q.answer], .bool true] ∧
  OwnU v u p.elems ∧ OwnU v u' q.elems ∧ OrcTo w0 b F M v F' ∧ ZZ w0 F' Zq Zq b1 b2 x y v
theorem CC.grows {w0 : World} {b : Nat} {F : Nat → Prop} {M : Orc} {p q : Qn} {r : Value} {S : World → Prop} (hS : ∀ v, Kp F w0 v → S v) : CA.Grows S Zq Zq (CC w0 b F M p q r) where
  s := fun _ _ _ _ _ ⟨_, _, _, _, _, _, h, _⟩ => hS _ h.kp
  g1 := fun _ _ _ _ ⟨u, u', F', h1, h2, h3, h4, h5⟩ => ⟨u, u', F', h1, ownsRow_ext h2 ((Ext.refl _).alloc _), ownsRow_ext h3 ((Ext.refl _).alloc _), h4.ext ((Ext.refl _).alloc _), h5.g1 h4.kp.size h4.at'.foot_lt⟩
  g2 := fun _ _ _ _ ⟨u, u', F', h1, h2, h3, h4, h5⟩ => ⟨u, u', F', h1, ownsRow_ext h2 ((Ext.refl _).alloc _), ownsRow_ext h3 ((Ext.refl _).alloc _), h4.ext ((Ext.refl _).alloc _), h5.g2 h4.kp.size h4.at'.foot_lt⟩
theorem setq3 {v : World} {g : Nat} {cs : Array Value} {T : TypeId} (hb : v.heap[g]? = some (.cells cs T (0, 0))) (hc : cs.size = 3) (x y z : Value) :
    (((v.setCell ⟨g, 0, none⟩ x).setCell ⟨g, 1, none⟩ y).setCell ⟨g, 2, none⟩ z).heap[g]? = some (.cells #[x, y, z] T (0, 0)) ∧ Kp (fun k => k = g) v (((v.setCell ⟨g, 0, none⟩ x).setCell ⟨g, 1, none⟩ y).setCell ⟨g, 2, none⟩ z) := by
  refine ⟨?_, (((Kp.refl (fun k => k = g) v).setCell (p := ⟨g, 0, none⟩) (.inl rfl) _).setCell (p := ⟨g, 1, none⟩) (.inl rfl) _).setCell (p := ⟨g, 2, none⟩) (.inl rfl) _⟩
  rw [heap_setCell_same (heap_setCell_same (heap_setCell_same hb 0 x) 1 y) 2 z]
  obtain ⟨cl⟩ := cs
  match cl, hc with
  | [a, b, c], _ => rfl
end Go.Proofs.Ytdpgfjnpcjpdpaa
