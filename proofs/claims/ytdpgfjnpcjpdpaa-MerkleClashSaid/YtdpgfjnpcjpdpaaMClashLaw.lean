/- Plain: what Clash and the reference's Verify say of two openings. -/
import Derived.Test.YtdpgfjnpcjpdpaaRefO
import Derived.Test.YtdpgfjnpcjpdpaaBind
import Derived.Test.YtdpgfjnpcjpdpaaMOpens
namespace Go.Proofs.Ytdpgfjnpcjpdpaa
open Go.RowKit
attribute [local irreducible] perm fAdd fMul fPow fSub fNeg fRed hashU drawOf nextState
theorem rpeek_eq {M : Orc} (hs : M.sound) (a : UInt64) {l : List UInt64} (h : allE l = true) : M.rpeek a l = M.peek a l := by
  unfold Orc.rpeek Orc.peek peekI
  simp only [h, if_true]
  cases hi : M.ideal with
  | true => cases hf : findQ M.qs a l <;> rfl
  | false =>
    simp only [Bool.false_eq_true, if_false]
    cases hf : findQ M.qs a l with
    | none => rfl
    | some i =>
      have hi' := hf
      unfold findQ at hi'
      obtain ⟨hi2, he, -⟩ := List.findIdx?_eq_some_iff_getElem.1 hi'
      simp only [Bool.and_eq_true, beq_iff_eq] at he
      have h1 := hs hi _ (List.getElem_mem hi2)
      rw [he.1, he.2] at h1
      have : answerAt M.qs i = hashU a l := by unfold answerAt; rw [List.getElem?_eq_getElem hi2]; exact h1
      simp only [this]
theorem folOk_pre (q : Qn) (r : Option (List Qn) × Orc) (root : UInt64) (h : ∀ l, r.1 = some l → l ≠ []) : folOk (pre [q] r) root = folOk r root := by
  unfold folOk pre
  cases hr : r.1 with
  | none => rfl
  | some l =>
    have hl := h l hr
    simp only [Option.map_some, Option.getD_some, lastA]
    rw [show [q] ++ l = q :: l from rfl, List.getLast?_cons]
    cases l with
    | nil => exact absurd rfl hl
    | cons x r => rw [List.getLast?_cons]; rfl
theorem walk_fol {M : Orc} (hs : M.sound) (hg : Good M) (root : UInt64) : ∀ (l : List UInt64) (i : Nat) (q : UInt64 × List UInt64), allE q.2 = true → allE l = true → (walkP M.rpeek l i q == some root) = folOk (folF peekF l i M q) root
  | [], i, q, hq, _ => by
    have hp := rpeek_eq hs q.1 hq
    cases hok : (M.peek q.1 q.2).2 with
    | false =>
      rw [walkP_no (by rw [hp]; exact hok), folF_no (show (peekF M q.1 q.2).1.2 = false from hok)]; rfl
    | true =>
      rw [walkP_end (by rw [hp]; exact hok), folF_end (show (peekF M q.1 q.2).1.2 = true from hok), hp]
      unfold folOk peekF lastA
      simp
  | p :: r, i, q, hq, hl => by
    have hp := rpeek_eq hs q.1 hq
    obtain ⟨h1, h2⟩ := allE_cons' hl
    cases hok : (M.peek q.1 q.2).2 with
    | false =>
      rw [walkP_no (by rw [hp]; exact hok), folF_no (show (peekF M q.1 q.2).1.2 = false from hok)]; rfl
    | true =>
      have hans : Ans M q.1 q.2 (M.peek q.1 q.2).1 := by
        unfold Ans
        rw [← hok]
      have hb := ans_big hg hans
      rw [walkP_go (by rw [hp]; exact hok), folF_go (show (peekF M q.1 q.2).1.2 = true from hok), hp, folOk_pre]
      · exact walk_fol hs hg root r (i / 2) (17, pairOf i (M.peek q.1 q.2).1 p) (allE_pair hb h1) h2
      · intro l hl'
        have hA : folF peekF r (i / 2) M (17, pairOf i (M.peek q.1 q.2).1 p) = (some l, (folF peekF r (i / 2) M (17, pairOf i (M.peek q.1 q.2).1 p)).2) := Prod.ext hl' rfl
        have := (fol_peek_all _ _ _ _ _ _ hA).1
        rintro rfl
        simp at this
theorem fits_eq {M : Orc} (hs : M.sound) (hg : Good M) (root : UInt64) (n i : Int) (x : Opn) : fitsP M.rpeek root n i x = (possible root n i x && folOk (M.fol peekF i.toNat x) root) := by
  unfold fitsP
  cases hp : possible root n i x with
  | false => rfl
  | true =>
    obtain ⟨j, h⟩ := possible_parts hp
    rw [Bool.true_and, Bool.true_and]
    refine walk_fol hs hg root x.path i.toNat (16, x.salt :: x.leaf) ?_ h.path
    have h1 := h.salt
    have h2 := h.leaf
    unfold allE at h2 ⊢
    simp [h1, h2]
structure ClashS (M : Orc) (root : UInt64) (n i : Int) (x y : Opn) (a b : Qn) : Prop where
  eq : M.clash root n i x y = some (a, b)
  pa : M.peek a.label a.elems = (a.answer, true)
  pb : M.peek b.label b.elems = (b.answer, true)
  ans : a.answer = b.answer
  ne : a.elems ≠ b.elems
  la : a.elems.length ≤ 1000000001
  lb : b.elems.length ≤ 1000000001
theorem clash_all {M : Orc} (hs : M.sound) (hg : Good M) {root : UInt64} {n i : Int} {x y : Opn} (hlx : x.leaf.length ≤ 1000000000) (hly : y.leaf.length ≤ 1000000000) :
    (fitsP M.rpeek root n i x && (fitsP M.rpeek root n i y && !(x.same y))) = (M.clash root n i x y).isSome ∧ (∀ a b, M.clash root n i x y = some (a, b) → ClashS M root n i x y a b) := by
  have key : (fitsP M.rpeek root n i x && (fitsP M.rpeek root n i y && !(x.same y))) = true → ∃ a b, ClashS M root n i x y a b := by
    intro h
    simp only [Bool.and_eq_true, Bool.not_eq_true'] at h
    obtain ⟨h1, h2, h3⟩ := h
    rw [fits_eq hs hg, Bool.and_eq_true] at h1 h2
    obtain ⟨A, hA, ha⟩ : ∃ A, M.fol peekF i.toNat x = (some A, M) ∧ lastA A = root := by
      have h4 := h1.2
      have h5 := peekF_orc x.path i.toNat M (16, x.salt :: x.leaf)
      unfold folOk Orc.fol at h4
      unfold Orc.fol
      generalize folF peekF x.path i.toNat M (16, x.salt :: x.leaf) = r at *
      obtain ⟨r1, r2⟩ := r
      simp only at h4 h5
      subst h5
      cases r1 with
      | none => simp at h4
      | some A => exact ⟨A, rfl, by simpa using h4⟩
    obtain ⟨B, hB, hb⟩ : ∃ B, M.fol peekF i.toNat y = (some B, M) ∧ lastA B = root := by
      have h4 := h2.2
      have h5 := peekF_orc y.path i.toNat M (16, y.salt :: y.leaf)
      unfold folOk Orc.fol at h4
      unfold Orc.fol
      generalize folF peekF y.path i.toNat M (16, y.salt :: y.leaf) = r at *
      obtain ⟨r1, r2⟩ := r
      simp only at h4 h5
      subst h5
      cases r1 with
      | none => simp at h4
      | some B => exact ⟨B, rfl, by simpa using h4⟩
    obtain ⟨a, b, e1, e2, e3, e4, e5, e6, e7⟩ := clash_ok h1.1 h2.1 hA hB ha hb (Opn.same_eq h3) hlx hly
    exact ⟨a, b, e1, e2, e3, e4, e5, e6, e7⟩
  cases hc : (fitsP M.rpeek root n i x && (fitsP M.rpeek root n i y && !(x.same y))) with
  | true =>
    obtain ⟨a, b, h⟩ := key hc
    rw [h.eq]
    refine ⟨rfl, fun a' b' h' => ?_⟩
    cases h'
    exact h
  | false =>
    have hnone : M.clash root n i x y = none := by
      unfold Orc.clash
      split
      · next hp =>
        split
        · next hf =>
          simp only [Bool.and_eq_true] at hp hf
          have h1 : fitsP M.rpeek root n i x = true := by rw [fits_eq hs hg, hp.1, hf.1]; rfl
          have h2 : fitsP M.rpeek root n i y = true := by rw [fits_eq hs hg, hp.2, hf.2]; rfl
          rw [h1, h2] at hc
          simp only [Bool.true_and, Bool.not_eq_false'] at hc
          have hxy : x = y := by
            obtain ⟨xl, xs, xp⟩ := x
            obtain ⟨yl, ys, yp⟩ := y
            unfold Opn.same at hc
            simp only [Bool.and_eq_true, beq_iff_eq] at hc
            rw [hc.1, hc.2.1, hc.2.2]
          subst hxy
          exact clash_none _ _ rfl fun j a b h1 h2 => by rw [h1] at h2; cases h2; rfl
        · rfl
      · rfl
    rw [hnone]
    exact ⟨rfl, fun a b h => by cases h⟩
theorem begin_sound (real : Bool) (seed : UInt64) (Q : List Qn) : (beginM real seed Q).sound := by
  cases real with
  | true => intro _ q hq; cases hq
  | false =>
    intro h
    have : (beginM false seed Q).ideal = true := by
      show ((Orc.fresh true seed).progs Q).ideal = true
      rw [progs_ideal]; rfl
    rw [this] at h; cases h
theorem begin_elems (real : Bool) (seed : UInt64) (Q : List Qn) (h : fewW Q = true) : ∀ q ∈ (beginM real seed Q).qs, q.elems.length ≤ 20 := by
  cases real with
  | true => intro q hq; cases hq
  | false => exact progs_all (P := fun q => q.elems.length ≤ 20) Q (Orc.fresh true seed) (fun q hq => by cases hq) (fewW_parts h).1
end Go.Proofs.Ytdpgfjnpcjpdpaa
