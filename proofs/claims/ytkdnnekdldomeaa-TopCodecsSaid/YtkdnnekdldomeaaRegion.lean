/- A statement whose order Go leaves open, walked in one order: operations that yield the same value in every world that meets S come first; S is to be shown behind the others only as long as such an operation may still come (the last operations, from number n on, wait for all that stands before them). -/
import Derived.Test.YtkdnnekdldomeaaBase
import Derived.StillTail
namespace Go.Proofs.Ytkdnnekdldomeaa
open Go.RowKit
section
variable {P : Program} {ops : Array Oper} {Q : Exit → Act → World → Prop} {S : World → Prop}

def wpAnyN (P : Program) (ops : Array Oper) (Q : Exit → Act → World → Prop) (S : World → Prop) (n : Nat) : Nat → Array Bool → Act → World → Prop
  | 0, listed, a, w => Region.ready .any ops listed = [] ∧ Q .normal a w
  | fuel + 1, listed, a, w =>
    (Region.ready .any ops listed = [] → Q .normal a w) ∧
    ∀ i ∈ Region.ready .any ops listed, wpOp P ops Q i (fun a' w' => (i < n → S w') ∧ wpAnyN P ops Q S n fuel (listed.setIfInBounds i true) a' w') a w

theorem wpAny_of_N {n : Nat} : ∀ (fuel : Nat) (listed : Array Bool) (a : Act) (w : World), wpAnyN P ops Q S n fuel listed a w → wpAny P .any ops Q fuel listed a w
  | 0, _, _, _, h => h
  | fuel + 1, _, _, _, h => ⟨h.1, fun i hi => wpOp_mono (fun a' w' h' => wpAny_of_N fuel _ a' w' h'.2) (h.2 i hi)⟩

theorem wpAnyN_first {n i : Nat} {oi : Oper} {v : Value} (hi : ops[i]? = some oi) (hsel : ∀ (j : Nat) (o : Oper) cs b, ops[j]? = some o → o.op ≠ .select cs b)
    (hQ : ∀ c a d v w, Q (.panic c) (Act.put a d v) w → Q (.panic c) a w) (hs : Region.sinkB .any ops n = true) (hc : Region.chainB .any ops n = true) (hn : n < ops.size) (hin : i < n) :
    ∀ (fuel : Nat) (listed : Array Bool) (a : Act) (w : World), HeadInv .any ops n listed →
      (∀ j oj, ops[j]? = some oj → j ≠ i → listed.getD j true = false → (∀ e ∈ oj.after, Region.binds .any e = true → e.on ≠ i) → oi.apart ops oj = true) →
      i ∈ Region.ready .any ops listed → YieldsIf P ops S oi v a → S w →
      wpAnyN P ops Q S n fuel (listed.setIfInBounds i true) (a.put oi.dst v) w → wpAnyN P ops Q S n (fuel + 1) listed a w := by
  intro fuel
  induction fuel with
  | zero =>
    intro listed a w _ _ hr hy hS H
    refine ⟨fun h => (by rw [h] at hr; cases hr), fun j hj => ?_⟩
    by_cases hji : j = i
    · subst hji; exact hy.wpOp hi hS ⟨fun _ => hS, H⟩
    · have := ready_mono hj hji
      rw [H.1] at this
      cases this
  | succ fuel ih =>
    intro listed a w inv hfree hr hy hS H
    refine ⟨fun h => (by rw [h] at hr; cases hr), fun j hj => ?_⟩
    by_cases hji : j = i
    · subst hji; exact hy.wpOp hi hS ⟨fun _ => hS, H⟩
    · have hjn : j < n := by
        rcases Nat.lt_or_ge j n with h | h
        · exact h
        · exact absurd hj (tail_waits hs hc hn inv (n - i) i rfl hin (mem_ready.1 hr).1 j h)
      have h1 := H.2 j (ready_mono hj hji)
      obtain ⟨hjun, oj, hoj, hall⟩ := mem_ready.1 hj
      have hnot : ∀ e ∈ oj.after, Region.binds .any e = true → e.on ≠ i := fun e he hb heq => by
        have h1 := hall e he hb
        have h0 := (mem_ready.1 hr).1
        rw [heq] at h1
        rcases Nat.lt_or_ge i listed.size with h' | h'
        · simp [h'] at h0 h1; rw [h0] at h1; cases h1
        · simp [Array.getElem?_eq_none h'] at h1
      have h2 := wpOp_putIf hoj (hfree j oj hoj hji hjun hnot) (fun cs b => hsel i oi cs b hi) (fun cs b => hsel j oj cs b hoj) (fun c a w h => hQ c a _ _ w h) hy h1
      have hfree' : ∀ k ok, ops[k]? = some ok → k ≠ i → (listed.setIfInBounds j true).getD k true = false →
          (∀ e ∈ ok.after, Region.binds .any e = true → e.on ≠ i) → oi.apart ops ok = true := fun k ok hk hki hun hno => by
        refine hfree k ok hk hki ?_ hno
        by_cases hjk : j = k
        · subst hjk; exact hjun
        · rw [getD_set_ne true hjk] at hun; exact hun
      refine wpOp_mono (fun a' w' h3 => ⟨fun _ => h3.2.1 hjn, ih (listed.setIfInBounds j true) a' w' (inv.set hj hjn) hfree' (ready_mono hr (Ne.symm hji)) h3.1 (h3.2.1 hjn) ?_⟩) h2
      rw [Array.setIfInBounds_comm _ _ hji]
      exact h3.2.2

/-- One way through the region: (number, does it yield the same in every world that meets S?). -/
def wpT (P : Program) (ops : Array Oper) (Q : Exit → Act → World → Prop) (S : World → Prop) (n : Nat) : List (Nat × Bool) → Act → World → Prop
  | [], a, w => Q .normal a w
  | x :: r, a, w => match x.2 with
    | true => ∃ o v, ops[x.1]? = some o ∧ YieldsIf P ops S o v a ∧ S w ∧ wpT P ops Q S n r (a.put o.dst v) w
    | false => wpOp P ops Q x.1 (fun a' w' => (x.1 < n → S w') ∧ wpT P ops Q S n r a' w') a w

def chkT (ops : Array Oper) (n : Nat) : List (Nat × Bool) → Array Bool → Bool
  | [], listed => (Region.ready .any ops listed).isEmpty
  | x :: r, listed => (match x.2 with
    | true => decide (x.1 < n) && (Region.ready .any ops listed).contains x.1 && Region.free .any ops listed x.1
    | false => decide (Region.ready .any ops listed = [x.1]) && (decide (x.1 < n) || r.all fun x => !x.2)) && chkT ops n r (listed.setIfInBounds x.1 true)

theorem wpT_sound {n : Nat} (hsel : Region.noSelect ops = true) (hQ : ∀ c a d v w, Q (.panic c) (Act.put a d v) w → Q (.panic c) a w) (hs : Region.sinkB .any ops n = true) (hc : Region.chainB .any ops n = true) (hn : n < ops.size) :
    ∀ (L : List (Nat × Bool)) (listed : Array Bool) (a : Act) (w : World), (HeadInv .any ops n listed ∨ L.all (fun x => !x.2) = true) → chkT ops n L listed = true →
      wpT P ops Q S n L a w → wpAnyN P ops Q S n L.length listed a w
  | [], listed, a, w, _, hk, h => ⟨by simpa [chkT] using hk, h⟩
  | (i, true) :: r, listed, a, w, inv, hk, h => by
    simp only [chkT, Bool.and_eq_true, decide_eq_true_eq] at hk
    obtain ⟨⟨⟨hin, hr⟩, hf⟩, hk'⟩ := hk
    obtain ⟨o, v, ho, hy, hS, hrest⟩ := h
    rcases inv with inv | hall
    · have hr' : i ∈ Region.ready .any ops listed := by simpa using hr
      exact wpAnyN_first ho (Region.noSelect_spec hsel) hQ hs hc hn hin r.length listed a w inv (Region.free_spec ho hf) hr' hy hS
        (wpT_sound hsel hQ hs hc hn r _ _ w (.inl (inv.set hr' hin)) hk' hrest)
    · simp at hall
  | (i, false) :: r, listed, a, w, inv, hk, h => by
    simp only [chkT, Bool.and_eq_true, decide_eq_true_eq] at hk
    obtain ⟨⟨hr, ht⟩, hk'⟩ := hk
    refine ⟨fun h0 => (by rw [hr] at h0; cases h0), fun j hj => ?_⟩
    have hji : j = i := by rw [hr] at hj; simpa using hj
    subst hji
    have h0 : wpOp P ops Q j (fun a' w' => (j < n → S w') ∧ wpT P ops Q S n r a' w') a w := h
    refine wpOp_mono (fun a' w' h' => ⟨h'.1, wpT_sound hsel hQ hs hc hn r _ a' w' ?_ hk' h'.2⟩) h0
    rcases inv with inv | hall
    · simp only [Bool.or_eq_true, decide_eq_true_eq] at ht
      rcases ht with ht | ht
      · exact .inl (inv.set hj ht)
      · exact .inr ht
    · exact .inr (by simpa using hall)

/-- THE BEGINNING: the region from the world behind the draw, in the order L. -/
theorem wp_region_T {id : Nat} {a : Act} {w : World} (S : World → Prop) (n : Nat) (L : List (Nat × Bool)) (hm : P.follows .mixedOrders = true)
    (hk : (Region.noSelect ops && decide (n < ops.size) && Region.sinkB .any ops n && Region.chainB .any ops n && decide (L.length = ops.size) && chkT ops n L (Array.replicate ops.size false)) = true)
    (hQ : ∀ c a d v w, Q (.panic c) (Act.put a d v) w → Q (.panic c) a w)
    (h : ∀ ops', ops' = ops → wpT P ops' Q S n L a w.drew) : (Code.region id ops true).wp P Q a w := by
  simp only [Bool.and_eq_true, decide_eq_true_eq] at hk
  obtain ⟨⟨⟨⟨⟨hsel, hn⟩, hs⟩, hc⟩, hl⟩, hch⟩ := hk
  refine wp_region_any hm ?_
  rw [← hl]
  refine wpAny_of_N _ _ _ _ (wpT_sound (S := S) hsel hQ hs hc hn L _ a _ (.inl ?_) (by rw [hl]; exact hch) (h _ rfl))
  refine ⟨by simp [hl], fun j oj _ hl => (by rw [getD_replicate_false] at hl; cases hl), fun t _ ht => getD_in (by simpa [hl] using ht) (getD_replicate_false _ _)⟩

theorem wpT_take {n i : Nat} {r : List (Nat × Bool)} {o : Oper} {v : Value} {a : Act} {w : World} (ho : ops[i]? = some o) (hg : Region.wanted o (yielded ops a.tmps) = true)
    (hy : ∀ w', S w' → (execOp a.eval o).run P w' = .ok (.value v) w') (hS : S w) (h : wpT P ops Q S n r (a.put o.dst v) w) : wpT P ops Q S n ((i, true) :: r) a w :=
  ⟨o, v, ho, .inl ⟨hg, hy⟩, hS, h⟩
theorem wpT_pass {n i : Nat} {r : List (Nat × Bool)} {o : Oper} {a : Act} {w : World} (ho : ops[i]? = some o) (hg : Region.wanted o (yielded ops a.tmps) = false)
    (hS : S w) (h : wpT P ops Q S n r (a.put o.dst undef) w) : wpT P ops Q S n ((i, true) :: r) a w :=
  ⟨o, undef, ho, .inr ⟨hg, rfl⟩, hS, h⟩
theorem wpT_step {n i : Nat} {r : List (Nat × Bool)} {o : Oper} {a : Act} {w : World} (ho : ops[i]? = some o) (hg : Region.wanted o (yielded ops a.tmps) = true)
    (h : ∀ K : Act → World → Prop, (∀ a' w', ((i < n → S w') ∧ wpT P ops Q S n r a' w') → K a' w') → o.wp P a w K Q) : wpT P ops Q S n ((i, false) :: r) a w := by
  unfold wpT wpOp
  simp only [ho, hg, if_true]
  exact .inl (h _ fun _ _ h => h)
theorem wpT_none {n i : Nat} {r : List (Nat × Bool)} {o : Oper} {a : Act} {w : World} (ho : ops[i]? = some o) (hg : Region.wanted o (yielded ops a.tmps) = false)
    (h : (i < n → S w) ∧ wpT P ops Q S n r (a.put o.dst undef) w) : wpT P ops Q S n ((i, false) :: r) a w := by
  unfold wpT wpOp
  simp only [ho, hg]
  exact h

/-! The same where more than one operation may come up: the ways part by hand. -/
def headB (ops : Array Oper) (n : Nat) (listed : Array Bool) : Bool :=
  decide (listed.size = ops.size) && ((List.range ops.size).all fun j => !(listed.getD j false) || ((ops[j]?).map fun o => o.after.all fun e => !(Region.binds .any e) || listed.getD e.on false).getD true) &&
    ((List.range ops.size).all fun t => decide (t < n) || !(listed.getD t true))
theorem headB_inv {n : Nat} {listed : Array Bool} (h : headB ops n listed = true) : HeadInv .any ops n listed := by
  simp only [headB, Bool.and_eq_true, decide_eq_true_eq, List.all_eq_true, List.mem_range] at h
  obtain ⟨⟨h1, h2⟩, h3⟩ := h
  refine ⟨h1, fun j oj hj hl e he hb => ?_, fun t ht hts => ?_⟩
  · have hjs : j < ops.size := (Array.getElem?_eq_some_iff.1 hj).1
    have h4 := h2 j hjs
    simp only [hl, Bool.not_true, Bool.false_or, hj, Option.map_some, Option.getD_some] at h4
    have h5 := Array.all_eq_true_iff_forall_mem.1 h4 e he
    simpa [hb] using h5
  · have h4 := h3 t hts
    have h5 : decide (t < n) = false := by simp; omega
    simpa [h5] using h4
def okTake (ops : Array Oper) (n : Nat) (listed : Array Bool) (i : Nat) : Bool :=
  Region.noSelect ops && decide (n < ops.size) && Region.sinkB .any ops n && Region.chainB .any ops n && headB ops n listed && decide (i < n) && (Region.ready .any ops listed).contains i && Region.free .any ops listed i
theorem wp_region_N {id : Nat} {a : Act} {w : World} (S : World → Prop) (n N : Nat) (hm : P.follows .mixedOrders = true) (hN : ops.size = N)
    (h : ∀ ops', ops' = ops → wpAnyN P ops' Q S n N (Array.replicate N false) a w.drew) : (Code.region id ops true).wp P Q a w := by
  refine wp_region_any hm ?_
  subst hN
  exact wpAny_of_N _ _ _ _ (h _ rfl)
theorem N_take {n fuel i : Nat} {listed : Array Bool} {o : Oper} {v : Value} {a : Act} {w : World} (ho : ops[i]? = some o) (hk : okTake ops n listed i = true)
    (hQ : ∀ c a d v w, Q (.panic c) (Act.put a d v) w → Q (.panic c) a w) (hg : Region.wanted o (yielded ops a.tmps) = true)
    (hy : ∀ w', S w' → (execOp a.eval o).run P w' = .ok (.value v) w') (hS : S w) (h : wpAnyN P ops Q S n fuel (listed.setIfInBounds i true) (a.put o.dst v) w) : wpAnyN P ops Q S n (fuel + 1) listed a w := by
  simp only [okTake, Bool.and_eq_true, decide_eq_true_eq] at hk
  obtain ⟨⟨⟨⟨⟨⟨⟨hsel, hn⟩, hs⟩, hc⟩, hh⟩, hin⟩, hr⟩, hf⟩ := hk
  exact wpAnyN_first ho (Region.noSelect_spec hsel) hQ hs hc hn hin fuel listed a w (headB_inv hh) (Region.free_spec ho hf) (by simpa using hr) (.inl ⟨hg, hy⟩) hS h
theorem N_one {n fuel i : Nat} {listed : Array Bool} {o : Oper} {a : Act} {w : World} (ho : ops[i]? = some o) (hr : Region.ready .any ops listed = [i]) (hg : Region.wanted o (yielded ops a.tmps) = true)
    (h : ∀ K : Act → World → Prop, (∀ a' w', ((i < n → S w') ∧ wpAnyN P ops Q S n fuel (listed.setIfInBounds i true) a' w') → K a' w') → o.wp P a w K Q) : wpAnyN P ops Q S n (fuel + 1) listed a w := by
  refine ⟨fun h0 => (by rw [hr] at h0; cases h0), fun j hj => ?_⟩
  have hji : j = i := by rw [hr] at hj; simpa using hj
  subst hji
  unfold wpOp
  simp only [ho, hg, if_true]
  exact .inl (h _ fun _ _ h => h)
theorem N_two {n fuel i k : Nat} {listed : Array Bool} {o o' : Oper} {a : Act} {w : World} (ho : ops[i]? = some o) (ho' : ops[k]? = some o') (hr : Region.ready .any ops listed = [i, k])
    (hg : Region.wanted o (yielded ops a.tmps) = true) (hg' : Region.wanted o' (yielded ops a.tmps) = true)
    (h : ∀ K : Act → World → Prop, (∀ a' w', ((i < n → S w') ∧ wpAnyN P ops Q S n fuel (listed.setIfInBounds i true) a' w') → K a' w') → o.wp P a w K Q)
    (h' : ∀ K : Act → World → Prop, (∀ a' w', ((k < n → S w') ∧ wpAnyN P ops Q S n fuel (listed.setIfInBounds k true) a' w') → K a' w') → o'.wp P a w K Q) : wpAnyN P ops Q S n (fuel + 1) listed a w := by
  refine ⟨fun h0 => (by rw [hr] at h0; cases h0), fun j hj => ?_⟩
  have hji : j = i ∨ j = k := by rw [hr] at hj; simpa using hj
  rcases hji with rfl | rfl
  · unfold wpOp
    simp only [ho, hg, if_true]
    exact .inl (h _ fun _ _ h => h)
  · unfold wpOp
    simp only [ho', hg', if_true]
    exact .inl (h' _ fun _ _ h => h)
theorem N_done {n : Nat} {listed : Array Bool} {a : Act} {w : World} (hr : Region.ready .any ops listed = []) (h : Q .normal a w) : wpAnyN P ops Q S n 0 listed a w := ⟨hr, h⟩
end
theorem wpT_nil {P : Program} {ops : Array Oper} {Q : Exit → Act → World → Prop} {S : World → Prop} {n : Nat} {a : Act} {w : World} : wpT P ops Q S n [] a w = Q .normal a w := rfl
end Go.Proofs.Ytkdnnekdldomeaa
