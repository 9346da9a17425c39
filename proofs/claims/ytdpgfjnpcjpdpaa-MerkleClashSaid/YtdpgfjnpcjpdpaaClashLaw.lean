/- Plain: two openings that fit the same root and differ: a step whose questions differ and have the same answer. -/
import Derived.Test.YtdpgfjnpcjpdpaaOpensLaw
import Derived.Test.YtdpgfjnpcjpdpaaVerify
namespace Go.Proofs.Ytdpgfjnpcjpdpaa
open Go.RowKit
attribute [local irreducible] perm fAdd fMul fPow fSub fNeg fRed hashU drawOf nextState

/-- The last step whose elements differ. -/
def clashL : List Qn → List Qn → Option (Qn × Qn)
  | a :: r, b :: s => match clashL r s with
    | some c => some c
    | none => if a.elems = b.elems then none else some (a, b)
  | _, _ => none
theorem clashL_cons (a b : Qn) (r s : List Qn) : clashL (a :: r) (b :: s) = match clashL r s with
    | some c => some c
    | none => if a.elems = b.elems then none else some (a, b) := rfl
theorem pair_inj {i : Nat} {a p b r : UInt64} (h : pairOf i a p = pairOf i b r) : a = b ∧ p = r := by
  unfold pairOf at h
  split at h <;> simp at h
  · exact ⟨h.2, h.1⟩
  · exact h
/-- What a way from a leaf to the root holds: each question is answered; the next one is made of the answer. -/
theorem fol_peek_all : ∀ (l : List UInt64) (i : Nat) (M : Orc) (q : UInt64 × List UInt64) (A : List Qn) (M' : Orc), folF peekF l i M q = (some A, M') → A.length = l.length + 1 ∧ (∃ a, M.peek q.1 q.2 = (a, true) ∧ A.head? = some ⟨q.1, q.2, a⟩) ∧ ∀ x ∈ A, M.peek x.label x.elems = (x.answer, true)
  | [], i, M, q, A, M', h => by
    cases hb : (peekF M q.1 q.2).1.2 with
    | false => rw [folF_no hb] at h; cases h
    | true =>
      rw [folF_end hb] at h
      injection h with h1 h2
      injection h1 with h1
      subst h1
      have hp : M.peek q.1 q.2 = ((M.peek q.1 q.2).1, true) := Prod.ext rfl hb
      refine ⟨rfl, ⟨_, hp, rfl⟩, fun x hx => ?_⟩
      rw [List.mem_singleton] at hx
      subst hx
      exact hp
  | p :: r, i, M, q, A, M', h => by
    cases hb : (peekF M q.1 q.2).1.2 with
    | false => rw [folF_no hb] at h; cases h
    | true =>
      rw [folF_go hb] at h
      have hM : (peekF M q.1 q.2).2 = M := rfl
      rw [hM] at h
      cases hr : folF peekF r (i / 2) M (17, pairOf i (peekF M q.1 q.2).1.1 p) with
      | mk B M2 =>
        rw [hr] at h
        cases B with
        | none => cases h
        | some B =>
          rw [pre_some] at h
          injection h with h1 h2
          injection h1 with h1
          subst h1
          obtain ⟨g1, -, g3⟩ := fol_peek_all r (i / 2) M _ B M2 hr
          have hp : M.peek q.1 q.2 = ((M.peek q.1 q.2).1, true) := Prod.ext rfl hb
          refine ⟨by simp [g1], ⟨_, hp, rfl⟩, fun x hx => ?_⟩
          rcases List.mem_cons.1 hx with h3 | h3
          · subst h3; exact hp
          · exact g3 x h3
theorem pairOf_length (i : Nat) (a p : UInt64) : (pairOf i a p).length = 2 := by unfold pairOf; split <;> rfl
theorem fol_elems : ∀ (l : List UInt64) (i : Nat) (M : Orc) (q : UInt64 × List UInt64) (A : List Qn) (M' : Orc), folF peekF l i M q = (some A, M') → q.2.length ≤ 1000000001 → ∀ x ∈ A, x.elems.length ≤ 1000000001
  | [], i, M, q, A, M', h, hq => by
    cases hb : (peekF M q.1 q.2).1.2 with
    | false => rw [folF_no hb] at h; cases h
    | true =>
      rw [folF_end hb] at h
      injection h with h1 h2
      injection h1 with h1
      subst h1
      intro x hx
      rw [List.mem_singleton] at hx
      subst hx
      exact hq
  | p :: r, i, M, q, A, M', h, hq => by
    cases hb : (peekF M q.1 q.2).1.2 with
    | false => rw [folF_no hb] at h; cases h
    | true =>
      rw [folF_go hb] at h
      cases hr : folF peekF r (i / 2) (peekF M q.1 q.2).2 (17, pairOf i (peekF M q.1 q.2).1.1 p) with
      | mk B M2 =>
        rw [hr] at h
        cases B with
        | none => cases h
        | some B =>
          rw [pre_some] at h
          injection h with h1 h2
          injection h1 with h1
          subst h1
          have ih := fol_elems r (i / 2) _ _ B M2 hr (by rw [pairOf_length]; omega)
          intro x hx
          rcases List.mem_cons.1 hx with h3 | h3
          · subst h3; exact hq
          · exact ih x h3
/-- Two ways that end alike: a step with other elements and the same answer, or they are the same. -/
def ClashR (q r : List UInt64) (l m : List UInt64) (A B : List Qn) : Prop :=
  (∃ a b, clashL A B = some (a, b) ∧ a ∈ A ∧ b ∈ B ∧ a.answer = b.answer ∧ a.elems ≠ b.elems) ∨ (clashL A B = none ∧ q = r ∧ l = m)
theorem clash_top {q r l m : List UInt64} {la lb a : UInt64} {A B : List Qn} (h : clashL A B = none) (hlm : l = m) : ClashR q r l m (⟨la, q, a⟩ :: A) (⟨lb, r, a⟩ :: B) := by
  by_cases hq : q = r
  · right; exact ⟨by rw [clashL_cons, h]; simp [hq], hq, hlm⟩
  · left; exact ⟨⟨la, q, a⟩, ⟨lb, r, a⟩, by rw [clashL_cons, h]; simp [hq], by simp, by simp, rfl, hq⟩
theorem ClashR.below {q r : List UInt64} {l m : List UInt64} {la lb a b : UInt64} {i : Nat} {p o : UInt64} {A B : List Qn} (h : ClashR (pairOf i a p) (pairOf i b o) l m A B) : ClashR q r (p :: l) (o :: m) (⟨la, q, a⟩ :: A) (⟨lb, r, b⟩ :: B) := by
  rcases h with ⟨x, y, h1, h2, h3, h4, h5⟩ | ⟨h1, h2, h3⟩
  · left; exact ⟨x, y, by rw [clashL_cons, h1], by simp [h2], by simp [h3], h4, h5⟩
  · obtain ⟨rfl, rfl⟩ := pair_inj h2
    subst h3
    exact clash_top h1 rfl
theorem fol_clash : ∀ (l m : List UInt64) (i : Nat) (M : Orc) (q r : UInt64 × List UInt64) (A B : List Qn) (M1 M2 : Orc), l.length = m.length → folF peekF l i M q = (some A, M1) → folF peekF m i M r = (some B, M2) → lastA A = lastA B → ClashR q.2 r.2 l m A B
  | [], [], i, M, q, r, A, B, M1, M2, _, hA, hB, hl => by
    cases ha : (peekF M q.1 q.2).1.2 with
    | false => rw [folF_no ha] at hA; cases hA
    | true =>
      cases hb : (peekF M r.1 r.2).1.2 with
      | false => rw [folF_no hb] at hB; cases hB
      | true =>
        rw [folF_end ha] at hA
        rw [folF_end hb] at hB
        injection hA with hA _
        injection hA with hA
        injection hB with hB _
        injection hB with hB
        subst hA hB
        have hl' : (peekF M q.1 q.2).1.1 = (peekF M r.1 r.2).1.1 := hl
        rw [hl']
        exact clash_top rfl rfl
  | [], _ :: _, _, _, _, _, _, _, _, _, h, _, _, _ => by simp at h
  | _ :: _, [], _, _, _, _, _, _, _, _, h, _, _, _ => by simp at h
  | p :: l, o :: m, i, M, q, r, A, B, M1, M2, hlen, hA, hB, hl => by
    cases ha : (peekF M q.1 q.2).1.2 with
    | false => rw [folF_no ha] at hA; cases hA
    | true =>
      cases hb : (peekF M r.1 r.2).1.2 with
      | false => rw [folF_no hb] at hB; cases hB
      | true =>
        rw [folF_go ha, show (peekF M q.1 q.2).2 = M from rfl] at hA
        rw [folF_go hb, show (peekF M r.1 r.2).2 = M from rfl] at hB
        cases hr : folF peekF l (i / 2) M (17, pairOf i (peekF M q.1 q.2).1.1 p) with
        | mk C M3 =>
          cases hs : folF peekF m (i / 2) M (17, pairOf i (peekF M r.1 r.2).1.1 o) with
          | mk D M4 =>
            rw [hr] at hA
            rw [hs] at hB
            cases C with
            | none => cases hA
            | some C =>
              cases D with
              | none => cases hB
              | some D =>
                rw [pre_some] at hA hB
                injection hA with hA _
                injection hA with hA
                injection hB with hB _
                injection hB with hB
                subst hA hB
                have hC := (fol_peek_all l (i / 2) M _ C M3 hr).1
                have hD := (fol_peek_all m (i / 2) M _ D M4 hs).1
                have e1 : ∀ (x : Qn) (L : List Qn), L ≠ [] → lastA (x :: L) = lastA L := fun x L hL => by
                  unfold lastA
                  rw [List.getLast?_cons]
                  cases h : L.getLast? with
                  | none => rw [List.getLast?_eq_none_iff] at h; exact absurd h hL
                  | some y => rfl
                rw [List.singleton_append, List.singleton_append, e1 _ _ (by intro h; rw [h] at hC; simp at hC), e1 _ _ (by intro h; rw [h] at hD; simp at hD)] at hl
                exact (fol_clash l m (i / 2) M _ _ C D M3 M4 (by simpa using hlen) hr hs hl).below

/-! ## the loop from the end -/
theorem clash_none : ∀ (A B : List Qn), A.length = B.length → (∀ (j : Nat) (a b : Qn), A[j]? = some a → B[j]? = some b → a.elems = b.elems) → clashL A B = none
  | [], _, _, _ => by unfold clashL; rfl
  | _ :: _, [], h, _ => by simp at h
  | a :: r, b :: s, h, hj => by
    rw [clashL_cons, clash_none r s (by simpa using h) fun j x y hx hy => hj (j + 1) x y (by simpa using hx) (by simpa using hy)]
    simp [hj 0 a b rfl rfl]
theorem clash_some : ∀ (A B : List Qn) (k : Nat) (p q : Qn), A.length = B.length → A[k]? = some p → B[k]? = some q → p.elems ≠ q.elems → (∀ (j : Nat) (a b : Qn), k < j → A[j]? = some a → B[j]? = some b → a.elems = b.elems) → clashL A B = some (p, q)
  | [], _, k, p, q, _, h, _, _, _ => by simp at h
  | _ :: _, [], _, _, _, h, _, _, _, _ => by simp at h
  | a :: r, b :: s, 0, p, q, h, hp, hq, hne, hj => by
    simp only [List.getElem?_cons_zero, Option.some.injEq] at hp hq
    subst hp hq
    rw [clashL_cons, clash_none r s (by simpa using h) fun j x y hx hy => hj (j + 1) x y (by omega) (by simpa using hx) (by simpa using hy)]
    simp [hne]
  | a :: r, b :: s, k + 1, p, q, h, hp, hq, hne, hj => by
    rw [clashL_cons, clash_some r s k p q (by simpa using h) (by simpa using hp) (by simpa using hq) hne fun j x y hk hx hy => hj (j + 1) x y (by omega) (by simpa using hx) (by simpa using hy)]

/-! ## what fitted, fits wherever as much is known -/
/-- The question has this answer, known or not. -/
def Ans (M : Orc) (a : UInt64) (l : List UInt64) (x : UInt64) : Prop := M.peek a l = (x, true)
theorem Knows.ans {M : Orc} {a : UInt64} {l : List UInt64} {x : UInt64} (h : Knows M a l x) : Ans M a l x := congrArg Prod.fst (knows_peek h)
theorem ask_ans {M : Orc} {f : AskF} (hf : f = peekF ∨ f = hashF) {a : UInt64} {l : List UInt64} (hE : allE l = true) (h : (f M a l).1.2 = true) : Ans (f M a l).2 a l (f M a l).1.1 := by
  rcases hf with rfl | rfl
  · exact Prod.ext rfl h
  · exact (hash_knows M hE).ans
theorem findQ_snoc_other {qs : List Qn} {a b : UInt64} {l m : List UInt64} {x : UInt64} (h : findQ qs a l = none) (hn : ¬ (b = a ∧ m = l)) : findQ (qs ++ [⟨b, m, x⟩]) a l = none := by
  unfold findQ at h ⊢
  rw [List.findIdx?_append, h]
  simp only [Option.none_or, Option.map_eq_none_iff, List.findIdx?_cons, List.findIdx?_nil]
  split
  · rename_i h1
    simp only [Bool.and_eq_true, beq_iff_eq] at h1
    exact absurd h1 hn
  · rfl
theorem Ans.hash {M : Orc} {a : UInt64} {l : List UInt64} {x : UInt64} (h : Ans M a l x) (b : UInt64) (m : List UInt64) : Ans (M.hash b m).2 a l x := by
  by_cases hE : allE l = true
  case neg => unfold Ans Orc.peek at h; rw [if_neg hE] at h; simp at h
  cases hf : findQ M.qs a l with
  | some i =>
    have hk : Knows M a l x := ⟨hE, i, hf, by unfold Ans Orc.peek at h; rw [if_pos hE, hf] at h; exact congrArg Prod.fst h⟩
    exact (hk.hash b m).ans
  | none =>
    have h' := h
    unfold Ans Orc.peek at h'
    rw [if_pos hE, hf] at h'
    cases hI : M.ideal with
    | true => rw [hI] at h'; simp at h'
    | false =>
      rw [hI] at h'
      have hx : hashU a l = x := by simpa using h'
      rcases hash_cases M b m with ⟨h1, _⟩ | ⟨_, j, _, h1⟩ | ⟨_, _, y, M1, h1, hq, hi, _, hr, _⟩
      · rw [h1]; exact h
      · rw [h1]; exact h
      · rw [h1]
        by_cases hn : b = a ∧ m = l
        · obtain ⟨rfl, rfl⟩ := hn
          have hk : Knows M1 b m x := ⟨hE, M.qs.length, by rw [hq]; exact findQ_snoc_none hf, by rw [hq, answerAt_last, ← hx]; exact (hr hI).1⟩
          exact hk.ans
        · show M1.peek a l = (x, true)
          unfold Orc.peek
          rw [if_pos hE, hq, findQ_snoc_other hf hn, hi, hI, ← hx]; rfl
theorem ans_big {M : Orc} (hg : Good M) {a : UInt64} {l : List UInt64} {x : UInt64} (h : Ans M a l x) : x < big := by
  unfold Ans Orc.peek at h
  split at h
  · split at h
    · rw [show x = _ from (congrArg Prod.fst h).symm]; exact good_at hg _
    · split at h
      · simp at h
      · rw [show x = _ from (congrArg Prod.fst h).symm]; exact hashU_lt _ _
  · simp at h
theorem ask_good {M : Orc} {f : AskF} (hf : f = peekF ∨ f = hashF) (hg : Good M) (a : UInt64) (l : List UInt64) : Good (f M a l).2 := by
  rcases hf with rfl | rfl
  · exact hg
  · exact hg.hash a l
theorem ask_keeps {M : Orc} {f : AskF} (hf : f = peekF ∨ f = hashF) {a : UInt64} {l : List UInt64} {b : UInt64} {m : List UInt64} {x : UInt64} (h : Ans M b m x) : Ans (f M a l).2 b m x := by
  rcases hf with rfl | rfl
  · exact h
  · exact h.hash a l
theorem fol_keeps {f : AskF} (hf : f = peekF ∨ f = hashF) : ∀ (l : List UInt64) (i : Nat) (M : Orc) (q : UInt64 × List UInt64) {b : UInt64} {m : List UInt64} {x : UInt64}, Ans M b m x → Ans (folF f l i M q).2 b m x
  | [], i, M, q, b, m, x, h => by
    unfold folF; split <;> exact ask_keeps hf h
  | p :: r, i, M, q, b, m, x, h => by
    unfold folF
    split
    · exact fol_keeps hf r _ _ _ (ask_keeps hf h)
    · exact ask_keeps hf h
theorem allE_pair {i : Nat} {a p : UInt64} (h1 : a < big) (h2 : p < big) : allE (pairOf i a p) = true := by
  unfold pairOf allE
  split <;> simp [h1, h2]
theorem allE_cons' {a : UInt64} {l : List UInt64} (h : allE (a :: l) = true) : a < big ∧ allE l = true := by
  unfold allE at h ⊢
  simpa using h
theorem fol_to_peek {f : AskF} (hf : f = peekF ∨ f = hashF) : ∀ (l : List UInt64) (i : Nat) (M : Orc) (q : UInt64 × List UInt64) (A : List Qn) (M' : Orc), Good M → allE q.2 = true → allE l = true → folF f l i M q = (some A, M') → ∀ N : Orc, (∀ a m x, Ans M' a m x → Ans N a m x) → folF peekF l i N q = (some A, N)
  | [], i, M, q, A, M', hg, hE, hl, h, N, hN => by
    cases hb : (f M q.1 q.2).1.2 with
    | false => rw [folF_no hb] at h; cases h
    | true =>
      rw [folF_end hb] at h
      injection h with h1 h2
      injection h1 with h1
      subst h1 h2
      have hk : peekF N q.1 q.2 = ((_, true), N) := Prod.ext (hN _ _ _ (ask_ans hf hE hb)) rfl
      rw [folF_end (by rw [hk]), hk]
  | p :: r, i, M, q, A, M', hg, hE, hl, h, N, hN => by
    cases hb : (f M q.1 q.2).1.2 with
    | false => rw [folF_no hb] at h; cases h
    | true =>
      rw [folF_go hb] at h
      have hk0 := ask_ans hf hE hb
      have hg1 := ask_good hf hg q.1 q.2
      have ha := ans_big hg1 hk0
      obtain ⟨hp, hr⟩ := allE_cons' hl
      cases hc : folF f r (i / 2) (f M q.1 q.2).2 (17, pairOf i (f M q.1 q.2).1.1 p) with
      | mk B M2 =>
        rw [hc] at h
        cases B with
        | none => cases h
        | some B =>
          rw [pre_some] at h
          injection h with h1 h2
          injection h1 with h1
          subst h1 h2
          have hkeep := fun (a : UInt64) (m : List UInt64) (x : UInt64) (h : Ans (f M q.1 q.2).2 a m x) => fol_keeps hf r (i / 2) (f M q.1 q.2).2 (17, pairOf i (f M q.1 q.2).1.1 p) h
          rw [hc] at hkeep
          have ih := fol_to_peek hf r (i / 2) _ _ B M2 hg1 (allE_pair ha hp) hr hc N hN
          have hk : peekF N q.1 q.2 = ((_, true), N) := Prod.ext (hN _ _ _ (hkeep _ _ _ hk0)) rfl
          rw [folF_go (by rw [hk]), hk]
          simp only
          rw [ih, pre_some]
theorem verify_peek {M M' : Orc} {root : UInt64} {n i : Int} {x : Opn} (hg : Good M) (h : M.verify root n i x = (true, M')) (N : Orc) (hN : ∀ a m y, Ans M' a m y → Ans N a m y) :
    possible root n i x = true ∧ ∃ A, N.fol peekF i.toNat x = (some A, N) ∧ lastA A = root := by
  unfold Orc.verify at h
  cases hp : possible root n i x with
  | false => rw [hp] at h; simp at h
  | true =>
    rw [hp, if_pos rfl] at h
    refine ⟨rfl, ?_⟩
    obtain ⟨j, hj⟩ := possible_parts hp
    have hf : (if M.ideal then peekF else hashF) = peekF ∨ (if M.ideal then peekF else hashF) = hashF := by cases M.ideal <;> simp
    generalize (if M.ideal then peekF else hashF) = f at h hf
    have hE : allE (x.salt :: x.leaf) = true := by
      have h1 := hj.leaf
      have h2 := hj.salt
      unfold allE at h1 ⊢
      simp [h1, h2]
    cases hc : M.fol f i.toNat x with
    | mk B M2 =>
      rw [hc] at h
      cases B with
      | none => simp at h
      | some B =>
        simp only [Option.map_some, Option.getD_some, Prod.mk.injEq, beq_iff_eq] at h
        obtain ⟨h1, rfl⟩ := h
        unfold Orc.fol at hc ⊢
        exact ⟨B, fol_to_peek hf _ _ _ _ B _ hg hE hj.path hc N hN, h1⟩
theorem verify_keeps {M : Orc} {root : UInt64} {n i : Int} {x : Opn} {a : UInt64} {m : List UInt64} {y : UInt64} (h : Ans M a m y) : Ans (M.verify root n i x).2 a m y := by
  unfold Orc.verify
  split
  · have hf : (if M.ideal then peekF else hashF) = peekF ∨ (if M.ideal then peekF else hashF) = hashF := by cases M.ideal <;> simp
    exact fol_keeps hf _ _ _ _ h
  · exact h

/-! ## Clash -/
def Orc.clash (M : Orc) (root : UInt64) (n i : Int) (x y : Opn) : Option (Qn × Qn) :=
  if possible root n i x && possible root n i y then
    if folOk (M.fol peekF i.toNat x) root && folOk (M.fol peekF i.toNat y) root then clashL ((M.fol peekF i.toNat x).1.getD []) ((M.fol peekF i.toNat y).1.getD []) else none
  else none
theorem possR_len {root : UInt64} {n i : Int} {x y : Opn} (hx : possible root n i x = true) (hy : possible root n i y = true) : x.path.length = y.path.length := by
  obtain ⟨j, h1⟩ := possible_parts hx
  obtain ⟨k, h2⟩ := possible_parts hy
  have e : (2 : Nat) ^ x.path.length = 2 ^ y.path.length := by
    have a := h1.len
    have b := h2.len
    omega
  exact (Nat.pow_right_inj (by decide)).1 e
/-- Two openings that fit and differ: two questions that differ and have the same answer; both are known. -/
theorem clash_ok {M : Orc} {root : UInt64} {n i : Int} {x y : Opn} {A B : List Qn} (hx : possible root n i x = true) (hy : possible root n i y = true) (hA : M.fol peekF i.toNat x = (some A, M)) (hB : M.fol peekF i.toNat y = (some B, M)) (ha : lastA A = root) (hb : lastA B = root) (hne : x ≠ y) (hlx : x.leaf.length ≤ 1000000000) (hly : y.leaf.length ≤ 1000000000) :
    ∃ a b, M.clash root n i x y = some (a, b) ∧ M.peek a.label a.elems = (a.answer, true) ∧ M.peek b.label b.elems = (b.answer, true) ∧ a.answer = b.answer ∧ a.elems ≠ b.elems ∧ a.elems.length ≤ 1000000001 ∧ b.elems.length ≤ 1000000001 := by
  have hc := fol_clash x.path y.path i.toNat M (16, x.salt :: x.leaf) (16, y.salt :: y.leaf) A B M M (possR_len hx hy) hA hB (by rw [ha, hb])
  have hd : M.clash root n i x y = clashL A B := by
    unfold Orc.clash folOk
    rw [hx, hy, hA, hB]
    simp [ha, hb]
  have kA := (fol_peek_all _ _ _ _ _ _ hA).2.2
  have kB := (fol_peek_all _ _ _ _ _ _ hB).2.2
  rcases hc with ⟨a, b, h1, h2, h3, h4, h5⟩ | ⟨-, h2, h3⟩
  · exact ⟨a, b, by rw [hd, h1], kA a h2, kB b h3, h4, h5, fol_elems _ _ _ _ _ _ hA (by simp; omega) a h2, fol_elems _ _ _ _ _ _ hB (by simp; omega) b h3⟩
  · exfalso
    injection h2 with h4 h5
    obtain ⟨xl, xs, xp⟩ := x
    obtain ⟨yl, ys, yp⟩ := y
    simp only at h3 h4 h5
    subst h3 h4 h5
    exact hne rfl
end Go.Proofs.Ytdpgfjnpcjpdpaa
