/- Plain: a commitment tree as a function of the oracle; what is known afterwards. -/
import Derived.Test.YtdpgfjnpcjpdpaaPlainLaw
import Derived.Test.YtdpgfjnpcjpdpaaTreeLaw
namespace Go.Proofs.Ytdpgfjnpcjpdpaa
open Go.RowKit
attribute [local irreducible] perm fAdd fMul fPow fSub fNeg fRed hashU drawOf nextState

/-! ## questions asked one after the other -/
def Orc.asks (M : Orc) : List (UInt64 × List UInt64) → List UInt64 × Orc
  | [] => ([], M)
  | q :: r => ((M.hash q.1 q.2).1 :: ((M.hash q.1 q.2).2.asks r).1, ((M.hash q.1 q.2).2.asks r).2)
theorem asks_nil (M : Orc) : M.asks [] = ([], M) := rfl
theorem asks_cons (M : Orc) (q : UInt64 × List UInt64) (r : List (UInt64 × List UInt64)) : M.asks (q :: r) = ((M.hash q.1 q.2).1 :: ((M.hash q.1 q.2).2.asks r).1, ((M.hash q.1 q.2).2.asks r).2) := rfl
theorem asks_snoc : ∀ (l : List (UInt64 × List UInt64)) (M : Orc) (q : UInt64 × List UInt64), M.asks (l ++ [q]) = ((M.asks l).1 ++ [((M.asks l).2.hash q.1 q.2).1], ((M.asks l).2.hash q.1 q.2).2)
  | [], M, q => rfl
  | p :: r, M, q => by
    rw [List.cons_append, asks_cons, asks_cons, asks_snoc r]
    rfl
theorem asks_length : ∀ (l : List (UInt64 × List UInt64)) (M : Orc), (M.asks l).1.length = l.length
  | [], _ => rfl
  | p :: r, M => by rw [asks_cons]; simp [asks_length r]
theorem add_seals (M : Orc) (label : UInt64) (l : List UInt64) (a : UInt64) : (M.add label l a).seals = M.seals := rfl
theorem add_proofs (M : Orc) (label : UInt64) (l : List UInt64) (a : UInt64) : (M.add label l a).proofs = M.proofs := rfl
theorem add_state (M : Orc) (label : UInt64) (l : List UInt64) (a : UInt64) : (M.add label l a).state = M.state := rfl
theorem hash_cases (M : Orc) (a : UInt64) (l : List UInt64) : (M.hash a l = (0, M) ∧ allE l = false) ∨ (allE l = true ∧ ∃ i, findQ M.qs a l = some i ∧ M.hash a l = (answerAt M.qs i, M)) ∨
    (allE l = true ∧ findQ M.qs a l = none ∧ ∃ x M1, M.hash a l = (x, M1) ∧ M1.qs = M.qs ++ [⟨a, l, x⟩] ∧ M1.ideal = M.ideal ∧ M1.draws ≤ M.draws + 1 ∧ (M.ideal = false → x = hashU a l ∧ M1.draws = M.draws ∧ M1.state = M.state) ∧ (M.ideal = true → x = drawOf M.state ∧ M1.draws = M.draws + 1 ∧ M1.state = nextState M.state) ∧ M1.seals = M.seals ∧ M1.proofs = M.proofs) := by
  by_cases hE : allE l = true
  · cases hf : findQ M.qs a l with
    | some i => exact .inr (.inl ⟨hE, i, rfl, hash_known M a l i hE hf⟩)
    | none =>
      refine .inr (.inr ⟨hE, rfl, ?_⟩)
      unfold Orc.hash
      rw [if_pos hE, hf]
      cases hI : M.ideal with
      | true => exact ⟨drawOf M.state, M.step.add a l (drawOf M.state), rfl, by rw [add_qs, step_qs], by rw [add_ideal, step_ideal, hI], by rw [add_draws, step_draws]; omega, (fun h => by cases h), fun _ => ⟨rfl, by rw [add_draws, step_draws], by rw [add_state, step_state]⟩, by rw [add_seals, step_seals], by rw [add_proofs, step_proofs]⟩
      | false => exact ⟨hashU a l, M.add a l (hashU a l), rfl, add_qs _ _ _ _, by rw [add_ideal, hI], by rw [add_draws]; omega, fun _ => ⟨rfl, add_draws _ _ _ _, add_state _ _ _ _⟩, (fun h => by cases h), add_seals _ _ _ _, add_proofs _ _ _ _⟩
  · have hE : allE l = false := by simpa using hE
    exact .inl ⟨by unfold Orc.hash; rw [hE]; rfl, hE⟩
theorem hash_qs_le (M : Orc) (a : UInt64) (l : List UInt64) : (M.hash a l).2.qs.length ≤ M.qs.length + 1 := by
  rcases hash_cases M a l with ⟨h, _⟩ | ⟨_, i, _, h⟩ | ⟨_, _, x, M1, h, hq, _⟩ <;> rw [h] <;> simp_all
theorem hash_draws_le (M : Orc) (a : UInt64) (l : List UInt64) : (M.hash a l).2.draws ≤ M.draws + 1 := by
  rcases hash_cases M a l with ⟨h, _⟩ | ⟨_, i, _, h⟩ | ⟨_, _, x, M1, h, _, _, hd, _⟩ <;> rw [h] <;> simp_all
theorem hash_ideal (M : Orc) (a : UInt64) (l : List UInt64) : (M.hash a l).2.ideal = M.ideal := by
  rcases hash_cases M a l with ⟨h, _⟩ | ⟨_, i, _, h⟩ | ⟨_, _, x, M1, h, _, hi, _⟩ <;> rw [h] <;> simp_all
theorem asks_qs_le : ∀ (l : List (UInt64 × List UInt64)) (M : Orc), (M.asks l).2.qs.length ≤ M.qs.length + l.length
  | [], _ => Nat.le_refl _
  | p :: r, M => by
    have h1 := asks_qs_le r (M.hash p.1 p.2).2
    have h2 := hash_qs_le M p.1 p.2
    rw [asks_cons, List.length_cons]
    simp only
    omega
theorem asks_draws_le : ∀ (l : List (UInt64 × List UInt64)) (M : Orc), (M.asks l).2.draws ≤ M.draws + l.length
  | [], _ => Nat.le_refl _
  | p :: r, M => by
    have h1 := asks_draws_le r (M.hash p.1 p.2).2
    have h2 := hash_draws_le M p.1 p.2
    rw [asks_cons, List.length_cons]
    simp only
    omega
theorem asks_ideal : ∀ (l : List (UInt64 × List UInt64)) (M : Orc), (M.asks l).2.ideal = M.ideal
  | [], _ => rfl
  | p :: r, M => by rw [asks_cons]; simp only; rw [asks_ideal r, hash_ideal]

theorem asks_take_fst : ∀ (qs : List (UInt64 × List UInt64)) (M : Orc) (i : Nat), (M.asks (qs.take i)).1 = (M.asks qs).1.take i
  | [], M, i => by rw [List.take_nil, asks_nil, List.take_nil]
  | q :: r, M, 0 => by rw [List.take_zero, List.take_zero, asks_nil]
  | q :: r, M, i + 1 => by rw [List.take_succ_cons, asks_cons, asks_cons, List.take_succ_cons, asks_take_fst r]
theorem asks_take_succ {qs : List (UInt64 × List UInt64)} {i : Nat} {q : UInt64 × List UInt64} (h : qs[i]? = some q) (M : Orc) :
    M.asks (qs.take (i + 1)) = ((M.asks (qs.take i)).1 ++ [((M.asks (qs.take i)).2.hash q.1 q.2).1], ((M.asks (qs.take i)).2.hash q.1 q.2).2) := by
  rw [List.take_add_one, h]
  exact asks_snoc _ _ _
theorem asks_at {qs : List (UInt64 × List UInt64)} {i : Nat} {q : UInt64 × List UInt64} (h : qs[i]? = some q) (M : Orc) : (M.asks qs).1[i]? = some ((M.asks (qs.take i)).2.hash q.1 q.2).1 := by
  have h1 := congrArg Prod.fst (asks_take_succ h M)
  have h2 := asks_take_fst qs M (i + 1)
  have h3 : i < qs.length := (List.getElem?_eq_some_iff.1 h).1
  have h4 : ((M.asks qs).1.take (i + 1))[i]? = (M.asks qs).1[i]? := by rw [List.getElem?_take, if_pos (by omega)]
  rw [← h4, ← h2, h1]
  have h5 : (M.asks (qs.take i)).1.length = i := by rw [asks_length, List.length_take, Nat.min_eq_left (by omega)]
  rw [List.getElem?_append_right (by omega), h5]
  simp

/-! ## the tree -/
def leafQ (leaves : Lv) (salts : List UInt64) : List (UInt64 × List UInt64) := (leaves.zip salts).map fun x => (16, x.2 :: x.1)
theorem leafQ_length {leaves : Lv} {salts : List UInt64} (h : salts.length = leaves.length) : (leafQ leaves salts).length = leaves.length := by simp [leafQ, h]
theorem leafQ_at {leaves : Lv} {salts : List UInt64} {i : Nat} {l : List UInt64} {s : UInt64} (hl : leaves[i]? = some l) (hs : salts[i]? = some s) : (leafQ leaves salts)[i]? = some (16, s :: l) := by
  unfold leafQ
  rw [List.getElem?_map, (List.getElem?_zip_eq_some (z := (l, s))).2 ⟨hl, hs⟩]; rfl
def branchQ (level : List UInt64) : List (UInt64 × List UInt64) := (List.range (level.length / 2)).map fun i => (17, [level.getD (2 * i) 0, level.getD (2 * i + 1) 0])
theorem branchQ_length (level : List UInt64) : (branchQ level).length = level.length / 2 := by simp [branchQ]
theorem branchQ_at {level : List UInt64} {i : Nat} (h : i < level.length / 2) : (branchQ level)[i]? = some (17, [level.getD (2 * i) 0, level.getD (2 * i + 1) 0]) := by
  simp [branchQ, List.getElem?_range h]
def Orc.climb (M : Orc) : Nat → List UInt64 → Lv × Orc
  | 0, level => ([level], M)
  | k + 1, level => if level.length ≤ 1 then ([level], M) else (level :: ((M.asks (branchQ level)).2.climb k (M.asks (branchQ level)).1).1, ((M.asks (branchQ level)).2.climb k (M.asks (branchQ level)).1).2)
theorem climb_stop (M : Orc) (k : Nat) (level : List UInt64) (h : level.length ≤ 1) : M.climb k level = ([level], M) := by
  cases k with
  | zero => rfl
  | succ k => rw [Orc.climb, if_pos h]
theorem climb_go (M : Orc) (k : Nat) (level : List UInt64) (h : ¬ level.length ≤ 1) :
    M.climb (k + 1) level = (level :: ((M.asks (branchQ level)).2.climb k (M.asks (branchQ level)).1).1, ((M.asks (branchQ level)).2.climb k (M.asks (branchQ level)).1).2) := by
  rw [Orc.climb, if_neg h]
def Orc.tree (M : Orc) (leaves : Lv) (salts : List UInt64) : Lv × Orc := (M.asks (leafQ leaves salts)).2.climb 10 (M.asks (leafQ leaves salts)).1
def commitOk (leaves : Lv) (salts : List UInt64) : Bool := isNum leaves.length && (salts.length == leaves.length && (allE salts && leaves.all allE))
def Orc.commitT (M : Orc) (leaves : Lv) (salts : List UInt64) : Lv × Orc := if commitOk leaves salts then M.tree leaves salts else ([], M)
end Go.Proofs.Ytdpgfjnpcjpdpaa
