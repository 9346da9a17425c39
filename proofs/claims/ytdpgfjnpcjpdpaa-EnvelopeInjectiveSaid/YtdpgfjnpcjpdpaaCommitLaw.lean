/- Plain: a commitment tree as a function of the oracle; what is known afterwards. Plain: the questions on the way from a leaf to the root. Plain: the examples of the chapter merkle. -/
import Derived.Test.YtdpgfjnpcjpdpaaPlainLaw
import Derived.Test.YtdpgfjnpcjpdpaaTreeLaw
import Derived.Test.YtdpgfjnpcjpdpaaOrc2
namespace Go.Proofs.Ytdpgfjnpcjpdpaa
open Go.RowKit
attribute [local irreducible] perm fAdd fMul fPow fSub fNeg fRed hashU drawOf nextState

/-! ## questions asked one after the other -/
def Orc.asks (M : Orc) : List (UInt64 × List UInt64) → List UInt64 × Orc
  | [] => ([], M)
  | q :: r => ((M.hash q.1 q.2).1 :: ((M.hash q.1 q.2).2.asks r).1, ((M.hash q.1 q.2).2.asks r).2)
theorem asks_nil (M : Orc) : M.asks [] = ([], M) := rfl
theorem asks_cons (M : Orc) (q : UInt64 × List UInt64) (r : List (UInt64 × List UInt64)) : M.asks (q :: r) = ((M.hash q.1 q.2).1 :: ((M.hash q.1 q.2).2.asks r).1, ((M.hash q.1 q.2).2.asks r).2) := rfl
theorem asks_snoc : ∀ (l : List (UInt64 × List UInt64)) (M : Orc) (q : UInt64 × List UInt64), M.asks (l ++ [q]) = ((M.asks l).1 ++ [((M.asks l).2.hash q.1 q.2).1], ((M.asks l).2.hash q.1 q.2).2)
  | [], M, q => rfl
  | p :: r, M, q => by
    rw [List.cons_append, asks_cons, asks_cons, asks_snoc r]
    rfl
theorem asks_length : ∀ (l : List (UInt64 × List UInt64)) (M : Orc), (M.asks l).1.length = l.length
  | [], _ => rfl
  | p :: r, M => by rw [asks_cons]; simp [asks_length r]
theorem add_seals (M : Orc) (label : UInt64) (l : List UInt64) (a : UInt64) : (M.add label l a).seals = M.seals := rfl
theorem add_proofs (M : Orc) (label : UInt64) (l : List UInt64) (a : UInt64) : (M.add label l a).proofs = M.proofs := rfl
theorem add_state (M : Orc) (label : UInt64) (l : List UInt64) (a : UInt64) : (M.add label l a).state = M.state := rfl
theorem hash_cases (M : Orc) (a : UInt64) (l : List UInt64) : (M.hash a l = (0, M) ∧ allE l = false) ∨ (allE l = true ∧ ∃ i, findQ M.qs a l = some i ∧ M.hash a l = (answerAt M.qs i, M)) ∨
    (allE l = true ∧ findQ M.qs a l = none ∧ ∃ x M1, M.hash a l = (x, M1) ∧ M1.qs = M.qs ++ [⟨a, l, x⟩] ∧ M1.ideal = M.ideal ∧ M1.draws ≤ M.draws + 1 ∧ (M.ideal = false → x = hashU a l ∧ M1.draws = M.draws ∧ M1.state = M.state) ∧ (M.ideal = true → x = drawOf M.state ∧ M1.draws = M.draws + 1 ∧ M1.state = nextState M.state) ∧ M1.seals = M.seals ∧ M1.proofs = M.proofs) := by
  by_cases hE : allE l = true
  · cases hf : findQ M.qs a l with
    | some i => exact .inr (.inl ⟨hE, i, rfl, hash_known M a l i hE hf⟩)
    | none =>
      refine .inr (.inr ⟨hE, rfl, ?_⟩)
      unfold Orc.hash
      rw [if_pos hE, hf]
      cases hI : M.ideal with
      | true => exact ⟨drawOf M.state, M.step.add a l (drawOf M.state), rfl, by rw [add_qs, step_qs], by rw [add_ideal, step_ideal, hI], by rw [add_draws, step_draws]; omega, (fun h => by cases h), fun _ => ⟨rfl, by rw [add_draws, step_draws], by rw [add_state, step_state]⟩, by rw [add_seals, step_seals], by rw [add_proofs, step_proofs]⟩
      | false => exact ⟨hashU a l, M.add a l (hashU a l), rfl, add_qs _ _ _ _, by rw [add_ideal, hI], by rw [add_draws]; omega, fun _ => ⟨rfl, add_draws _ _ _ _, add_state _ _ _ _⟩, (fun h => by cases h), add_seals _ _ _ _, add_proofs _ _ _ _⟩
  · have hE : allE l = false := by simpa using hE
    exact .inl ⟨by unfold Orc.hash; rw [hE]; rfl, hE⟩
theorem hash_qs_le (M : Orc) (a : UInt64) (l : List UInt64) : (M.hash a l).2.qs.length ≤ M.qs.length + 1 := by
  rcases hash_cases M a l with ⟨h, _⟩ | ⟨_, i, _, h⟩ | ⟨_, _, x, M1, h, hq, _⟩ <;> rw [h] <;> simp_all
theorem hash_draws_le (M : Orc) (a : UInt64) (l : List UInt64) : (M.hash a l).2.draws ≤ M.draws + 1 := by
  rcases hash_cases M a l with ⟨h, _⟩ | ⟨_, i, _, h⟩ | ⟨_, _, x, M1, h, _, _, hd, _⟩ <;> rw [h] <;> simp_all
theorem hash_ideal (M : Orc) (a : UInt64) (l : List UInt64) : (M.hash a l).2.ideal = M.ideal := by
  rcases hash_cases M a l with ⟨h, _⟩ | ⟨_, i, _, h⟩ | ⟨_, _, x, M1, h, _, hi, _⟩ <;> rw [h] <;> simp_all
theorem asks_qs_le : ∀ (l : List (UInt64 × List UInt64)) (M : Orc), (M.asks l).2.qs.length ≤ M.qs.length + l.length
  | [], _ => Nat.le_refl _
  | p :: r, M => by
    have h1 := asks_qs_le r (M.hash p.1 p.2).2
    have h2 := hash_qs_le M p.1 p.2
    rw [asks_cons, List.length_cons]
    simp only
    omega
theorem asks_draws_le : ∀ (l : List (UInt64 × List UInt64)) (M : Orc), (M.asks l).2.draws ≤ M.draws + l.length
  | [], _ => Nat.le_refl _
  | p :: r, M => by
    have h1 := asks_draws_le r (M.hash p.1 p.2).2
    have h2 := hash_draws_le M p.1 p.2
    rw [asks_cons, List.length_cons]
    simp only
    omega
theorem asks_ideal : ∀ (l : List (UInt64 × List UInt64)) (M : Orc), (M.asks l).2.ideal = M.ideal
  | [], _ => rfl
  | p :: r, M => by rw [asks_cons]; simp only; rw [asks_ideal r, hash_ideal]

theorem asks_take_fst : ∀ (qs : List (UInt64 × List UInt64)) (M : Orc) (i : Nat), (M.asks (qs.take i)).1 = (M.asks qs).1.take i
  | [], M, i => by rw [List.take_nil, asks_nil, List.take_nil]
  | q :: r, M, 0 => by rw [List.take_zero, List.take_zero, asks_nil]
  | q :: r, M, i + 1 => by rw [List.take_succ_cons, asks_cons, asks_cons, List.take_succ_cons, asks_take_fst r]
theorem asks_take_succ {qs : List (UInt64 × List UInt64)} {i : Nat} {q : UInt64 × List UInt64} (h : qs[i]? = some q) (M : Orc) :
    M.asks (qs.take (i + 1)) = ((M.asks (qs.take i)).1 ++ [((M.asks (qs.take i)).2.hash q.1 q.2).1], ((M.asks (qs.take i)).2.hash q.1 q.2).2) := by
  rw [List.take_add_one, h]
  exact asks_snoc _ _ _
theorem asks_at {qs : List (UInt64 × List UInt64)} {i : Nat} {q : UInt64 × List UInt64} (h : qs[i]? = some q) (M : Orc) : (M.asks qs).1[i]? = some ((M.asks (qs.take i)).2.hash q.1 q.2).1 := by
  have h1 := congrArg Prod.fst (asks_take_succ h M)
  have h2 := asks_take_fst qs M (i + 1)
  have h3 : i < qs.length := (List.getElem?_eq_some_iff.1 h).1
  have h4 : ((M.asks qs).1.take (i + 1))[i]? = (M.asks qs).1[i]? := by rw [List.getElem?_take, if_pos (by omega)]
  rw [← h4, ← h2, h1]
  have h5 : (M.asks (qs.take i)).1.length = i := by rw [asks_length, List.length_take, Nat.min_eq_left (by omega)]
  rw [List.getElem?_append_right (by omega), h5]
  simp

/-! ## the tree -/
def leafQ (leaves : Lv) (salts : List UInt64) : List (UInt64 × List UInt64) := (leaves.zip salts).map fun x => (16, x.2 :: x.1)
theorem leafQ_length {leaves : Lv} {salts : List UInt64} (h : salts.length = leaves.length) : (leafQ leaves salts).length = leaves.length := by simp [leafQ, h]
theorem leafQ_at {leaves : Lv} {salts : List UInt64} {i : Nat} {l : List UInt64} {s : UInt64} (hl : leaves[i]? = some l) (hs : salts[i]? = some s) : (leafQ leaves salts)[i]? = some (16, s :: l) := by
  unfold leafQ
  rw [List.getElem?_map, (List.getElem?_zip_eq_some (z := (l, s))).2 ⟨hl, hs⟩]; rfl
def branchQ (level : List UInt64) : List (UInt64 × List UInt64) := (List.range (level.length / 2)).map fun i => (17, [level.getD (2 * i) 0, level.getD (2 * i + 1) 0])
theorem branchQ_length (level : List UInt64) : (branchQ level).length = level.length / 2 := by simp [branchQ]
theorem branchQ_at {level : List UInt64} {i : Nat} (h : i < level.length / 2) : (branchQ level)[i]? = some (17, [level.getD (2 * i) 0, level.getD (2 * i + 1) 0]) := by
  simp [branchQ, List.getElem?_range h]
def Orc.climb (M : Orc) : Nat → List UInt64 → Lv × Orc
  | 0, level => ([level], M)
  | k + 1, level => if level.length ≤ 1 then ([level], M) else (level :: ((M.asks (branchQ level)).2.climb k (M.asks (branchQ level)).1).1, ((M.asks (branchQ level)).2.climb k (M.asks (branchQ level)).1).2)
theorem climb_stop (M : Orc) (k : Nat) (level : List UInt64) (h : level.length ≤ 1) : M.climb k level = ([level], M) := by
  cases k with
  | zero => rfl
  | succ k => rw [Orc.climb, if_pos h]
theorem climb_go (M : Orc) (k : Nat) (level : List UInt64) (h : ¬ level.length ≤ 1) :
    M.climb (k + 1) level = (level :: ((M.asks (branchQ level)).2.climb k (M.asks (branchQ level)).1).1, ((M.asks (branchQ level)).2.climb k (M.asks (branchQ level)).1).2) := by
  rw [Orc.climb, if_neg h]
def Orc.tree (M : Orc) (leaves : Lv) (salts : List UInt64) : Lv × Orc := (M.asks (leafQ leaves salts)).2.climb 10 (M.asks (leafQ leaves salts)).1
def commitOk (leaves : Lv) (salts : List UInt64) : Bool := isNum leaves.length && (salts.length == leaves.length && (allE salts && leaves.all allE))
def Orc.commitT (M : Orc) (leaves : Lv) (salts : List UInt64) : Lv × Orc := if commitOk leaves salts then M.tree leaves salts else ([], M)
end Go.Proofs.Ytdpgfjnpcjpdpaa
namespace Go.Proofs.Ytdpgfjnpcjpdpaa
open Go.RowKit
attribute [local irreducible] perm fAdd fMul fPow fSub fNeg fRed hashU drawOf nextState

structure Opn where
  leaf : List UInt64
  salt : UInt64
  path : List UInt64
/-- What answers a question: the answer, whether there is one, the oracle behind it. -/
abbrev AskF := Orc → UInt64 → List UInt64 → (UInt64 × Bool) × Orc
def peekF : AskF := fun M a l => (M.peek a l, M)
def hashF : AskF := fun M a l => (((M.hash a l).1, true), (M.hash a l).2)
def pairOf (i : Nat) (a p : UInt64) : List UInt64 := if i % 2 = 1 then [p, a] else [a, p]
def pre (acc : List Qn) (x : Option (List Qn) × Orc) : Option (List Qn) × Orc := (x.1.map (acc ++ ·), x.2)
def folF (f : AskF) : List UInt64 → Nat → Orc → UInt64 × List UInt64 → Option (List Qn) × Orc
  | [], _, M, q => if (f M q.1 q.2).1.2 then (some [⟨q.1, q.2, (f M q.1 q.2).1.1⟩], (f M q.1 q.2).2) else (none, (f M q.1 q.2).2)
  | p :: r, i, M, q => if (f M q.1 q.2).1.2 then pre [⟨q.1, q.2, (f M q.1 q.2).1.1⟩] (folF f r (i / 2) (f M q.1 q.2).2 (17, pairOf i (f M q.1 q.2).1.1 p)) else (none, (f M q.1 q.2).2)
theorem folF_no {f : AskF} {l : List UInt64} {i : Nat} {M : Orc} {q : UInt64 × List UInt64} (h : (f M q.1 q.2).1.2 = false) : folF f l i M q = (none, (f M q.1 q.2).2) := by
  cases l <;> simp [folF, h]
theorem folF_end {f : AskF} {i : Nat} {M : Orc} {q : UInt64 × List UInt64} (h : (f M q.1 q.2).1.2 = true) : folF f [] i M q = (some [⟨q.1, q.2, (f M q.1 q.2).1.1⟩], (f M q.1 q.2).2) := by
  simp [folF, h]
theorem folF_go {f : AskF} {p : UInt64} {r : List UInt64} {i : Nat} {M : Orc} {q : UInt64 × List UInt64} (h : (f M q.1 q.2).1.2 = true) :
    folF f (p :: r) i M q = pre [⟨q.1, q.2, (f M q.1 q.2).1.1⟩] (folF f r (i / 2) (f M q.1 q.2).2 (17, pairOf i (f M q.1 q.2).1.1 p)) := by
  simp [folF, h]
theorem pre_pre (a b : List Qn) (x : Option (List Qn) × Orc) : pre a (pre b x) = pre (a ++ b) x := by
  obtain ⟨x, M⟩ := x
  cases x <;> simp [pre]
theorem pre_nil (x : Option (List Qn) × Orc) : pre [] x = x := by
  obtain ⟨x, M⟩ := x
  cases x <;> simp [pre]
theorem pre_none (a : List Qn) (M : Orc) : pre a (none, M) = (none, M) := rfl
theorem pre_some (a l : List Qn) (M : Orc) : pre a (some l, M) = (some (a ++ l), M) := rfl
def lastA (l : List Qn) : UInt64 := ((l.getLast?).map (·.answer)).getD 0
theorem lastA_snoc (l : List Qn) (q : Qn) : lastA (l ++ [q]) = q.answer := by simp [lastA]
def Orc.fol (f : AskF) (M : Orc) (i : Nat) (x : Opn) : Option (List Qn) × Orc := folF f x.path i M (16, x.salt :: x.leaf)

def possible (root : UInt64) (n i : Int) (x : Opn) : Bool :=
  numI n && (decide (0 ≤ i) && (decide (i < n) && ((((2 ^ x.path.length : Nat) : Int) == n) && (decide (root < big) && (decide (x.salt < big) && (allE x.leaf && allE x.path))))))
/-- Does the opening fit? (and the oracle afterwards) -/
def Orc.verify (M : Orc) (root : UInt64) (n i : Int) (x : Opn) : Bool × Orc :=
  if possible root n i x then
    ((((M.fol (if M.ideal then peekF else hashF) i.toNat x).1.map fun l => lastA l == root).getD false), (M.fol (if M.ideal then peekF else hashF) i.toNat x).2)
  else (false, M)
def folOk (r : Option (List Qn) × Orc) (root : UInt64) : Bool := (r.1.map fun l => lastA l == root).getD false
theorem peekF_orc : ∀ (l : List UInt64) (i : Nat) (M : Orc) (q : UInt64 × List UInt64), (folF peekF l i M q).2 = M
  | [], i, M, q => by
    unfold folF; split <;> rfl
  | p :: r, i, M, q => by
    unfold folF
    split
    · show (folF peekF r (i / 2) M _).2 = M
      exact peekF_orc r _ M _
    · rfl
end Go.Proofs.Ytdpgfjnpcjpdpaa
namespace Go.Proofs.Ytdpgfjnpcjpdpaa
open Go.RowKit
def awL : Lv := [[1], [2], [3], [4]]
def awS : List UInt64 := [5, 6, 7, 8]
def awT : Lv × Orc := (Orc.fresh true 1).commitT awL awS
theorem awT_eq : (Orc.fresh true 1).commitT awL awS = awT := rfl
theorem aw_ok : commitOk awL awS = true := by decide +kernel
theorem aw_lens : awT.1.map List.length = [4, 2, 1] := by decide +kernel
theorem aw_formed : formed awT.1 = true := by decide +kernel
theorem aw_qs : awT.2.qs.length = 7 := by decide +kernel
theorem aw_draws : awT.2.draws = 7 := by decide +kernel
theorem aw_ideal : awT.2.ideal = true := by decide +kernel
theorem aw_path : pathL awT.1 2 = [at2 awT.1 0 3, at2 awT.1 1 0] := by decide +kernel
theorem aw_yes : (awT.2.verify (rootL awT.1) 4 2 ⟨[3], 7, [at2 awT.1 0 3, at2 awT.1 1 0]⟩).1 = true := by decide +kernel
theorem aw_no : (awT.2.verify (rootL awT.1) 4 3 ⟨[3], 7, [at2 awT.1 0 3, at2 awT.1 1 0]⟩).1 = false := by decide +kernel
theorem verify_ideal {M : Orc} (h : M.ideal = true) (root : UInt64) (n i : Int) (x : Opn) : (M.verify root n i x).2 = M := by
  unfold Orc.verify
  split
  · exact peekF_orc _ _ _ _
  · rfl
end Go.Proofs.Ytdpgfjnpcjpdpaa
