/- Plain: the questions on the way from a leaf to the root. -/
import Derived.Test.YtdpgfjnpcjpdpaaCommitLaw
namespace Go.Proofs.Ytdpgfjnpcjpdpaa
open Go.RowKit
attribute [local irreducible] perm fAdd fMul fPow fSub fNeg fRed hashU drawOf nextState

structure Opn where
  leaf : List UInt64
  salt : UInt64
  path : List UInt64
/-- What answers a question: the answer, whether there is one, the oracle behind it. -/
abbrev AskF := Orc → UInt64 → List UInt64 → (UInt64 × Bool) × Orc
def peekF : AskF := fun M a l => (M.peek a l, M)
def hashF : AskF := fun M a l => (((M.hash a l).1, true), (M.hash a l).2)
def pairOf (i : Nat) (a p : UInt64) : List UInt64 := if i % 2 = 1 then [p, a] else [a, p]
def pre (acc : List Qn) (x : Option (List Qn) × Orc) : Option (List Qn) × Orc := (x.1.map (acc ++ ·), x.2)
def folF (f : AskF) : List UInt64 → Nat → Orc → UInt64 × List UInt64 → Option (List Qn) × Orc
  | [], _, M, q => if (f M q.1 q.2).1.2 then (some [⟨q.1, q.2, (f M q.1 q.2).1.1⟩], (f M q.1 q.2).2) else (none, (f M q.1 q.2).2)
  | p :: r, i, M, q => if (f M q.1 q.2).1.2 then pre [⟨q.1, q.2, (f M q.1 q.2).1.1⟩] (folF f r (i / 2) (f M q.1 q.2).2 (17, pairOf i (f M q.1 q.2).1.1 p)) else (none, (f M q.1 q.2).2)
theorem folF_no {f : AskF} {l : List UInt64} {i : Nat} {M : Orc} {q : UInt64 × List UInt64} (h : (f M q.1 q.2).1.2 = false) : folF f l i M q = (none, (f M q.1 q.2).2) := by
  cases l <;> simp [folF, h]
theorem folF_end {f : AskF} {i : Nat} {M : Orc} {q : UInt64 × List UInt64} (h : (f M q.1 q.2).1.2 = true) : folF f [] i M q = (some [⟨q.1, q.2, (f M q.1 q.2).1.1⟩], (f M q.1 q.2).2) := by
  simp [folF, h]
theorem folF_go {f : AskF} {p : UInt64} {r : List UInt64} {i : Nat} {M : Orc} {q : UInt64 × List UInt64} (h : (f M q.1 q.2).1.2 = true) :
    folF f (p :: r) i M q = pre [⟨q.1, q.2, (f M q.1 q.2).1.1⟩] (folF f r (i / 2) (f M q.1 q.2).2 (17, pairOf i (f M q.1 q.2).1.1 p)) := by
  simp [folF, h]
theorem pre_pre (a b : List Qn) (x : Option (List Qn) × Orc) : pre a (pre b x) = pre (a ++ b) x := by
  obtain ⟨x, M⟩ := x
  cases x <;> simp [pre]
theorem pre_nil (x : Option (List Qn) × Orc) : pre [] x = x := by
  obtain ⟨x, M⟩ := x
  cases x <;> simp [pre]
theorem pre_none (a : List Qn) (M : Orc) : pre a (none, M) = (none, M) := rfl
theorem pre_some (a l : List Qn) (M : Orc) : pre a (some l, M) = (some (a ++ l), M) := rfl
def lastA (l : List Qn) : UInt64 := ((l.getLast?).map (·.answer)).getD 0
theorem lastA_snoc (l : List Qn) (q : Qn) : lastA (l ++ [q]) = q.answer := by simp [lastA]
def Orc.fol (f : AskF) (M : Orc) (i : Nat) (x : Opn) : Option (List Qn) × Orc := folF f x.path i M (16, x.salt :: x.leaf)

def possible (root : UInt64) (n i : Int) (x : Opn) : Bool :=
  numI n && (decide (0 ≤ i) && (decide (i < n) && ((((2 ^ x.path.length : Nat) : Int) == n) && (decide (root < big) && (decide (x.salt < big) && (allE x.leaf && allE x.path))))))
/-- Does the opening fit? (and the oracle afterwards) -/
def Orc.verify (M : Orc) (root : UInt64) (n i : Int) (x : Opn) : Bool × Orc :=
  if possible root n i x then
    ((((M.fol (if M.ideal then peekF else hashF) i.toNat x).1.map fun l => lastA l == root).getD false), (M.fol (if M.ideal then peekF else hashF) i.toNat x).2)
  else (false, M)
def folOk (r : Option (List Qn) × Orc) (root : UInt64) : Bool := (r.1.map fun l => lastA l == root).getD false
theorem peekF_orc : ∀ (l : List UInt64) (i : Nat) (M : Orc) (q : UInt64 × List UInt64), (folF peekF l i M q).2 = M
  | [], i, M, q => by
    unfold folF; split <;> rfl
  | p :: r, i, M, q => by
    unfold folF
    split
    · show (folF peekF r (i / 2) M _).2 = M
      exact peekF_orc r _ M _
    · rfl
end Go.Proofs.Ytdpgfjnpcjpdpaa
