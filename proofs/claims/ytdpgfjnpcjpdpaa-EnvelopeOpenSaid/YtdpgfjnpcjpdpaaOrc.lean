/- The oracle in memory and as a plain model: what each of its methods computes. -/
import Derived.Test.YtdpgfjnpcjpdpaaKey2
import Derived.Test.YtdpgfjnpcjpdpaaMap
namespace Go.Proofs.Ytdpgfjnpcjpdpaa
open Go.RowKit
attribute [local irreducible] perm fAdd fMul fPow fSub fNeg fRed

/-! ## the plain model -/
structure Qn where
  label : UInt64
  elems : List UInt64
  answer : UInt64
structure Sl where
  key : UInt64
  nonce : UInt64
  sealed : List UInt64
  plain : List UInt64
structure Orc where
  ideal : Bool
  state : UInt64
  draws : Nat
  qs : List Qn
  seals : List Sl
  proofs : List (UInt64 × List UInt64)

def mix1 (s : UInt64) : UInt64 := (s ^^^ (s >>> 30)) * 13787848793156543929
def mix2 (s : UInt64) : UInt64 := (s ^^^ (s >>> 27)) * 10723151780598845931
def mix3 (s : UInt64) : UInt64 := (s ^^^ (s >>> 31)) % big
def nextState (s : UInt64) : UInt64 := s + 11400714819323198485
def drawOf (s : UInt64) : UInt64 := mix3 (mix2 (mix1 (nextState s)))
def Orc.step (M : Orc) : Orc := { M with state := nextState M.state, draws := M.draws + 1 }
def findQ (qs : List Qn) (label : UInt64) (l : List UInt64) : Option Nat := qs.findIdx? fun q => q.label == label && q.elems == l
def Orc.add (M : Orc) (label : UInt64) (l : List UInt64) (a : UInt64) : Orc := { M with qs := M.qs ++ [⟨label, l, a⟩] }
def answerAt (qs : List Qn) (i : Nat) : UInt64 := ((qs[i]?).map (·.answer)).getD 0
def Orc.hash (M : Orc) (label : UInt64) (l : List UInt64) : UInt64 × Orc :=
  if allE l then
    match findQ M.qs label l with
    | some i => (answerAt M.qs i, M)
    | none => if M.ideal then (drawOf M.state, M.step.add label l (drawOf M.state)) else (hashU label l, M.add label l (hashU label l))
  else (0, M)
def Orc.peek (M : Orc) (label : UInt64) (l : List UInt64) : UInt64 × Bool :=
  if allE l then
    match findQ M.qs label l with
    | some i => (answerAt M.qs i, true)
    | none => if M.ideal then (0, false) else (hashU label l, true)
  else (0, false)
def Orc.prog (M : Orc) (label : UInt64) (l : List UInt64) (a : UInt64) : Bool × Orc :=
  if M.ideal && decide (a < big) && allE l && (findQ M.qs label l).isNone then (true, M.add label l a) else (false, M)

/-! ## in memory -/
abbrev uv (x : UInt64) : Value := .int .u64 (x.toNat : Int)
def qCells (qv : List (Qn × Value)) : List Value := qv.flatMap fun x => [uv x.1.label, x.2, uv x.1.answer]
def knownL (qs : List Qn) : List (ByteArray × Value) := qs.zipIdx.map fun x => (keyS [x.1.label] x.1.elems, Value.int .i64 (x.2 : Int))
def sealL (sv : List (Sl × Value)) : List (ByteArray × Value) := sv.map fun x => (keyS [x.1.key, x.1.nonce] x.1.sealed, x.2)
def proofL (ps : List (UInt64 × List UInt64)) : List (ByteArray × Value) := ps.map fun x => (keyS [x.1] x.2, Value.bool true)

/-- The oracle M lies at block b; F: the blocks that belong to it. -/
structure OrcIn (w : World) (b : Nat) (M : Orc) (F : Nat → Prop) (qv : Value) (mk ms mp : Nat) (Q : List (Qn × Value)) (S : List (Sl × Value)) : Prop where
  self : w.heap[b]? = some (.cells #[.bool M.ideal, uv M.state, .int .i64 (M.draws : Int), qv, .map (some mk), .map (some ms), .map (some mp)] 140 (0, 0))
  qown : w.ownsRow 0 49 3 qv Q.length (qCells Q)
  qs : Q.map (·.1) = M.qs
  elems : ∀ x ∈ Q, OwnU w x.2 x.1.elems ∧ ∀ k, blk x.2 = some k → F k
  known : KMap Value.string w mk (knownL M.qs)
  seals : KMap Value.string w ms (sealL S)
  ss : S.map (·.1) = M.seals
  plains : ∀ x ∈ S, OwnU w x.2 x.1.plain ∧ ∀ k, blk x.2 = some k → F k
  proofs : KMap Value.string w mp (proofL M.proofs)
  apart : mk ≠ ms ∧ mk ≠ mp ∧ ms ≠ mp
  foot : F b ∧ F mk ∧ F ms ∧ F mp ∧ (∀ k, blk qv = some k → F k) ∧ ∀ k, F k → k < w.heap.size
def OrcAt (w : World) (b : Nat) (M : Orc) (F : Nat → Prop) : Prop := ∃ qv mk ms mp Q S, OrcIn w b M F qv mk ms mp Q S

/-- What is true of an oracle hangs on its own blocks alone. -/
theorem OrcIn.of_blocks {w w' : World} {b : Nat} {M : Orc} {F : Nat → Prop} {qv : Value} {mk ms mp : Nat} {Q : List (Qn × Value)} {S : List (Sl × Value)} (h : OrcIn w b M F qv mk ms mp Q S)
    (hb : ∀ k, F k → w'.heap[k]? = w.heap[k]?) (hz : w.heap.size ≤ w'.heap.size) : OrcIn w' b M F qv mk ms mp Q S where
  self := (hb b h.foot.1).trans h.self
  qown := ownsRow_of h.qown fun k hk => hb k (h.foot.2.2.2.2.1 k hk)
  qs := h.qs
  elems x hx := ⟨ownsRow_of (h.elems x hx).1 fun k hk => hb k ((h.elems x hx).2 k hk), (h.elems x hx).2⟩
  known := h.known.of_heap (hb mk h.foot.2.1)
  seals := h.seals.of_heap (hb ms h.foot.2.2.1)
  ss := h.ss
  plains x hx := ⟨ownsRow_of (h.plains x hx).1 fun k hk => hb k ((h.plains x hx).2 k hk), (h.plains x hx).2⟩
  proofs := h.proofs.of_heap (hb mp h.foot.2.2.2.1)
  apart := h.apart
  foot := ⟨h.foot.1, h.foot.2.1, h.foot.2.2.1, h.foot.2.2.2.1, h.foot.2.2.2.2.1, fun k hk => Nat.lt_of_lt_of_le (h.foot.2.2.2.2.2 k hk) hz⟩
theorem OrcIn.ext {w w' : World} {b : Nat} {M : Orc} {F : Nat → Prop} {qv : Value} {mk ms mp : Nat} {Q : List (Qn × Value)} {S : List (Sl × Value)} (h : OrcIn w b M F qv mk ms mp Q S) (k : Ext w w') : OrcIn w' b M F qv mk ms mp Q S :=
  h.of_blocks (fun i hi => k.block i (h.foot.2.2.2.2.2 i hi)) k.size
theorem OrcAt.ext {w w' : World} {b : Nat} {M : Orc} {F : Nat → Prop} (h : OrcAt w b M F) (k : Ext w w') : OrcAt w' b M F := by
  obtain ⟨qv, mk, ms, mp, Q, S, h⟩ := h; exact ⟨qv, mk, ms, mp, Q, S, h.ext k⟩
theorem OrcAt.kp {G : Nat → Prop} {w w' : World} {b : Nat} {M : Orc} {F : Nat → Prop} (h : OrcAt w b M F) (k : Kp G w w') (hG : ∀ i, F i → ¬ G i) : OrcAt w' b M F := by
  obtain ⟨qv, mk, ms, mp, Q, S, h⟩ := h
  exact ⟨qv, mk, ms, mp, Q, S, h.of_blocks (fun i hi => k.block i (h.foot.2.2.2.2.2 i hi) (hG i hi)) k.size⟩
theorem OrcAt.foot_lt {w : World} {b : Nat} {M : Orc} {F : Nat → Prop} (h : OrcAt w b M F) : ∀ k, F k → k < w.heap.size := by
  obtain ⟨qv, mk, ms, mp, Q, S, h⟩ := h; exact h.foot.2.2.2.2.2
theorem OrcAt.self_in {w : World} {b : Nat} {M : Orc} {F : Nat → Prop} (h : OrcAt w b M F) : F b := by
  obtain ⟨qv, mk, ms, mp, Q, S, h⟩ := h; exact h.foot.1

/-- An operation on the oracle at b: M becomes M', its blocks F become F' (old ones and new ones), nothing else turns. -/
structure OrcTo (w : World) (b : Nat) (F : Nat → Prop) (M' : Orc) (w' : World) (F' : Nat → Prop) : Prop where
  at' : OrcAt w' b M' F'
  kp : Kp F w w'
  new : ∀ k, F' k → F k ∨ w.heap.size ≤ k
  old : ∀ k, F k → F' k

/-! ## look-ups among the known questions -/
theorem assoc_known (qs : List Qn) (label : UInt64) (l : List UInt64) : ∀ n : Nat,
    assoc ((qs.zipIdx n).map fun x => (keyS [x.1.label] x.1.elems, Value.int .i64 (x.2 : Int))) (keyS [label] l) = (findQ qs label l).map fun (i : Nat) => Value.int .i64 ((n + i : Nat) : Int) := by
  induction qs with
  | nil => intro n; rfl
  | cons q r ih =>
    intro n
    simp only [List.zipIdx_cons, List.map_cons, assoc, findQ, List.findIdx?_cons]
    have hk : (keyS [q.label] q.elems == keyS [label] l) = (q.label == label && q.elems == l) := by
      rw [Bool.eq_iff_iff]
      simp only [beq_iff_eq, Bool.and_eq_true]
      constructor
      · intro h; have := keyS_inj (ns := [q.label]) (ms := [label]) rfl h; exact ⟨by simpa using this.1, this.2⟩
      · rintro ⟨h1, h2⟩; rw [h1, h2]
    rw [hk]
    cases q.label == label && q.elems == l with
    | true => simp
    | false =>
      simp only [Bool.false_eq_true, if_false]
      have := ih (n + 1)
      simp only [findQ] at this
      rw [this, Option.map_map]
      congr 1
      funext i
      simp only [Function.comp]
      congr 1
      omega
theorem assoc_knownL (qs : List Qn) (label : UInt64) (l : List UInt64) : assoc (knownL qs) (keyS [label] l) = (findQ qs label l).map fun (i : Nat) => Value.int .i64 ((i : Nat) : Int) := by
  unfold knownL
  rw [show qs.zipIdx = qs.zipIdx 0 from rfl, assoc_known qs label l 0]
  congr 1
  funext i
  rw [Nat.zero_add]
theorem assocSet_new {κ ν : Type} [BEq κ] (L : List (κ × ν)) (k : κ) (v : ν) (h : assoc L k = none) : assocSet L k v = L ++ [(k, v)] := by
  induction L with
  | nil => rfl
  | cons x r ih =>
    simp only [assoc] at h
    by_cases hx : x.1 == k
    · simp [hx] at h
    · simp only [hx] at h
      simp [assocSet, hx, ih h]
theorem knownL_snoc (qs : List Qn) (q : Qn) : knownL (qs ++ [q]) = knownL qs ++ [(keyS [q.label] q.elems, Value.int .i64 (qs.length : Int))] := by
  simp [knownL, List.zipIdx_append]
theorem findQ_lt {qs : List Qn} {label : UInt64} {l : List UInt64} {i : Nat} (h : findQ qs label l = some i) : i < qs.length := by
  unfold findQ at h
  exact (List.findIdx?_eq_some_iff_getElem.1 h).1
end Go.Proofs.Ytdpgfjnpcjpdpaa
