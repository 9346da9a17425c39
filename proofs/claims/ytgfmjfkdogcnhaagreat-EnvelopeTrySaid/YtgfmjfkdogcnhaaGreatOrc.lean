/- The oracle in memory and as a plain model: what each of its methods computes. The oracle's small methods: newOracle, Real, Ideal, IsIdeal, Draws, Draw. The oracle's small methods: Draws, Draw. -/
import Derived.Test.YtgfmjfkdogcnhaaGreatKey
import Derived.Test.YtgfmjfkdogcnhaaGreatSlice
import Derived.Laws.Bits64
namespace Go.Proofs.YtgfmjfkdogcnhaaGreat
open Go.RowKit
attribute [local irreducible] perm fAdd fMul fPow fSub fNeg fRed

/-! ## the plain model -/
structure Qn where
  label : UInt64
  elems : List UInt64
  answer : UInt64
structure Sl where
  key : UInt64
  nonce : UInt64
  sealed : List UInt64
  plain : List UInt64
structure Orc where
  ideal : Bool
  state : UInt64
  draws : Nat
  qs : List Qn
  seals : List Sl
  proofs : List (UInt64 × List UInt64)

def mix1 (s : UInt64) : UInt64 := (s ^^^ (s >>> 30)) * 13787848793156543929
def mix2 (s : UInt64) : UInt64 := (s ^^^ (s >>> 27)) * 10723151780598845931
def mix3 (s : UInt64) : UInt64 := (s ^^^ (s >>> 31)) % big
def nextState (s : UInt64) : UInt64 := s + 11400714819323198485
def drawOf (s : UInt64) : UInt64 := mix3 (mix2 (mix1 (nextState s)))
def Orc.step (M : Orc) : Orc := { M with state := nextState M.state, draws := M.draws + 1 }
def findQ (qs : List Qn) (label : UInt64) (l : List UInt64) : Option Nat := qs.findIdx? fun q => q.label == label && q.elems == l
def Orc.add (M : Orc) (label : UInt64) (l : List UInt64) (a : UInt64) : Orc := { M with qs := M.qs ++ [⟨label, l, a⟩] }
def answerAt (qs : List Qn) (i : Nat) : UInt64 := ((qs[i]?).map (·.answer)).getD 0
def Orc.hash (M : Orc) (label : UInt64) (l : List UInt64) : UInt64 × Orc :=
  if allE l then
    match findQ M.qs label l with
    | some i => (answerAt M.qs i, M)
    | none => if M.ideal then (drawOf M.state, M.step.add label l (drawOf M.state)) else (hashU label l, M.add label l (hashU label l))
  else (0, M)
def Orc.peek (M : Orc) (label : UInt64) (l : List UInt64) : UInt64 × Bool :=
  if allE l then
    match findQ M.qs label l with
    | some i => (answerAt M.qs i, true)
    | none => if M.ideal then (0, false) else (hashU label l, true)
  else (0, false)
def Orc.prog (M : Orc) (label : UInt64) (l : List UInt64) (a : UInt64) : Bool × Orc :=
  if M.ideal && decide (a < big) && allE l && (findQ M.qs label l).isNone then (true, M.add label l a) else (false, M)

/-! ## in memory -/
abbrev uv (x : UInt64) : Value := .int .u64 (x.toNat : Int)
def qCells (qv : List (Qn × Value)) : List Value := qv.flatMap fun x => [uv x.1.label, x.2, uv x.1.answer]
def knownL (qs : List Qn) : List (ByteArray × Value) := qs.zipIdx.map fun x => (keyS [x.1.label] x.1.elems, Value.int .i64 (x.2 : Int))
def sealL (sv : List (Sl × Value)) : List (ByteArray × Value) := sv.map fun x => (keyS [x.1.key, x.1.nonce] x.1.sealed, x.2)
def proofL (ps : List (UInt64 × List UInt64)) : List (ByteArray × Value) := ps.map fun x => (keyS [x.1] x.2, Value.bool true)

/-- The oracle M lies at block b; F: the blocks that belong to it. -/
structure OrcIn (w : World) (b : Nat) (M : Orc) (F : Nat → Prop) (qv : Value) (mk ms mp : Nat) (Q : List (Qn × Value)) (S : List (Sl × Value)) : Prop where
  self : w.heap[b]? = some (.cells #[.bool M.ideal, uv M.state, .int .i64 (M.draws : Int), qv, .map (some mk), .map (some ms), .map (some mp)] 104 (0, 0))
  qown : w.ownsRow 0 111 3 qv Q.length (qCells Q)
  qs : Q.map (·.1) = M.qs
  elems : ∀ x ∈ Q, OwnU w x.2 x.1.elems ∧ ∀ k, blk x.2 = some k → F k
  known : KMap Value.string w mk (knownL M.qs)
  seals : KMap Value.string w ms (sealL S)
  ss : S.map (·.1) = M.seals
  plains : ∀ x ∈ S, OwnU w x.2 x.1.plain ∧ ∀ k, blk x.2 = some k → F k
  proofs : KMap Value.string w mp (proofL M.proofs)
  apart : mk ≠ ms ∧ mk ≠ mp ∧ ms ≠ mp
  foot : F b ∧ F mk ∧ F ms ∧ F mp ∧ (∀ k, blk qv = some k → F k) ∧ ∀ k, F k → k < w.heap.size
def OrcAt (w : World) (b : Nat) (M : Orc) (F : Nat → Prop) : Prop := ∃ qv mk ms mp Q S, OrcIn w b M F qv mk ms mp Q S

/-- What is true of an oracle hangs on its own blocks alone. -/
theorem OrcIn.of_blocks {w w' : World} {b : Nat} {M : Orc} {F : Nat → Prop} {qv : Value} {mk ms mp : Nat} {Q : List (Qn × Value)} {S : List (Sl × Value)} (h : OrcIn w b M F qv mk ms mp Q S)
    (hb : ∀ k, F k → w'.heap[k]? = w.heap[k]?) (hz : w.heap.size ≤ w'.heap.size) : OrcIn w' b M F qv mk ms mp Q S where
  self := (hb b h.foot.1).trans h.self
  qown := ownsRow_of h.qown fun k hk => hb k (h.foot.2.2.2.2.1 k hk)
  qs := h.qs
  elems x hx := ⟨ownsRow_of (h.elems x hx).1 fun k hk => hb k ((h.elems x hx).2 k hk), (h.elems x hx).2⟩
  known := h.known.of_heap (hb mk h.foot.2.1)
  seals := h.seals.of_heap (hb ms h.foot.2.2.1)
  ss := h.ss
  plains x hx := ⟨ownsRow_of (h.plains x hx).1 fun k hk => hb k ((h.plains x hx).2 k hk), (h.plains x hx).2⟩
  proofs := h.proofs.of_heap (hb mp h.foot.2.2.2.1)
  apart := h.apart
  foot := ⟨h.foot.1, h.foot.2.1, h.foot.2.2.1, h.foot.2.2.2.1, h.foot.2.2.2.2.1, fun k hk => Nat.lt_of_lt_of_le (h.foot.2.2.2.2.2 k hk) hz⟩
theorem OrcIn.ext {w w' : World} {b : Nat} {M : Orc} {F : Nat → Prop} {qv : Value} {mk ms mp : Nat} {Q : List (Qn × Value)} {S : List (Sl × Value)} (h : OrcIn w b M F qv mk ms mp Q S) (k : Ext w w') : OrcIn w' b M F qv mk ms mp Q S :=
  h.of_blocks (fun i hi => k.block i (h.foot.2.2.2.2.2 i hi)) k.size
theorem OrcAt.ext {w w' : World} {b : Nat} {M : Orc} {F : Nat → Prop} (h : OrcAt w b M F) (k : Ext w w') : OrcAt w' b M F := by
  obtain ⟨qv, mk, ms, mp, Q, S, h⟩ := h; exact ⟨qv, mk, ms, mp, Q, S, h.ext k⟩
theorem OrcAt.kp {G : Nat → Prop} {w w' : World} {b : Nat} {M : Orc} {F : Nat → Prop} (h : OrcAt w b M F) (k : Kp G w w') (hG : ∀ i, F i → ¬ G i) : OrcAt w' b M F := by
  obtain ⟨qv, mk, ms, mp, Q, S, h⟩ := h
  exact ⟨qv, mk, ms, mp, Q, S, h.of_blocks (fun i hi => k.block i (h.foot.2.2.2.2.2 i hi) (hG i hi)) k.size⟩
theorem OrcAt.foot_lt {w : World} {b : Nat} {M : Orc} {F : Nat → Prop} (h : OrcAt w b M F) : ∀ k, F k → k < w.heap.size := by
  obtain ⟨qv, mk, ms, mp, Q, S, h⟩ := h; exact h.foot.2.2.2.2.2
theorem OrcAt.self_in {w : World} {b : Nat} {M : Orc} {F : Nat → Prop} (h : OrcAt w b M F) : F b := by
  obtain ⟨qv, mk, ms, mp, Q, S, h⟩ := h; exact h.foot.1

/-- An operation on the oracle at b: M becomes M', its blocks F become F' (old ones and new ones), nothing else turns. -/
structure OrcTo (w : World) (b : Nat) (F : Nat → Prop) (M' : Orc) (w' : World) (F' : Nat → Prop) : Prop where
  at' : OrcAt w' b M' F'
  kp : Kp F w w'
  new : ∀ k, F' k → F k ∨ w.heap.size ≤ k
  old : ∀ k, F k → F' k

/-! ## look-ups among the known questions -/
theorem assoc_known (qs : List Qn) (label : UInt64) (l : List UInt64) : ∀ n : Nat,
    assoc ((qs.zipIdx n).map fun x => (keyS [x.1.label] x.1.elems, Value.int .i64 (x.2 : Int))) (keyS [label] l) = (findQ qs label l).map fun (i : Nat) => Value.int .i64 ((n + i : Nat) : Int) := by
  induction qs with
  | nil => intro n; rfl
  | cons q r ih =>
    intro n
    simp only [List.zipIdx_cons, List.map_cons, assoc, findQ, List.findIdx?_cons]
    have hk : (keyS [q.label] q.elems == keyS [label] l) = (q.label == label && q.elems == l) := by
      rw [Bool.eq_iff_iff]
      simp only [beq_iff_eq, Bool.and_eq_true]
      constructor
      · intro h; have := keyS_inj (ns := [q.label]) (ms := [label]) rfl h; exact ⟨by simpa using this.1, this.2⟩
      · rintro ⟨h1, h2⟩; rw [h1, h2]
    rw [hk]
    cases q.label == label && q.elems == l with
    | true => simp
    | false =>
      simp only [Bool.false_eq_true, if_false]
      have := ih (n + 1)
      simp only [findQ] at this
      rw [this, Option.map_map]
      congr 1
      funext i
      simp only [Function.comp]
      congr 1
      omega
theorem assoc_knownL (qs : List Qn) (label : UInt64) (l : List UInt64) : assoc (knownL qs) (keyS [label] l) = (findQ qs label l).map fun (i : Nat) => Value.int .i64 ((i : Nat) : Int) := by
  unfold knownL
  rw [show qs.zipIdx = qs.zipIdx 0 from rfl, assoc_known qs label l 0]
  congr 1
  funext i
  rw [Nat.zero_add]
theorem assocSet_new {κ ν : Type} [BEq κ] (L : List (κ × ν)) (k : κ) (v : ν) (h : assoc L k = none) : assocSet L k v = L ++ [(k, v)] := by
  induction L with
  | nil => rfl
  | cons x r ih =>
    simp only [assoc] at h
    by_cases hx : x.1 == k
    · simp [hx] at h
    · simp only [hx] at h
      simp [assocSet, hx, ih h]
theorem knownL_snoc (qs : List Qn) (q : Qn) : knownL (qs ++ [q]) = knownL qs ++ [(keyS [q.label] q.elems, Value.int .i64 (qs.length : Int))] := by
  simp [knownL, List.zipIdx_append]
theorem findQ_lt {qs : List Qn} {label : UInt64} {l : List UInt64} {i : Nat} (h : findQ qs label l = some i) : i < qs.length := by
  unfold findQ at h
  exact (List.findIdx?_eq_some_iff_getElem.1 h).1
end Go.Proofs.YtgfmjfkdogcnhaaGreat
namespace Go.Proofs.YtgfmjfkdogcnhaaGreat
open Go.RowKit
attribute [local irreducible] perm fAdd fMul fPow fSub fNeg fRed

def Orc.fresh (ideal : Bool) (seed : UInt64) : Orc := ⟨ideal, seed, 0, [], [], []⟩
/-- A new oracle M. -/
def NewO (w : World) (M : Orc) (e : Ending) (w' : World) : Prop :=
  ∃ (b : Nat) (F : Nat → Prop), e = .returned (.pointer (some ⟨b, 0, none⟩)) ∧ OrcAt w' b M F ∧ Ext w w' ∧ ∀ k, F k → w.heap.size ≤ k

theorem map_next {w : World} {o : Obj} : (w.alloc o).heap.size = w.heap.size + 1 := by simp
set_option maxRecDepth 100000 in
set_option maxHeartbeats 800000 in
theorem newOracle_any (w : World) : Calls Tryz.prog 48 #[] w (NewO w (Orc.fresh false 0)) := by
  have hmm := @run_makeMap Tryz.prog
  go_enter Tryz.func48, Tryz.ntmps48
  go_wp2
  go_ret
  refine ⟨w.heap.size + 3, fun k => w.heap.size ≤ k ∧ k < w.heap.size + 4, rfl, ⟨.slice none 0 0, w.heap.size, w.heap.size + 1, w.heap.size + 2, [], [], ?_⟩, (((((Ext.refl _).alloc _).alloc _).alloc _).alloc _), fun k h => h.1⟩
  have h0 : ((((w.alloc (.map #[] 0)).alloc (.map #[] 0)).alloc (.map #[] 0)).alloc (.cells #[.bool false, .int .u64 0, .int .i64 0, .slice none 0 0, .map (some w.heap.size), .map (some (w.heap.size + 1)), .map (some (w.heap.size + 2))] 104)).heap[w.heap.size]? = some (.map #[] 0) :=
    heap_alloc_some (heap_alloc_some (heap_alloc_some (heap_new _ _)))
  have h1 : ((((w.alloc (.map #[] 0)).alloc (.map #[] 0)).alloc (.map #[] 0)).alloc (.cells #[.bool false, .int .u64 0, .int .i64 0, .slice none 0 0, .map (some w.heap.size), .map (some (w.heap.size + 1)), .map (some (w.heap.size + 2))] 104)).heap[w.heap.size + 1]? = some (.map #[] 0) := by
    refine heap_alloc_some (heap_alloc_some ?_)
    have := heap_new (w.alloc (.map #[] 0)) (.map #[] 0)
    simpa using this
  have h2 : ((((w.alloc (.map #[] 0)).alloc (.map #[] 0)).alloc (.map #[] 0)).alloc (.cells #[.bool false, .int .u64 0, .int .i64 0, .slice none 0 0, .map (some w.heap.size), .map (some (w.heap.size + 1)), .map (some (w.heap.size + 2))] 104)).heap[w.heap.size + 2]? = some (.map #[] 0) := by
    refine heap_alloc_some ?_
    have := heap_new ((w.alloc (.map #[] 0)).alloc (.map #[] 0)) (.map #[] 0)
    simpa using this
  have h3 : ((((w.alloc (.map #[] 0)).alloc (.map #[] 0)).alloc (.map #[] 0)).alloc (.cells #[.bool false, .int .u64 0, .int .i64 0, .slice none 0 0, .map (some w.heap.size), .map (some (w.heap.size + 1)), .map (some (w.heap.size + 2))] 104)).heap[w.heap.size + 3]? = some (.cells #[.bool false, .int .u64 0, .int .i64 0, .slice none 0 0, .map (some w.heap.size), .map (some (w.heap.size + 1)), .map (some (w.heap.size + 2))] 104 (0, 0)) := by
    have := heap_new (((w.alloc (.map #[] 0)).alloc (.map #[] 0)).alloc (.map #[] 0)) (.cells #[.bool false, .int .u64 0, .int .i64 0, .slice none 0 0, .map (some w.heap.size), .map (some (w.heap.size + 1)), .map (some (w.heap.size + 2))] 104)
    simpa using this
  exact {
    self := h3
    qown := World.ownsRow_nil _ _ _ _
    qs := rfl
    elems := by intro x hx; cases hx
    known := ⟨_, _, h0, rfl⟩
    seals := ⟨_, _, h1, rfl⟩
    ss := rfl
    plains := by intro x hx; cases hx
    proofs := ⟨_, _, h2, rfl⟩
    apart := by omega
    foot := by
      refine ⟨by omega, by omega, by omega, by omega, ?_, ?_⟩
      · intro k h; simp [Value.ownBlock] at h
      · intro k h; simp; omega }

theorem Real_any (w : World) : Calls Tryz.prog 19 #[] w (NewO w (Orc.fresh false 0)) := by
  go_enter Tryz.func19, Tryz.ntmps19
  go_wp2_with fail
  refine (newOracle_any _).mono ?_
  rintro e w' ⟨b, F, rfl, h⟩
  have H := hid h
  clear h
  go_wp2
  go_ret
  exact ⟨b, F, rfl, H.out⟩

theorem self_cells {w : World} {b : Nat} {c0 c1 c2 c3 c4 c5 c6 : Value} {T : TypeId} (h : w.heap[b]? = some (.cells #[c0, c1, c2, c3, c4, c5, c6] T (0, 0))) :
    w.cell? ⟨b, 0, none⟩ = some c0 ∧ w.cell? ⟨b, 1, none⟩ = some c1 ∧ w.cell? ⟨b, 2, none⟩ = some c2 ∧ w.cell? ⟨b, 3, none⟩ = some c3 ∧ w.cell? ⟨b, 4, none⟩ = some c4 ∧ w.cell? ⟨b, 5, none⟩ = some c5 ∧ w.cell? ⟨b, 6, none⟩ = some c6 :=
  ⟨cell_of h 0, cell_of h 1, cell_of h 2, cell_of h 3, cell_of h 4, cell_of h 5, cell_of h 6⟩

/-- The oracle's own block is written anew; the rest of it is as it was. -/
theorem OrcIn.reself {w w' : World} {b : Nat} {M : Orc} {F : Nat → Prop} {qv : Value} {mk ms mp : Nat} {Q : List (Qn × Value)} {S : List (Sl × Value)} (h : OrcIn w b M F qv mk ms mp Q S)
    (ideal : Bool) (st : UInt64) (n : Nat)
    (hs : w'.heap[b]? = some (.cells #[.bool ideal, uv st, .int .i64 (n : Int), qv, .map (some mk), .map (some ms), .map (some mp)] 104 (0, 0)))
    (hb : ∀ k, k ≠ b → k < w.heap.size → w'.heap[k]? = w.heap[k]?) (hz : w.heap.size ≤ w'.heap.size) : OrcIn w' b { M with ideal := ideal, state := st, draws := n } F qv mk ms mp Q S := by
  have hm : ∀ {κ : Type} {key : κ → Value} {m : Nat} {L : List (κ × Value)}, KMap key w m L → m ≠ b := by
    intro κ key m L hm hmb
    obtain ⟨es, c, h1, _⟩ := hm
    rw [hmb, h.self] at h1; cases h1
  have ho : ∀ {e : TypeId} {size n : Nat} {v : Value} {xs : List Value}, e ≠ 104 → w.ownsRow 0 e size v n xs → w'.ownsRow 0 e size v n xs := by
    intro e size n v xs he hw
    refine ownsRow_of hw fun k hk => hb k ?_ (ownsRow_lt hw hk)
    rintro rfl
    rcases hw.2 with ⟨rfl, _⟩ | ⟨g, cap, cur, rfl, _, hg, _⟩
    · simp [Value.ownBlock] at hk
    · simp only [Value.ownBlock, Option.some.injEq] at hk
      rw [← hk] at h
      have := h.self
      rw [hg] at this
      injection this with this
      injection this with _ h2
      exact he h2
  exact {
    self := hs
    qown := ho (by decide) h.qown
    qs := h.qs
    elems := fun x hx => ⟨ho (by decide) (h.elems x hx).1, (h.elems x hx).2⟩
    known := h.known.of_heap (hb mk (hm h.known) h.known.lt)
    seals := h.seals.of_heap (hb ms (hm h.seals) h.seals.lt)
    ss := h.ss
    plains := fun x hx => ⟨ho (by decide) (h.plains x hx).1, (h.plains x hx).2⟩
    proofs := h.proofs.of_heap (hb mp (hm h.proofs) h.proofs.lt)
    apart := h.apart
    foot := ⟨h.foot.1, h.foot.2.1, h.foot.2.2.1, h.foot.2.2.2.1, h.foot.2.2.2.2.1, fun k hk => Nat.lt_of_lt_of_le (h.foot.2.2.2.2.2 k hk) hz⟩ }

set_option maxRecDepth 100000 in
set_option maxHeartbeats 800000 in
theorem Ideal_any (seed : UInt64) (w : World) : Calls Tryz.prog 24 #[.int .u64 seed.toNat] w (NewO w (Orc.fresh true seed)) := by
  go_enter Tryz.func24, Tryz.ntmps24
  go_wp2_with fail
  refine (newOracle_any _).mono ?_
  rintro e w1 ⟨b, F, rfl, hat, hE, hF⟩
  obtain ⟨qv, mk, ms, mp, Q, S, hin⟩ := hat
  have hself := hin.self
  obtain ⟨c0, c1, _⟩ := self_cells hself
  have f0 := frozen_of hself
  have HIN := hid hin
  have HE := hid hE
  have HF := hid hF
  clear hin hE hF hself
  go_wp2
  go_ret
  have hs := heap_setCell_same (heap_setCell_same HIN.out.self 0 (.bool true)) 1 (uv seed)
  have hK : Kp (fun k => k = b) w1 ((w1.setCell ⟨b, 0, none⟩ (.bool true)).setCell ⟨b, 1, none⟩ (uv seed)) := ((Kp.refl (fun k => k = b) w1).setCell (p := ⟨b, 0, none⟩) (.inl rfl) _).setCell (p := ⟨b, 1, none⟩) (.inl rfl) _
  have hr := HIN.out.reself true seed 0 hs (fun k hk hl => hK.block k hl hk) hK.size
  exact ⟨b, F, rfl, ⟨qv, mk, ms, mp, Q, S, hr⟩, HE.out.kp hK (by rintro k rfl; exact HF.out _ HIN.out.foot.1), HF.out⟩
end Go.Proofs.YtgfmjfkdogcnhaaGreat
namespace Go.Proofs.YtgfmjfkdogcnhaaGreat
open Go.RowKit
attribute [local irreducible] perm fAdd fMul fPow fSub fNeg fRed

/-- The oracle's own cells. -/
abbrev Own (w : World) (b : Nat) (ideal : Bool) (st : UInt64) (n : Nat) (q k s p : Value) : Prop :=
  w.heap[b]? = some (.cells #[.bool ideal, uv st, .int .i64 (n : Int), q, k, s, p] 104 (0, 0))

set_option maxRecDepth 100000 in
set_option maxHeartbeats 400000 in
theorem Draws_any {w : World} {b : Nat} {ideal : Bool} {st : UInt64} {n : Nat} {q k s p : Value} (h : Own w b ideal st n q k s p) :
    Calls Tryz.prog 35 #[.pointer (some ⟨b, 0, none⟩)] w (fun e w' => e = .returned (.int .i64 (n : Int)) ∧ w' = w) := by
  obtain ⟨-, -, c2, -⟩ := self_cells h
  have hf := frozen_of h
  clear h
  go_enter Tryz.func35, Tryz.ntmps35
  go_wp2
  go_ret
  exact ⟨rfl, rfl⟩

set_option maxRecDepth 100000 in
set_option maxHeartbeats 400000 in
theorem Draw_real {w : World} {b : Nat} {st : UInt64} {n : Nat} {q k s p : Value} (h : Own w b false st n q k s p) :
    Calls Tryz.prog 71 #[.pointer (some ⟨b, 0, none⟩)] w (fun e w' => e = .returned (.int .u64 0) ∧ w' = w) := by
  obtain ⟨c0, -⟩ := self_cells h
  have hf := frozen_of h
  clear h
  go_enter Tryz.func71, Tryz.ntmps71
  go_wp2
  go_ret
  exact ⟨rfl, rfl⟩

theorem next_wrap (s : UInt64) : IntKind.u64.wrap ((s.toNat : Int) + 11400714819323198485) = ((nextState s).toNat : Int) := by
  simp only [nextState, IntKind.wrap, UInt64.toNat_add]; rfl

theorem xor_shr (s : UInt64) (k : Nat) (hk : k < 64) : bits .xor .u64 (s.toNat : Int) ((s.toNat : Int) / ((2 ^ k : Nat) : Int)) = ((s ^^^ (s >>> UInt64.ofNat k)).toNat : Int) := by
  rw [xorShift_u64 _ _ s.toNat_lt]
  congr 1
  rw [UInt64.toNat_xor, UInt64.toNat_shiftRight, UInt64.toNat_ofNat_of_lt' (Nat.lt_trans hk (by decide)), Nat.mod_eq_of_lt hk, Nat.shiftRight_eq_div_pow]
theorem stage1 (s : UInt64) : IntKind.u64.wrap (bits .xor .u64 (s.toNat : Int) ((s.toNat : Int) / 1073741824) * 13787848793156543929) = ((mix1 s).toNat : Int) := by
  have h := xor_shr s 30 (by omega)
  rw [show (((2 ^ 30 : Nat) : Int)) = 1073741824 from rfl] at h
  rw [h, IntKind.wrap_u64, mix1, UInt64.toNat_mul]; rfl
theorem stage2 (s : UInt64) : IntKind.u64.wrap (bits .xor .u64 (s.toNat : Int) ((s.toNat : Int) / 134217728) * 10723151780598845931) = ((mix2 s).toNat : Int) := by
  have h := xor_shr s 27 (by omega)
  rw [show (((2 ^ 27 : Nat) : Int)) = 134217728 from rfl] at h
  rw [h, IntKind.wrap_u64, mix2, UInt64.toNat_mul]; rfl
theorem stage3 (s : UInt64) : (bits .xor .u64 (s.toNat : Int) ((s.toNat : Int) / 2147483648)).tmod 18446744069414584321 = ((mix3 s).toNat : Int) := by
  have h := xor_shr s 31 (by omega)
  rw [show (((2 ^ 31 : Nat) : Int)) = 2147483648 from rfl] at h
  rw [h, mix3, UInt64.toNat_mod]; rfl

def DrewO (w : World) (b : Nat) (st : UInt64) (n : Nat) (q k s p : Value) (e : Ending) (w' : World) : Prop :=
  e = .returned (uv (drawOf st)) ∧ Own w' b true (nextState st) (n + 1) q k s p ∧ Kp (fun k => k = b) w w'

set_option maxRecDepth 100000 in
set_option maxHeartbeats 800000 in
theorem Draw_ideal {w : World} {b : Nat} {st : UInt64} {n : Nat} {q k s p : Value} (h : Own w b true st n q k s p) (hn : n ≤ 1000000000000) :
    Calls Tryz.prog 71 #[.pointer (some ⟨b, 0, none⟩)] w (DrewO w b st n q k s p) := by
  obtain ⟨c0, c1, c2, -⟩ := self_cells h
  have hf := frozen_of h
  have H := hid h
  clear h
  have hw1 := next_wrap st
  have hw2 : IntKind.i64.wrap ((n : Int) + 1) = (n : Int) + 1 := IntWalk.i64_in _ (by omega)
  have s1 := stage1 (nextState st)
  have s2 := stage2 (mix1 (nextState st))
  have s3 := stage3 (mix2 (mix1 (nextState st)))
  clear hn
  go_enter Tryz.func71, Tryz.ntmps71
  go_wp2
  go_ret
  have H1 := heap_setCell_same (heap_setCell_same H.out 2 (.int .i64 ((n : Int) + 1))) 1 (uv (nextState st))
  exact ⟨rfl, H1, ((Kp.refl (fun k => k = b) w).setCell (p := ⟨b, 2, none⟩) (.inl rfl) _).setCell (p := ⟨b, 1, none⟩) (.inl rfl) _⟩

/-- The block of the oracle itself changed, and nothing else. -/
theorem OrcIn.drawn {w w' : World} {b : Nat} {M : Orc} {F : Nat → Prop} {qv : Value} {mk ms mp : Nat} {Q : List (Qn × Value)} {S : List (Sl × Value)} (h : OrcIn w b M F qv mk ms mp Q S)
    (hs : Own w' b M.ideal (nextState M.state) (M.draws + 1) qv (.map (some mk)) (.map (some ms)) (.map (some mp))) (hk : Kp (fun k => k = b) w w') : OrcIn w' b M.step F qv mk ms mp Q S :=
  h.reself M.ideal (nextState M.state) (M.draws + 1) hs (fun k hne hlt => hk.block k hlt hne) hk.size
end Go.Proofs.YtgfmjfkdogcnhaaGreat
