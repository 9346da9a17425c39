/- Lists whose elements are written over; lists beside an oracle. -/
import Derived.Test.YtdkilbnocmnekaaTake
set_option linter.unusedSimpArgs false
namespace Go.Proofs.Ytdkilbnocmnekaa
open Go.RowKit
attribute [local irreducible] perm fAdd fMul fPow fSub fNeg fRed drawOf nextState

/-- A list of numbers that lies beside the blocks of F. -/
structure Beside (w : World) (F : Nat → Prop) (v : Value) (l : List UInt64) : Prop where
  own : OwnU w v l
  no : ∀ k, blk v = some k → ¬ F k
theorem Beside.ext {w w' : World} {F : Nat → Prop} {v : Value} {l : List UInt64} (h : Beside w F v l) (k : Ext w w') : Beside w' F v l := ⟨ownsRow_ext h.own k, h.no⟩
theorem Beside.to {w w' : World} {b : Nat} {M : Orc} {F F' : Nat → Prop} {v : Value} {l : List UInt64} (h : Beside w F v l) (t : OrcTo w b F M w' F') : Beside w' F' v l :=
  ⟨ownsRow_kp h.own t.kp h.no, fun k hk hf => by
    rcases t.new k hf with h1 | h1
    · exact h.no k hk h1
    · have := ownsRow_lt h.own hk; omega⟩
theorem Beside.fresh {w w' : World} {b : Nat} {M : Orc} {F : Nat → Prop} {v : Value} {l : List UInt64} (h : OrcAt w b M F) (ho : OwnU w' v l) (hn : ∀ k, blk v = some k → w.heap.size ≤ k) : Beside w' F v l :=
  ⟨ho, fun k hk hf => by have := hn k hk; have := h.foot_lt k hf; omega⟩

/-- A list of n numbers whose cells can be written. -/
def MutB (w : World) (v : Value) (n : Nat) : Prop :=
  ∃ a c, v = .slice a n c ∧ ((a = none ∧ n = 0) ∨ ∃ g cur, a = some ⟨g, 0, none⟩ ∧ w.heap[g]? = some (.cells cur 22 (0, 0)) ∧ n ≤ cur.size)
theorem MutB.of {w : World} {v : Value} {l : List UInt64} (h : OwnU w v l) : MutB w v l.length := by
  rcases h.2 with ⟨rfl, h0⟩ | ⟨g, cap, cur, rfl, _, hg, hnc, _, hcs, _⟩
  · rw [h0]; exact ⟨_, _, rfl, .inl ⟨rfl, rfl⟩⟩
  · exact ⟨_, _, rfl, .inr ⟨g, cur, rfl, hg, by omega⟩⟩
theorem MutB.ext {w w' : World} {v : Value} {n : Nat} (h : MutB w v n) (k : Ext w w') : MutB w' v n := by
  obtain ⟨a, c, rfl, h⟩ := h
  refine ⟨a, c, rfl, ?_⟩
  rcases h with h | ⟨g, cur, h1, h2, h3⟩
  · exact .inl h
  · exact .inr ⟨g, cur, h1, k.heap_some h2, h3⟩
theorem MutB.set {w : World} {v : Value} {n : Nat} (h : MutB w v n) (b o : Nat) (u : Value) : MutB (w.setCell ⟨b, o, none⟩ u) v n := by
  obtain ⟨a, c, rfl, h⟩ := h
  refine ⟨a, c, rfl, ?_⟩
  rcases h with h | ⟨g, cur, h1, h2, h3⟩
  · exact .inl h
  · right
    by_cases hb : b = g
    · subst hb; exact ⟨b, _, h1, heap_setCell_same h2 o u, by simpa using h3⟩
    · exact ⟨g, cur, h1, (heap_setCell_ne (fun e => hb e.symm) o u).trans h2, h3⟩
theorem MutB.at {w : World} {a : Option Addr} {n m c : Nat} (h : MutB w (.slice a n c) m) {i : Nat} (hi : i < n) : ∃ g u, a = some ⟨g, 0, none⟩ ∧ w.cell? ⟨g, i, none⟩ = some u ∧ (∀ o, w.frozen? ⟨g, o, none⟩ = false) := by
  obtain ⟨a', c', he, h⟩ := h
  injection he with h1 h2 h3
  subst h1 h2
  rcases h with ⟨_, h⟩ | ⟨g, cur, h1, h2, h3⟩
  · omega
  · exact ⟨g, _, h1, (cell_of h2 i).trans (Array.getElem?_eq_getElem (by omega)), frozen_of h2⟩

/-- The lists Vs may have been written over since w0, and nothing else. -/
structure Over (Vs : List Value) (w0 w : World) : Prop where
  kp : Kp (fun k => ∃ v ∈ Vs, blk v = some k) w0 w
  cells : ∀ v ∈ Vs, ∃ n, MutB w v n
theorem Over.ext {Vs : List Value} {w0 w w' : World} (h : Over Vs w0 w) (k : Ext w w') : Over Vs w0 w' :=
  ⟨h.kp.ext k, fun v hv => by obtain ⟨n, hn⟩ := h.cells v hv; exact ⟨n, hn.ext k⟩⟩
theorem Over.set {Vs : List Value} {w0 w : World} (h : Over Vs w0 w) {a : Option Addr} {n c g : Nat} (hv : .slice a n c ∈ Vs) (ha : a = some ⟨g, 0, none⟩) (o : Nat) (u : Value) : Over Vs w0 (w.setCell ⟨g, o, none⟩ u) := by
  subst ha
  exact ⟨h.kp.setCell (p := ⟨g, o, none⟩) (.inl ⟨_, hv, rfl⟩) u, fun v hv' => by obtain ⟨n, hn⟩ := h.cells v hv'; exact ⟨n, hn.set g o u⟩⟩
end Go.Proofs.Ytdkilbnocmnekaa
