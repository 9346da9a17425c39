/- Two oracles side by side in memory. -/
import Derived.Test.YtdpgfjnpcjpdpaaAsk
set_option linter.unusedSimpArgs false
namespace Go.Proofs.Ytdpgfjnpcjpdpaa
open Go.RowKit
attribute [local irreducible] perm fAdd fMul fPow fSub fNeg fRed
/-- Two oracles side by side. -/
structure Two (w v : World) (bo bq : Nat) (Mo Mq : Orc) (Fo Fq : Nat → Prop) : Prop where
  o : OrcAt v bo Mo Fo
  q : OrcAt v bq Mq Fq
  dis : ∀ k, Fo k → ¬ Fq k
  new : ∀ k, Fo k ∨ Fq k → w.heap.size ≤ k
  ex : Ext w v
theorem Two.ext {w v v' : World} {bo bq : Nat} {Mo Mq : Orc} {Fo Fq : Nat → Prop} (h : Two w v bo bq Mo Mq Fo Fq) (k : Ext v v') : Two w v' bo bq Mo Mq Fo Fq :=
  ⟨h.o.ext k, h.q.ext k, h.dis, h.new, h.ex.trans k⟩
theorem Two.left {w v v' : World} {bo bq : Nat} {Mo Mq Mo' : Orc} {Fo Fq Fo' : Nat → Prop} (h : Two w v bo bq Mo Mq Fo Fq) (t : OrcTo v bo Fo Mo' v' Fo') : Two w v' bo bq Mo' Mq Fo' Fq where
  o := t.at'
  q := h.q.kp t.kp fun i hq ho => h.dis i ho hq
  dis k ho hq := by
    rcases t.new k ho with h1 | h1
    · exact h.dis k h1 hq
    · have := h.q.foot_lt k hq; omega
  new k hk := by
    have hz := h.ex.size
    rcases hk with hk | hk
    · rcases t.new k hk with h1 | h1
      · exact h.new k (.inl h1)
      · omega
    · exact h.new k (.inr hk)
  ex := h.ex.kp t.kp fun k hk => h.new k (.inl hk)
theorem Two.right {w v v' : World} {bo bq : Nat} {Mo Mq Mq' : Orc} {Fo Fq Fq' : Nat → Prop} (h : Two w v bo bq Mo Mq Fo Fq) (t : OrcTo v bq Fq Mq' v' Fq') : Two w v' bo bq Mo Mq' Fo Fq' where
  o := h.o.kp t.kp fun i ho hq => h.dis i ho hq
  q := t.at'
  dis k ho hq := by
    rcases t.new k hq with h1 | h1
    · exact h.dis k ho h1
    · have := h.o.foot_lt k ho; omega
  new k hk := by
    have hz := h.ex.size
    rcases hk with hk | hk
    · exact h.new k (.inl hk)
    · rcases t.new k hk with h1 | h1
      · exact h.new k (.inr h1)
      · omega
  ex := h.ex.kp t.kp fun k hk => h.new k (.inr hk)
theorem pair_rdu {w : World} {b : Nat} {x y : UInt64} {T : TypeId} (h : w.heap[b]? = some (.cells #[uv x, uv y] T (0, 0))) : RdU w (.slice (some ⟨b, 0, none⟩) 2 2) [x, y] :=
  (RdC.block h (n := 2) (by unfold maxLen; omega)).rdu rfl
/-- .. and beside them a block nb of the call's own, with cells cs. -/
structure TwoB (w v : World) (bo bq : Nat) (Mo Mq : Orc) (Fo Fq : Nat → Prop) (nb : Nat) (cs : Array Value) (T : TypeId) : Prop where
  two : Two w v bo bq Mo Mq Fo Fq
  no : ¬ Fo nb ∧ ¬ Fq nb
  box : v.heap[nb]? = some (.cells cs T (0, 0))
theorem TwoB.start {w v : World} {bo bq : Nat} {Mo Mq : Orc} {Fo Fq : Nat → Prop} (h : Two w v bo bq Mo Mq Fo Fq) (cs : Array Value) (T : TypeId) : TwoB w (v.alloc (.cells cs T)) bo bq Mo Mq Fo Fq v.heap.size cs T where
  two := h.ext ((Ext.refl v).alloc _)
  no := ⟨fun hf => by have := h.o.foot_lt _ hf; omega, fun hf => by have := h.q.foot_lt _ hf; omega⟩
  box := heap_new _ _
theorem TwoB.ext {w v v' : World} {bo bq : Nat} {Mo Mq : Orc} {Fo Fq : Nat → Prop} {nb : Nat} {cs : Array Value} {T : TypeId} (h : TwoB w v bo bq Mo Mq Fo Fq nb cs T) (k : Ext v v') : TwoB w v' bo bq Mo Mq Fo Fq nb cs T :=
  ⟨h.two.ext k, h.no, k.heap_some h.box⟩
theorem TwoB.left {w v v' : World} {bo bq : Nat} {Mo Mq Mo' : Orc} {Fo Fq Fo' : Nat → Prop} {nb : Nat} {cs : Array Value} {T : TypeId} (h : TwoB w v bo bq Mo Mq Fo Fq nb cs T) (t : OrcTo v bo Fo Mo' v' Fo') : TwoB w v' bo bq Mo' Mq Fo' Fq nb cs T :=
  ⟨h.two.left t, ⟨fun hf => by
    rcases t.new _ hf with h1 | h1
    · exact h.no.1 h1
    · have := heap_lt h.box; omega, h.no.2⟩, t.kp.heap_some h.no.1 h.box⟩
theorem TwoB.right {w v v' : World} {bo bq : Nat} {Mo Mq Mq' : Orc} {Fo Fq Fq' : Nat → Prop} {nb : Nat} {cs : Array Value} {T : TypeId} (h : TwoB w v bo bq Mo Mq Fo Fq nb cs T) (t : OrcTo v bq Fq Mq' v' Fq') : TwoB w v' bo bq Mo Mq' Fo Fq' nb cs T :=
  ⟨h.two.right t, ⟨h.no.1, fun hf => by
    rcases t.new _ hf with h1 | h1
    · exact h.no.2 h1
    · have := heap_lt h.box; omega⟩, t.kp.heap_some h.no.2 h.box⟩
end Go.Proofs.Ytdpgfjnpcjpdpaa
