/- Slices read weakly (nothing is said of an empty slice's place); lists of lists of numbers in memory. -/
import Derived.Test.YtgfmjfkdogcnhaaGreatAsk
import Derived.Test.YtgfmjfkdogcnhaaGreatTreeLaw
import Derived.Test.YtgfmjfkdogcnhaaGreatSame
set_option linter.unusedSimpArgs false
namespace Go.Proofs.YtgfmjfkdogcnhaaGreat
open Go.RowKit

abbrev RdU' (w : World) (v : Value) (l : List UInt64) : Prop := RdC' w v l.length (us l)
theorem add_spot {w : World} {ad : Addr} {j : Nat} {u : Value} (h6 : w.cell? (ad.add j) = some u) : ad.add j = ⟨ad.block, ad.off + j, none⟩ := by
  have hs : (ad.add j).spot = none := by
    unfold World.cell? at h6
    split at h6
    · split at h6
      · cases h6
      · next h => simpa using h
    · cases h6
  unfold Addr.add at hs ⊢
  split at hs
  · next h0 => subst h0; cases ad; simp_all
  · next h0 => simp [h0]
theorem RdC'.of_blocks {w w' : World} {v : Value} {n : Nat} {cells : List Value} (h : RdC' w v n cells) (hb : ∀ k, blk v = some k → cells ≠ [] → w'.heap[k]? = w.heap[k]?) : RdC' w' v n cells := by
  obtain ⟨a, c, rfl, h2, h3, h4, h5⟩ := h
  refine ⟨a, c, rfl, h2, h3, h4, fun ad ha j u hu => ?_⟩
  subst ha
  have h6 := h5 ad rfl j u hu
  have e6 := add_spot h6
  rw [e6] at h6 ⊢
  rw [World.cell?_of_block (w := w) (a := ⟨ad.block, ad.off + j, none⟩) (hb ad.block rfl (by rintro rfl; simp at hu))]
  exact h6
theorem RdC'.lt {w : World} {v : Value} {n : Nat} {cells : List Value} (h : RdC' w v n cells) {k : Nat} (hk : blk v = some k) (hc : cells ≠ []) : k < w.heap.size := by
  obtain ⟨a, c, rfl, _, _, _, h5⟩ := h
  cases a with
  | none => simp [Value.ownBlock] at hk
  | some ad =>
    simp only [Value.ownBlock, Option.some.injEq] at hk
    subst hk
    cases cells with
    | nil => exact absurd rfl hc
    | cons x r =>
      have h6 := h5 ad rfl 0 x rfl
      rw [add_spot h6] at h6
      exact cell_lt h6
theorem RdC'.ext {w w' : World} {v : Value} {n : Nat} {cells : List Value} (h : RdC' w v n cells) (k : Ext w w') : RdC' w' v n cells :=
  h.of_blocks fun b hb hc => k.block b (h.lt hb hc)
theorem RdC'.kp {F : Nat → Prop} {w w' : World} {v : Value} {n : Nat} {cells : List Value} (h : RdC' w v n cells) (k : Kp F w w') (hF : ∀ b, blk v = some b → b < w.heap.size → ¬ F b) : RdC' w' v n cells :=
  h.of_blocks fun b hb hc => k.block b (h.lt hb hc) (hF b hb (h.lt hb hc))
theorem RdU.weak {w : World} {v : Value} {l : List UInt64} (h : RdU w v l) : RdU' w v l := h.rdc.weak
theorem RdC'.rdu {w : World} {v : Value} {l : List UInt64} (h : RdU' w v l) (hne : l ≠ []) : RdU w v l := by
  obtain ⟨a, c, rfl, h2, h3, h4, h5⟩ := h
  refine ⟨a, c, rfl, h2, h3, h4, fun ad ha => ?_⟩
  subst ha
  have hsp : ad.spot = none := by
    cases l with
    | nil => exact absurd rfl hne
    | cons x r =>
      have h6 := add_spot (h5 ad rfl 0 (uv x) rfl)
      rw [show ad.add 0 = ad by unfold Addr.add; simp] at h6
      rw [h6]
  refine ⟨hsp, fun i x hx => ?_⟩
  have h6 := h5 ad rfl i (uv x) (by simp [us, hx])
  rw [add_spot h6] at h6
  exact h6

theorem RdC'.uat {w : World} {a : Option Addr} {c : Nat} {l : List UInt64} (h : RdU' w (.slice a l.length c) l) {i : Nat} {x : UInt64} (hx : l[i]? = some x) : ∃ b o, a = some ⟨b, o, none⟩ ∧ w.cell? ⟨b, o + i, none⟩ = some (.int .u64 x.toNat) :=
  (h.rdu (by rintro rfl; simp at hx)).at hx
theorem own_empty (v : World) : (v.alloc (.cells #[] 22)).ownsRow 0 22 1 (.slice (some ⟨v.heap.size, 0, none⟩) 0 0) 0 [] := ⟨rfl, .inr ⟨v.heap.size, 0, #[], rfl, Nat.zero_le _, heap_new v _, Nat.le_refl _, Nat.zero_le _, rfl, rfl⟩⟩
/-- What append to an empty slice of one's own leaves. -/
theorem app_new {w0 v w' : World} {g : Nat} {v' : Value} {l : List UInt64} (hx : Ext w0 v) (hg : w0.heap.size ≤ g) (_hgv : g < v.heap.size) (hown : w'.ownsRow 0 22 1 v' (0 + l.length) ([] ++ us l)) (hk : Kp (fun k => some k = some g) v w') (hb : blk v' = some g ∨ blk v' = some v.heap.size) :
    OwnU w' v' l ∧ Ext w0 w' ∧ (∀ k, blk v' = some k → k = g ∨ v.heap.size ≤ k) ∧ ∀ k, blk v' = some k → w0.heap.size ≤ k := by
  refine ⟨by simpa using hown, hx.kp hk (by intro k h; cases h; exact hg), fun k hk' => ?_, fun k hk' => ?_⟩
  · rcases hb with h | h <;> (rw [h] at hk'; cases hk')
    · exact .inl rfl
    · exact .inr (Nat.le_refl _)
  · have := hx.size
    rcases hb with h | h <;> (rw [h] at hk'; cases hk') <;> omega
/-- The slice value v reads as the list of lists ls. -/
def RdL (w : World) (v : Value) (ls : Lv) : Prop :=
  ∃ vs : List Value, vs.length = ls.length ∧ RdC w v ls.length vs ∧ ∀ (i : Nat) (x : Value) (l : List UInt64), vs[i]? = some x → ls[i]? = some l → RdU' w x l
theorem RdL.ext {w w' : World} {v : Value} {ls : Lv} (h : RdL w v ls) (k : Ext w w') : RdL w' v ls := by
  obtain ⟨vs, h1, h2, h3⟩ := h
  exact ⟨vs, h1, h2.ext k, fun i x l hx hl => (h3 i x l hx hl).ext k⟩
theorem RdL.kp {F : Nat → Prop} {w w' : World} {v : Value} {ls : Lv} (h : RdL w v ls) (k : Kp F w w') (hF : ∀ i, i < w.heap.size → ¬ F i) : RdL w' v ls :=
  h.ext ⟨k.os, k.tape, k.output, k.size, fun i hi => k.block i hi (hF i hi)⟩
theorem RdL.shape {w : World} {v : Value} {ls : Lv} (h : RdL w v ls) : ∃ a c, v = .slice a ls.length c ∧ ls.length ≤ c ∧ c ≤ maxLen ∧ (a = none → c = 0) := by
  obtain ⟨vs, h1, ⟨a, c, h2, h3, h4, h5, _⟩, _⟩ := h
  exact ⟨a, c, h2, h3, h4, h5⟩
theorem RdL.at {w : World} {a : Option Addr} {n c : Nat} {ls : Lv} (h : RdL w (.slice a n c) ls) {i : Nat} {l : List UInt64} (hl : ls[i]? = some l) :
    ∃ b o x d, a = some ⟨b, o, none⟩ ∧ w.cell? ⟨b, o + i, none⟩ = some (.slice x l.length d) ∧ RdU' w (.slice x l.length d) l ∧ l.length ≤ d ∧ d ≤ maxLen := by
  obtain ⟨vs, h1, ⟨a', c', he, h3, h4, h5, h6⟩, h7⟩ := h
  injection he with e1 e2 e3
  subst e1 e3
  have hi : i < ls.length := (List.getElem?_eq_some_iff.1 hl).1
  have hv : vs[i]? = some vs[i] := List.getElem?_eq_getElem (by omega)
  cases a with
  | none => have := h5 rfl; omega
  | some ad =>
    obtain ⟨g1, g2⟩ := h6 ad rfl
    have g3 := g2 i _ hv
    have g4 := h7 i _ l hv hl
    obtain ⟨x, d, hx, g5, g6, _⟩ := id g4
    rw [hx] at g3 g4
    refine ⟨ad.block, ad.off, x, d, ?_, g3, g4, g5, g6⟩
    cases ad; simp only at g1; subst g1; rfl
/-- A list of lists of the call's own. -/
def OwnL (w : World) (v : Value) (L : List (List UInt64 × Value)) : Prop :=
  w.ownsRow 0 26 1 v L.length (L.map (·.2)) ∧ ∀ x ∈ L, OwnU w x.2 x.1
theorem OwnL.rdl {w : World} {v : Value} {L : List (List UInt64 × Value)} (h : OwnL w v L) : RdL w v (L.map (·.1)) := by
  refine ⟨L.map (·.2), by simp, by simpa using ownsRow_rd h.1, fun i x l hx hl => ?_⟩
  rw [List.getElem?_map, Option.map_eq_some_iff] at hx hl
  obtain ⟨y, hy, rfl⟩ := hx
  obtain ⟨z, hz, rfl⟩ := hl
  rw [hy] at hz
  cases hz
  exact (h.2 y (List.mem_of_getElem? hy)).rdu.weak
theorem OwnL.ext {w w' : World} {v : Value} {L : List (List UInt64 × Value)} (h : OwnL w v L) (k : Ext w w') : OwnL w' v L :=
  ⟨ownsRow_ext h.1 k, fun x hx => ownsRow_ext (h.2 x hx) k⟩

/-! ## beside the blocks of F -/
structure Beside (w : World) (F : Nat → Prop) (v : Value) (l : List UInt64) : Prop where
  own : OwnU w v l
  no : ∀ k, blk v = some k → ¬ F k
theorem Beside.ext {w w' : World} {F : Nat → Prop} {v : Value} {l : List UInt64} (h : Beside w F v l) (k : Ext w w') : Beside w' F v l := ⟨ownsRow_ext h.own k, h.no⟩
theorem Beside.to {w w' : World} {b : Nat} {M : Orc} {F F' : Nat → Prop} {v : Value} {l : List UInt64} (h : Beside w F v l) (t : OrcTo w b F M w' F') : Beside w' F' v l :=
  ⟨ownsRow_kp h.own t.kp h.no, fun k hk hf => by
    rcases t.new k hf with h1 | h1
    · exact h.no k hk h1
    · have := ownsRow_lt h.own hk; omega⟩
theorem Beside.fresh {w w' : World} {b : Nat} {M : Orc} {F : Nat → Prop} {v : Value} {l : List UInt64} (h : OrcAt w b M F) (ho : OwnU w' v l) (hn : ∀ k, blk v = some k → w.heap.size ≤ k) : Beside w' F v l :=
  ⟨ho, fun k hk hf => by have := hn k hk; have := h.foot_lt k hf; omega⟩
/-- A list of lists beside the blocks of F, all of it new since w0. -/
structure BesideL (w0 w : World) (F : Nat → Prop) (v : Value) (L : List (List UInt64 × Value)) : Prop where
  own : OwnL w v L
  no : ∀ k, blk v = some k → ¬ F k ∧ w0.heap.size ≤ k
  nos : ∀ x ∈ L, ∀ k, blk x.2 = some k → ¬ F k ∧ w0.heap.size ≤ k
theorem BesideL.ext {w0 w w' : World} {F : Nat → Prop} {v : Value} {L : List (List UInt64 × Value)} (h : BesideL w0 w F v L) (k : Ext w w') : BesideL w0 w' F v L := ⟨h.own.ext k, h.no, h.nos⟩
theorem BesideL.to {w0 w w' : World} {b : Nat} {M : Orc} {F F' : Nat → Prop} {v : Value} {L : List (List UInt64 × Value)} (h : BesideL w0 w F v L) (t : OrcTo w b F M w' F') : BesideL w0 w' F' v L where
  own := ⟨ownsRow_kp h.own.1 t.kp fun k hk => (h.no k hk).1, fun x hx => ownsRow_kp (h.own.2 x hx) t.kp fun k hk => (h.nos x hx k hk).1⟩
  no k hk := ⟨fun hf => by
    rcases t.new k hf with h1 | h1
    · exact (h.no k hk).1 h1
    · have := ownsRow_lt h.own.1 hk; omega, (h.no k hk).2⟩
  nos x hx k hk := ⟨fun hf => by
    rcases t.new k hf with h1 | h1
    · exact (h.nos x hx k hk).1 h1
    · have := ownsRow_lt (h.own.2 x hx) hk; omega, (h.nos x hx k hk).2⟩
theorem BesideL.old {w0 w1 w : World} {F : Nat → Prop} {v : Value} {L : List (List UInt64 × Value)} (h : BesideL w1 w F v L) (k : Ext w0 w1) : BesideL w0 w F v L :=
  ⟨h.own, fun i hi => ⟨(h.no i hi).1, Nat.le_trans k.size (h.no i hi).2⟩, fun x hx i hi => ⟨(h.nos x hx i hi).1, Nat.le_trans k.size (h.nos x hx i hi).2⟩⟩
end Go.Proofs.YtgfmjfkdogcnhaaGreat
