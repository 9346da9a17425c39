/- A statement whose order Go leaves open, with two new blocks that may be laid down at any time beside a chain of calls: each call is walked once. -/
import Derived.Test.YtgfmjfkdogcnhaaGreatRegion
namespace Go.Proofs.YtgfmjfkdogcnhaaGreat
open Go.RowKit
section
variable {P : Program} {ops : Array Oper} {Q : Exit → Act → World → Prop} {S : World → Prop} {n : Nat}
abbrev lst (l : Array Bool) (i1 i2 : Nat) (b1 b2 : Bool) : Array Bool := (l.setIfInBounds i1 b1).setIfInBounds i2 b2
def chkA (ops : Array Oper) (l : Array Bool) (c : Option Nat) (i1 i2 : Nat) : Bool :=
  [false, true].all fun b1 => [false, true].all fun b2 =>
    (c.isNone && b1 && b2) || ((Region.ready .any ops (lst l i1 i2 b1 b2)).all fun j => c == some j || (j == i1 && !b1) || (j == i2 && !b2)) && !(Region.ready .any ops (lst l i1 i2 b1 b2)).isEmpty
theorem chkA_spec {l : Array Bool} {c : Option Nat} {i1 i2 : Nat} (h : chkA ops l c i1 i2 = true) (b1 b2 : Bool) (hb : c.isNone = true → b1 = true → b2 = true → False) :
    Region.ready .any ops (lst l i1 i2 b1 b2) ≠ [] ∧ ∀ j ∈ Region.ready .any ops (lst l i1 i2 b1 b2), c = some j ∨ (j = i1 ∧ b1 = false) ∨ (j = i2 ∧ b2 = false) := by
  unfold chkA at h
  rw [List.all_eq_true] at h
  have h1 := h b1 (by cases b1 <;> simp)
  rw [List.all_eq_true] at h1
  have h2 := h1 b2 (by cases b2 <;> simp)
  rw [Bool.or_eq_true] at h2
  rcases h2 with h2 | h2
  · simp only [Bool.and_eq_true] at h2
    exact absurd (hb h2.1.1 h2.1.2 h2.2) id
  · rw [Bool.and_eq_true, List.all_eq_true] at h2
    refine ⟨fun he => by rw [he] at h2; simp at h2, fun j hj => ?_⟩
    have h3 := h2.1 j hj
    simpa [or_assoc] using h3
abbrev ptr (w : World) : Value := .pointer (some ⟨w.heap.size, 0, none⟩)
structure Allocs (P : Program) (ops : Array Oper) (Q : Exit → Act → World → Prop) (i1 i2 d1 d2 : Nat) (Z1 Z2 : Obj) : Prop where
  a1 : ∃ o, ops[i1]? = some o ∧ (∀ t, Region.wanted o t = true) ∧ ∀ (a : Act) (w : World) (K : Act → World → Prop), K (a.put (some d1) (ptr w)) (w.alloc Z1) → o.wp P a w K Q
  a2 : ∃ o, ops[i2]? = some o ∧ (∀ t, Region.wanted o t = true) ∧ ∀ (a : Act) (w : World) (K : Act → World → Prop), K (a.put (some d2) (ptr w)) (w.alloc Z2) → o.wp P a w K Q
  ne : i1 ≠ i2
  nd : d1 ≠ d2
/-- What holds, whichever of the two blocks have been laid down. -/
abbrev CA := Bool → Bool → Value → Value → World → Prop
structure CA.Grows (S : World → Prop) (Z1 Z2 : Obj) (C : CA) : Prop where
  s : ∀ b1 b2 x y w, C b1 b2 x y w → S w
  g1 : ∀ b2 x y w, C false b2 x y w → C true b2 (ptr w) y (w.alloc Z1)
  g2 : ∀ b1 x y w, C b1 false x y w → C b1 true x (ptr w) (w.alloc Z2)
/-- The rest of the way, whichever of the two blocks have been laid down. -/
def WA (P : Program) (ops : Array Oper) (Q : Exit → Act → World → Prop) (S : World → Prop) (n : Nat) (i1 i2 d1 d2 : Nat) (C : CA) (a0 : Act) (fuel : Nat) (l : Array Bool) : Prop :=
  ∀ (b1 b2 : Bool) (x y : Value) (w : World), C b1 b2 x y w →
    wpAnyN P ops Q S n (fuel + ((if b1 then 0 else 1) + (if b2 then 0 else 1))) (lst l i1 i2 b1 b2) ((a0.put (some d1) x).put (some d2) y) w
theorem put_put (a : Act) (d : Nat) (x y : Value) : (a.put (some d) x).put (some d) y = a.put (some d) y := by
  simp [Act.put]
theorem put_comm (a : Act) {d e : Nat} (h : d ≠ e) (x y : Value) : (a.put (some d) x).put (some e) y = (a.put (some e) y).put (some d) x := by
  simp only [Act.put]
  rw [Array.setIfInBounds_comm _ _ h]
/-- One step: a pending block, or what else is ready. -/
theorem WA_one {i1 i2 d1 d2 : Nat} {Z1 Z2 : Obj} {C : CA} {a0 : Act} {f : Nat} {l : Array Bool} (A : Allocs P ops Q i1 i2 d1 d2 Z1 Z2) (G : CA.Grows S Z1 Z2 C)
    {c : Option Nat} (hk : chkA ops l c i1 i2 = true) (base : ∀ (b1 b2 : Bool) (x y : Value) (w : World), C b1 b2 x y w →
      ∀ j, c = some j → wpOp P ops Q j (fun a' w' => (j < n → S w') ∧ wpAnyN P ops Q S n (f + ((if b1 then 0 else 1) + (if b2 then 0 else 1))) ((lst l i1 i2 b1 b2).setIfInBounds j true) a' w') ((a0.put (some d1) x).put (some d2) y) w)
    (e : Nat) (he : e = if c.isNone then f else f + 1)
    (fin : c.isNone = true → ∀ (x y : Value) (w : World), C true true x y w → wpAnyN P ops Q S n e (lst l i1 i2 true true) ((a0.put (some d1) x).put (some d2) y) w) :
    WA P ops Q S n i1 i2 d1 d2 C a0 e l := by
  obtain ⟨o1, ho1, hw1, hp1⟩ := A.a1
  obtain ⟨o2, ho2, hw2, hp2⟩ := A.a2
  have step : ∀ (b1 b2 : Bool) (x y : Value) (w : World), C b1 b2 x y w → (c.isNone = true → b1 = true → b2 = true → False) →
      (b1 = false → wpAnyN P ops Q S n (e + (0 + (if b2 then 0 else 1))) (lst l i1 i2 true b2) ((a0.put (some d1) (ptr w)).put (some d2) y) (w.alloc Z1)) →
      (b2 = false → wpAnyN P ops Q S n (e + ((if b1 then 0 else 1) + 0)) (lst l i1 i2 b1 true) ((a0.put (some d1) x).put (some d2) (ptr w)) (w.alloc Z2)) →
      wpAnyN P ops Q S n (e + ((if b1 then 0 else 1) + (if b2 then 0 else 1))) (lst l i1 i2 b1 b2) ((a0.put (some d1) x).put (some d2) y) w := by
    intro b1 b2 x y w hC hnn k1 k2
    obtain ⟨hr0, hr⟩ := chkA_spec hk b1 b2 hnn
    obtain ⟨m, hm⟩ : ∃ m, e + ((if b1 then 0 else 1) + (if b2 then 0 else 1)) = m + 1 := by
      cases c with
      | some c => simp at he; exact ⟨f + ((if b1 then 0 else 1) + (if b2 then 0 else 1)), by omega⟩
      | none =>
        have := hnn rfl
        cases b1 <;> cases b2 <;> simp at this ⊢
    rw [hm]
    refine ⟨fun h => absurd h hr0, fun j hj => ?_⟩
    rcases hr j hj with hj1 | ⟨rfl, rfl⟩ | ⟨rfl, rfl⟩
    · have hb := base b1 b2 x y w hC j hj1
      have hm' : m = f + ((if b1 then 0 else 1) + (if b2 then 0 else 1)) := by rw [hj1] at he; simp at he; omega
      rw [hm']
      exact hb
    · unfold wpOp
      simp only [ho1, hw1, if_true]
      refine .inl (hp1 _ _ _ ⟨fun _ => G.s _ _ _ _ _ (G.g1 _ _ _ _ hC), ?_⟩)
      have h1 := k1 rfl
      have hm' : m = e + (0 + (if b2 then 0 else 1)) := by simp at hm; omega
      rw [hm', put_comm _ A.nd.symm, put_put]
      rw [show (lst l j i2 false b2).setIfInBounds j true = lst l j i2 true b2 by
        unfold lst; rw [Array.setIfInBounds_comm _ _ A.ne.symm]; simp]
      exact h1
    · unfold wpOp
      simp only [ho2, hw2, if_true]
      refine .inl (hp2 _ _ _ ⟨fun _ => G.s _ _ _ _ _ (G.g2 _ _ _ _ hC), ?_⟩)
      have h1 := k2 rfl
      have hm' : m = e + ((if b1 then 0 else 1) + 0) := by simp at hm; omega
      rw [hm', put_put]
      rw [show (lst l i1 j b1 false).setIfInBounds j true = lst l i1 j b1 true by
        unfold lst; simp]
      exact h1
  have s11 : ∀ (x y : Value) (w : World), C true true x y w → wpAnyN P ops Q S n (e + (0 + 0)) (lst l i1 i2 true true) ((a0.put (some d1) x).put (some d2) y) w := by
    intro x y w hC
    cases hc : c.isNone with
    | true => exact fin hc x y w hC
    | false =>
      have := step true true x y w hC (fun h => by rw [hc] at h; cases h) (fun h => by cases h) (fun h => by cases h)
      simpa using this
  have s10 : ∀ (x y : Value) (w : World), C true false x y w → wpAnyN P ops Q S n (e + (0 + 1)) (lst l i1 i2 true false) ((a0.put (some d1) x).put (some d2) y) w := by
    intro x y w hC
    have := step true false x y w hC (fun _ _ h => by cases h) (fun h => by cases h) (fun _ => by
      have := s11 x _ (w.alloc Z2) (G.g2 _ _ _ _ hC)
      simpa using this)
    simpa using this
  have s01 : ∀ (x y : Value) (w : World), C false true x y w → wpAnyN P ops Q S n (e + (1 + 0)) (lst l i1 i2 false true) ((a0.put (some d1) x).put (some d2) y) w := by
    intro x y w hC
    have := step false true x y w hC (fun _ h => by cases h) (fun _ => by
      have := s11 _ y (w.alloc Z1) (G.g1 _ _ _ _ hC)
      simpa using this) (fun h => by cases h)
    simpa using this
  intro b1 b2 x y w hC
  cases b1 <;> cases b2
  · have := step false false x y w hC (fun _ h => by cases h) (fun _ => by
      have := s10 _ y (w.alloc Z1) (G.g1 _ _ _ _ hC)
      simpa using this) (fun _ => by
      have := s01 x _ (w.alloc Z2) (G.g2 _ _ _ _ hC)
      simpa using this)
    exact this
  · exact s01 x y w hC
  · exact s10 x y w hC
  · exact s11 x y w hC
theorem WA_call {i1 i2 d1 d2 : Nat} {Z1 Z2 : Obj} {C : CA} {a0 : Act} {f : Nat} {l : Array Bool} (A : Allocs P ops Q i1 i2 d1 d2 Z1 Z2) (G : CA.Grows S Z1 Z2 C)
    {c dc : Nat} {oc : Oper} (C' : Value → CA) (hk : chkA ops l (some c) i1 i2 = true) (hc : ops[c]? = some oc) (hd : oc.dst = some dc) (hw : ∀ t, Region.wanted oc t = true) (hdd : (dc != d1 && dc != d2 && c != i1 && c != i2) = true) (hS' : ∀ v b1 b2 x y w, C' v b1 b2 x y w → S w)
    (step : ∀ (b1 b2 : Bool) (x y : Value) (w : World), C b1 b2 x y w → ∀ K : Act → World → Prop, (∀ v w', C' v b1 b2 x y w' → ∀ a', a' = ((a0.put (some d1) x).put (some d2) y).put oc.dst v → K a' w') → oc.wp P ((a0.put (some d1) x).put (some d2) y) w K Q)
    (next : ∀ v, WA P ops Q S n i1 i2 d1 d2 (C' v) (a0.put (some dc) v) f (l.setIfInBounds c true)) :
    WA P ops Q S n i1 i2 d1 d2 C a0 (f + 1) l := by
  simp only [Bool.and_eq_true, bne_iff_ne, ne_eq] at hdd
  obtain ⟨⟨⟨n1, n2⟩, n3⟩, n4⟩ := hdd
  refine WA_one (c := some c) (f := f) A G hk ?_ (f + 1) rfl (fun h => by cases h)
  intro b1 b2 x y w hC j hj
  obtain rfl := Option.some.inj hj
  unfold wpOp
  simp only [hc, hw, if_true]
  refine .inl (step b1 b2 x y w hC _ fun v w' hC' a' ha' => ⟨fun _ => hS' v _ _ _ _ w' hC', ?_⟩)
  rw [ha', hd, show ((a0.put (some d1) x).put (some d2) y).put (some dc) v = ((a0.put (some dc) v).put (some d1) x).put (some d2) y by
    rw [put_comm _ (Ne.symm n2), put_comm _ (Ne.symm n1)]]
  rw [show (lst l i1 i2 b1 b2).setIfInBounds c true = lst (l.setIfInBounds c true) i1 i2 b1 b2 by
    unfold lst; rw [Array.setIfInBounds_comm _ _ (Ne.symm n4), Array.setIfInBounds_comm _ _ (Ne.symm n3)]]
  exact next v b1 b2 x y w' hC'
theorem WA_take {i1 i2 d1 d2 : Nat} {C : CA} {a0 : Act} {f : Nat} {l : Array Bool} {i di : Nat} {oi : Oper} {v : Value} (hS : ∀ b1 b2 x y w, C b1 b2 x y w → S w) (ho : ops[i]? = some oi) (hd : oi.dst = some di) (hw : ∀ t, Region.wanted oi t = true) (hdd : (di != d1 && di != d2 && i != i1 && i != i2) = true)
    (hk : ([false, true].all fun b1 => [false, true].all fun b2 => okTake ops n (lst l i1 i2 b1 b2) i) = true) (hQ : ∀ c a d v w, Q (.panic c) (Act.put a d v) w → Q (.panic c) a w)
    (hy : ∀ (x y : Value) (w' : World), S w' → (execOp ((a0.put (some d1) x).put (some d2) y).eval oi).run P w' = .ok (.value v) w')
    (h : WA P ops Q S n i1 i2 d1 d2 C (a0.put (some di) v) f (l.setIfInBounds i true)) : WA P ops Q S n i1 i2 d1 d2 C a0 (f + 1) l := by
  simp only [Bool.and_eq_true, bne_iff_ne, ne_eq] at hdd
  obtain ⟨⟨⟨n1, n2⟩, n3⟩, n4⟩ := hdd
  intro b1 b2 x y w hC
  rw [List.all_eq_true] at hk
  have h1 := hk b1 (by cases b1 <;> simp)
  rw [List.all_eq_true] at h1
  have h2 := h1 b2 (by cases b2 <;> simp)
  rw [show f + 1 + ((if b1 then 0 else 1) + (if b2 then 0 else 1)) = (f + ((if b1 then 0 else 1) + (if b2 then 0 else 1))) + 1 by omega]
  refine N_take ho h2 hQ (hw _) (hy x y) (hS _ _ _ _ _ hC) ?_
  rw [hd, show ((a0.put (some d1) x).put (some d2) y).put (some di) v = ((a0.put (some di) v).put (some d1) x).put (some d2) y by
    rw [put_comm _ (Ne.symm n2), put_comm _ (Ne.symm n1)]]
  rw [show (lst l i1 i2 b1 b2).setIfInBounds i true = lst (l.setIfInBounds i true) i1 i2 b1 b2 by
    unfold lst; rw [Array.setIfInBounds_comm _ _ (Ne.symm n4), Array.setIfInBounds_comm _ _ (Ne.symm n3)]]
  exact h b1 b2 x y w hC
theorem WA_last {i1 i2 d1 d2 : Nat} {Z1 Z2 : Obj} {C : CA} {a0 : Act} {f : Nat} {l : Array Bool} (A : Allocs P ops Q i1 i2 d1 d2 Z1 Z2) (G : CA.Grows S Z1 Z2 C) (hk : chkA ops l none i1 i2 = true)
    (fin : ∀ (x y : Value) (w : World), C true true x y w → wpAnyN P ops Q S n f (lst l i1 i2 true true) ((a0.put (some d1) x).put (some d2) y) w) :
    WA P ops Q S n i1 i2 d1 d2 C a0 f l :=
  WA_one (c := none) (f := f) A G hk (fun _ _ _ _ _ _ j hj => by cases hj) f rfl fun _ => fin
theorem WA_pure {i1 i2 d1 d2 : Nat} {C : CA} {a0 : Act} {f : Nat} {l : Array Bool} {φ : Prop} (h : ∀ b1 b2 x y w, C b1 b2 x y w → φ) (k : φ → WA P ops Q S n i1 i2 d1 d2 C a0 f l) : WA P ops Q S n i1 i2 d1 d2 C a0 f l :=
  fun b1 b2 x y w hC => k (h b1 b2 x y w hC) b1 b2 x y w hC
theorem WA_start {i1 i2 d1 d2 : Nat} {C : CA} {a : Act} {f m : Nat} {l : Array Bool} {w : World} (x y : Value) (hC : C false false x y w) (ha : (a.put (some d1) x).put (some d2) y = a) (hl : lst l i1 i2 false false = l) (hf : f + 2 = m) (h : WA P ops Q S n i1 i2 d1 d2 C a f l) :
    wpAnyN P ops Q S n m l a w := by
  have := h false false x y w hC
  rw [ha, hl] at this
  rw [← hf]
  exact this
end
/-! ## the same with one new block -/
section
variable {P : Program} {ops : Array Oper} {Q : Exit → Act → World → Prop} {S : World → Prop} {n : Nat}
def chkB (ops : Array Oper) (l : Array Bool) (c : Option Nat) (i1 : Nat) : Bool :=
  [false, true].all fun b1 =>
    (c.isNone && b1) || ((Region.ready .any ops (l.setIfInBounds i1 b1)).all fun j => c == some j || (j == i1 && !b1)) && !(Region.ready .any ops (l.setIfInBounds i1 b1)).isEmpty
theorem chkB_spec {l : Array Bool} {c : Option Nat} {i1 : Nat} (h : chkB ops l c i1 = true) (b1 : Bool) (hb : c.isNone = true → b1 = true → False) :
    Region.ready .any ops (l.setIfInBounds i1 b1) ≠ [] ∧ ∀ j ∈ Region.ready .any ops (l.setIfInBounds i1 b1), c = some j ∨ (j = i1 ∧ b1 = false) := by
  unfold chkB at h
  rw [List.all_eq_true] at h
  have h2 := h b1 (by cases b1 <;> simp)
  rw [Bool.or_eq_true] at h2
  rcases h2 with h2 | h2
  · simp only [Bool.and_eq_true] at h2
    exact absurd (hb h2.1 h2.2) id
  · rw [Bool.and_eq_true, List.all_eq_true] at h2
    refine ⟨fun he => by rw [he] at h2; simp at h2, fun j hj => ?_⟩
    have h3 := h2.1 j hj
    simpa using h3
structure Alloc1 (P : Program) (ops : Array Oper) (Q : Exit → Act → World → Prop) (i1 d1 : Nat) (Z1 : Obj) : Prop where
  a1 : ∃ o, ops[i1]? = some o ∧ (∀ t, Region.wanted o t = true) ∧ ∀ (a : Act) (w : World) (K : Act → World → Prop), K (a.put (some d1) (ptr w)) (w.alloc Z1) → o.wp P a w K Q
abbrev CB := Bool → Value → World → Prop
structure CB.Grows (S : World → Prop) (Z1 : Obj) (C : CB) : Prop where
  s : ∀ b1 x w, C b1 x w → S w
  g1 : ∀ x w, C false x w → C true (ptr w) (w.alloc Z1)
def WB (P : Program) (ops : Array Oper) (Q : Exit → Act → World → Prop) (S : World → Prop) (n : Nat) (i1 d1 : Nat) (C : CB) (a0 : Act) (fuel : Nat) (l : Array Bool) : Prop :=
  ∀ (b1 : Bool) (x : Value) (w : World), C b1 x w → wpAnyN P ops Q S n (fuel + (if b1 then 0 else 1)) (l.setIfInBounds i1 b1) (a0.put (some d1) x) w
theorem WB_one {i1 d1 : Nat} {Z1 : Obj} {C : CB} {a0 : Act} {f : Nat} {l : Array Bool} (A : Alloc1 P ops Q i1 d1 Z1) (G : CB.Grows S Z1 C)
    {c : Option Nat} (hk : chkB ops l c i1 = true) (base : ∀ (b1 : Bool) (x : Value) (w : World), C b1 x w →
      ∀ j, c = some j → wpOp P ops Q j (fun a' w' => (j < n → S w') ∧ wpAnyN P ops Q S n (f + (if b1 then 0 else 1)) ((l.setIfInBounds i1 b1).setIfInBounds j true) a' w') (a0.put (some d1) x) w)
    (e : Nat) (he : e = if c.isNone then f else f + 1)
    (fin : c.isNone = true → ∀ (x : Value) (w : World), C true x w → wpAnyN P ops Q S n e (l.setIfInBounds i1 true) (a0.put (some d1) x) w) :
    WB P ops Q S n i1 d1 C a0 e l := by
  obtain ⟨o1, ho1, hw1, hp1⟩ := A.a1
  have step : ∀ (b1 : Bool) (x : Value) (w : World), C b1 x w → (c.isNone = true → b1 = true → False) →
      (b1 = false → wpAnyN P ops Q S n (e + 0) (l.setIfInBounds i1 true) (a0.put (some d1) (ptr w)) (w.alloc Z1)) →
      wpAnyN P ops Q S n (e + (if b1 then 0 else 1)) (l.setIfInBounds i1 b1) (a0.put (some d1) x) w := by
    intro b1 x w hC hnn k1
    obtain ⟨hr0, hr⟩ := chkB_spec hk b1 hnn
    obtain ⟨m, hm⟩ : ∃ m, e + (if b1 then 0 else 1) = m + 1 := by
      cases c with
      | some c => simp at he; exact ⟨f + (if b1 then 0 else 1), by omega⟩
      | none =>
        have := hnn rfl
        cases b1 <;> simp at this ⊢
    rw [hm]
    refine ⟨fun h => absurd h hr0, fun j hj => ?_⟩
    rcases hr j hj with hj1 | ⟨rfl, rfl⟩
    · have hb := base b1 x w hC j hj1
      have hm' : m = f + (if b1 then 0 else 1) := by rw [hj1] at he; simp at he; omega
      rw [hm']
      exact hb
    · unfold wpOp
      simp only [ho1, hw1, if_true]
      refine .inl (hp1 _ _ _ ⟨fun _ => G.s _ _ _ (G.g1 _ _ hC), ?_⟩)
      have h1 := k1 rfl
      have hm' : m = e + 0 := by simp at hm; omega
      rw [hm', put_put]
      rw [show (l.setIfInBounds j false).setIfInBounds j true = l.setIfInBounds j true by simp]
      exact h1
  have s1 : ∀ (x : Value) (w : World), C true x w → wpAnyN P ops Q S n (e + 0) (l.setIfInBounds i1 true) (a0.put (some d1) x) w := by
    intro x w hC
    cases hc : c.isNone with
    | true => exact fin hc x w hC
    | false =>
      have := step true x w hC (fun h => by rw [hc] at h; cases h) (fun h => by cases h)
      simpa using this
  intro b1 x w hC
  cases b1
  · have := step false x w hC (fun _ h => by cases h) (fun _ => s1 _ (w.alloc Z1) (G.g1 _ _ hC))
    exact this
  · exact s1 x w hC
theorem WB_call {i1 d1 : Nat} {Z1 : Obj} {C : CB} {a0 : Act} {f : Nat} {l : Array Bool} (A : Alloc1 P ops Q i1 d1 Z1) (G : CB.Grows S Z1 C)
    {c dc : Nat} {oc : Oper} (C' : Value → CB) (hk : chkB ops l (some c) i1 = true) (hc : ops[c]? = some oc) (hd : oc.dst = some dc) (hw : ∀ t, Region.wanted oc t = true) (hdd : (dc != d1 && c != i1) = true) (hS' : ∀ v b1 x w, C' v b1 x w → S w)
    (step : ∀ (b1 : Bool) (x : Value) (w : World), C b1 x w → ∀ K : Act → World → Prop, (∀ v w', C' v b1 x w' → ∀ a', a' = (a0.put (some d1) x).put oc.dst v → K a' w') → oc.wp P (a0.put (some d1) x) w K Q)
    (next : ∀ v, WB P ops Q S n i1 d1 (C' v) (a0.put (some dc) v) f (l.setIfInBounds c true)) :
    WB P ops Q S n i1 d1 C a0 (f + 1) l := by
  simp only [Bool.and_eq_true, bne_iff_ne, ne_eq] at hdd
  obtain ⟨n1, n3⟩ := hdd
  refine WB_one (c := some c) (f := f) A G hk ?_ (f + 1) rfl (fun h => by cases h)
  intro b1 x w hC j hj
  obtain rfl := Option.some.inj hj
  unfold wpOp
  simp only [hc, hw, if_true]
  refine .inl (step b1 x w hC _ fun v w' hC' a' ha' => ⟨fun _ => hS' v _ _ w' hC', ?_⟩)
  rw [ha', hd, put_comm _ (Ne.symm n1)]
  rw [Array.setIfInBounds_comm _ _ (Ne.symm n3)]
  exact next v b1 x w' hC'
theorem WB_take {i1 d1 : Nat} {C : CB} {a0 : Act} {f : Nat} {l : Array Bool} {i di : Nat} {oi : Oper} {v : Value} (hS : ∀ b1 x w, C b1 x w → S w) (ho : ops[i]? = some oi) (hd : oi.dst = some di) (hw : ∀ t, Region.wanted oi t = true) (hdd : (di != d1 && i != i1) = true)
    (hk : ([false, true].all fun b1 => okTake ops n (l.setIfInBounds i1 b1) i) = true) (hQ : ∀ c a d v w, Q (.panic c) (Act.put a d v) w → Q (.panic c) a w)
    (hy : ∀ (x : Value) (w' : World), S w' → (execOp (a0.put (some d1) x).eval oi).run P w' = .ok (.value v) w')
    (h : WB P ops Q S n i1 d1 C (a0.put (some di) v) f (l.setIfInBounds i true)) : WB P ops Q S n i1 d1 C a0 (f + 1) l := by
  simp only [Bool.and_eq_true, bne_iff_ne, ne_eq] at hdd
  obtain ⟨n1, n3⟩ := hdd
  intro b1 x w hC
  rw [List.all_eq_true] at hk
  have h1 := hk b1 (by cases b1 <;> simp)
  rw [show f + 1 + (if b1 then 0 else 1) = (f + (if b1 then 0 else 1)) + 1 by omega]
  refine N_take ho h1 hQ (hw _) (hy x) (hS _ _ _ hC) ?_
  rw [hd, put_comm _ (Ne.symm n1), Array.setIfInBounds_comm _ _ (Ne.symm n3)]
  exact h b1 x w hC
theorem WB_pure {i1 d1 : Nat} {C : CB} {a0 : Act} {f : Nat} {l : Array Bool} {φ : Prop} (h : ∀ b1 x w, C b1 x w → φ) (k : φ → WB P ops Q S n i1 d1 C a0 f l) : WB P ops Q S n i1 d1 C a0 f l :=
  fun b1 x w hC => k (h b1 x w hC) b1 x w hC
theorem WB_last {i1 d1 : Nat} {Z1 : Obj} {C : CB} {a0 : Act} {f : Nat} {l : Array Bool} (A : Alloc1 P ops Q i1 d1 Z1) (G : CB.Grows S Z1 C) (hk : chkB ops l none i1 = true)
    (fin : ∀ (x : Value) (w : World), C true x w → wpAnyN P ops Q S n f (l.setIfInBounds i1 true) (a0.put (some d1) x) w) :
    WB P ops Q S n i1 d1 C a0 f l :=
  WB_one (c := none) (f := f) A G hk (fun _ _ _ _ j hj => by cases hj) f rfl fun _ => fin
theorem WB_start {i1 d1 : Nat} {C : CB} {a : Act} {f m : Nat} {l : Array Bool} {w : World} (x : Value) (hC : C false x w) (ha : a.put (some d1) x = a) (hl : l.setIfInBounds i1 false = l) (hf : f + 1 = m) (h : WB P ops Q S n i1 d1 C a f l) :
    wpAnyN P ops Q S n m l a w := by
  have := h false x w hC
  rw [ha, hl] at this
  rw [← hf]
  exact this
end
/-- x points to a block Z laid down since; F knows nothing of it. -/
def zF (w0 : World) (F : Nat → Prop) (Z : Obj) (x : Value) (w : World) : Prop := ∃ g, x = .pointer (some ⟨g, 0, none⟩) ∧ w0.heap.size ≤ g ∧ ¬ F g ∧ w.heap[g]? = some Z
structure ZZ (w0 : World) (F : Nat → Prop) (Z1 Z2 : Obj) (b1 b2 : Bool) (x y : Value) (w : World) : Prop where
  z1 : b1 = true → zF w0 F Z1 x w
  z2 : b2 = true → zF w0 F Z2 y w
  ne : b1 = true → b2 = true → x ≠ y
theorem zF.kp {w0 w w' : World} {F G : Nat → Prop} {Z : Obj} {x : Value} (h : zF w0 F Z x w) (k : Kp F w w') (hG : ∀ i, i < w.heap.size → ¬ F i → ¬ G i) : zF w0 G Z x w' := by
  obtain ⟨g, h1, h2, h3, h4⟩ := h
  exact ⟨g, h1, h2, hG g (Array.getElem?_eq_some_iff.1 h4).1 h3, k.heap_some h3 h4⟩
theorem ZZ.kp {w0 w w' : World} {F G : Nat → Prop} {Z1 Z2 : Obj} {b1 b2 : Bool} {x y : Value} (h : ZZ w0 F Z1 Z2 b1 b2 x y w) (k : Kp F w w') (hG : ∀ i, i < w.heap.size → ¬ F i → ¬ G i) : ZZ w0 G Z1 Z2 b1 b2 x y w' :=
  ⟨fun hb => (h.z1 hb).kp k hG, fun hb => (h.z2 hb).kp k hG, h.ne⟩
theorem ZZ.ext {w0 w w' : World} {F : Nat → Prop} {Z1 Z2 : Obj} {b1 b2 : Bool} {x y : Value} (h : ZZ w0 F Z1 Z2 b1 b2 x y w) (k : Ext w w') : ZZ w0 F Z1 Z2 b1 b2 x y w' := h.kp (.of_ext k) fun _ _ h => h
theorem zF.new {w0 w : World} {F : Nat → Prop} {Z : Obj} (h : w0.heap.size ≤ w.heap.size) (hF : ∀ k, F k → k < w.heap.size) : zF w0 F Z (ptr w) (w.alloc Z) := ⟨_, rfl, h, fun hf => Nat.lt_irrefl _ (hF _ hf), heap_new _ _⟩
theorem zF.ne {w0 w : World} {F : Nat → Prop} {Z : Obj} {x : Value} (h : zF w0 F Z x w) : x ≠ ptr w := by
  obtain ⟨g, rfl, -, -, h4⟩ := h
  intro he
  injection he with he
  injection he with he
  injection he with he
  subst he
  exact absurd (Array.getElem?_eq_some_iff.1 h4).1 (Nat.lt_irrefl _)
theorem ZZ.g1 {w0 w : World} {F : Nat → Prop} {Z1 Z2 : Obj} {b2 : Bool} {x y : Value} (h : ZZ w0 F Z1 Z2 false b2 x y w) (hs : w0.heap.size ≤ w.heap.size) (hF : ∀ k, F k → k < w.heap.size) : ZZ w0 F Z1 Z2 true b2 (ptr w) y (w.alloc Z1) :=
  ⟨fun _ => zF.new hs hF, fun hb => (h.z2 hb).kp (.of_ext ((Ext.refl w).alloc _)) fun _ _ h => h, fun _ hb => (h.z2 hb).ne.symm⟩
theorem ZZ.g2 {w0 w : World} {F : Nat → Prop} {Z1 Z2 : Obj} {b1 : Bool} {x y : Value} (h : ZZ w0 F Z1 Z2 b1 false x y w) (hs : w0.heap.size ≤ w.heap.size) (hF : ∀ k, F k → k < w.heap.size) : ZZ w0 F Z1 Z2 b1 true x (ptr w) (w.alloc Z2) :=
  ⟨fun hb => (h.z1 hb).kp (.of_ext ((Ext.refl w).alloc _)) fun _ _ h => h, fun _ => zF.new hs hF, fun hb _ => (h.z1 hb).ne⟩
theorem ZZ.none {w0 w : World} {F : Nat → Prop} {Z1 Z2 : Obj} {x y : Value} : ZZ w0 F Z1 Z2 false false x y w := ⟨(fun h => by cases h), (fun h => by cases h), (fun h => by cases h)⟩
/-! ## what the stages keep -/
/-- The world has only grown since w0. -/
def CG (w0 : World) (F : Nat → Prop) (Z1 Z2 : Obj) : CA := fun b1 b2 x y v => Ext w0 v ∧ ZZ w0 F Z1 Z2 b1 b2 x y v
theorem CG.grows {w0 : World} {F : Nat → Prop} {Z1 Z2 : Obj} {S : World → Prop} (hF : ∀ k, F k → k < w0.heap.size) (hS : ∀ v, Kp F w0 v → S v) : CA.Grows S Z1 Z2 (CG w0 F Z1 Z2) where
  s := fun _ _ _ _ _ h => hS _ (Kp.of_ext h.1)
  g1 := fun _ _ _ _ h => ⟨h.1.alloc _, h.2.g1 h.1.size fun k hk => Nat.lt_of_lt_of_le (hF k hk) h.1.size⟩
  g2 := fun _ _ _ _ h => ⟨h.1.alloc _, h.2.g2 h.1.size fun k hk => Nat.lt_of_lt_of_le (hF k hk) h.1.size⟩
/-- And this too, which stays as long as the world only grows. -/
def CL1 (p : World → Prop) (C : CA) : CA := fun b1 b2 x y v => p v ∧ C b1 b2 x y v
theorem CL1.grows {p : World → Prop} {C : CA} {S : World → Prop} {Z1 Z2 : Obj} (G : CA.Grows S Z1 Z2 C) (hp : ∀ v v', p v → Ext v v' → p v') : CA.Grows S Z1 Z2 (CL1 p C) where
  s := fun _ _ _ _ _ h => G.s _ _ _ _ _ h.2
  g1 := fun _ _ _ _ h => ⟨hp _ _ h.1 ((Ext.refl _).alloc _), G.g1 _ _ _ _ h.2⟩
  g2 := fun _ _ _ _ h => ⟨hp _ _ h.1 ((Ext.refl _).alloc _), G.g2 _ _ _ _ h.2⟩
theorem CG.ext {w0 v v' : World} {F : Nat → Prop} {Z1 Z2 : Obj} {b1 b2 : Bool} {x y : Value} (h : CG w0 F Z1 Z2 b1 b2 x y v) (k : Ext v v') : CG w0 F Z1 Z2 b1 b2 x y v' := ⟨h.1.trans k, h.2.ext k⟩
/-- The world has only grown since w0; x points to a block Z laid down since. -/
def CG1 (w0 : World) (F : Nat → Prop) (Z : Obj) : CB := fun b x v => Ext w0 v ∧ (b = true → zF w0 F Z x v)
theorem CG1.grows {w0 : World} {F : Nat → Prop} {Z : Obj} {S : World → Prop} (hF : ∀ k, F k → k < w0.heap.size) (hS : ∀ v, Kp F w0 v → S v) : CB.Grows S Z (CG1 w0 F Z) where
  s := fun _ _ _ h => hS _ (Kp.of_ext h.1)
  g1 := fun _ _ h => ⟨h.1.alloc _, fun _ => zF.new h.1.size fun k hk => Nat.lt_of_lt_of_le (hF k hk) h.1.size⟩
theorem CG1.ext {w0 v v' : World} {F : Nat → Prop} {Z : Obj} {b : Bool} {x : Value} (h : CG1 w0 F Z b x v) (k : Ext v v') : CG1 w0 F Z b x v' := ⟨h.1.trans k, fun hb => (h.2 hb).kp (.of_ext k) fun _ _ h => h⟩
def CLB (p : World → Prop) (C : CB) : CB := fun b x v => p v ∧ C b x v
theorem CLB.grows {p : World → Prop} {C : CB} {S : World → Prop} {Z : Obj} (G : CB.Grows S Z C) (hp : ∀ v v', p v → Ext v v' → p v') : CB.Grows S Z (CLB p C) where
  s := fun _ _ _ h => G.s _ _ _ h.2
  g1 := fun _ _ h => ⟨hp _ _ h.1 ((Ext.refl _).alloc _), G.g1 _ _ h.2⟩
end Go.Proofs.YtgfmjfkdogcnhaaGreat
