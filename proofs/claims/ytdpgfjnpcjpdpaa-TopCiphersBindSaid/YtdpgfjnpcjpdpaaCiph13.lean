/- Plain: what a transcript that absorbed a cipher tells of the plain elements. -/
import Derived.Test.YtdpgfjnpcjpdpaaBindLaw13
import Derived.Test.YtdpgfjnpcjpdpaaSealRO
namespace Go.Proofs.Ytdpgfjnpcjpdpaa
open Go.RowKit
attribute [local irreducible] perm fAdd fMul fPow fSub fNeg fRed hashU drawOf nextState
theorem cipSeal_facts {k n : UInt64} {l : List UInt64} (_h : cipE k n l = true) : allE (cipSeal k n l) = true ∧ (cipSeal k n l).length = l.length + 1 := by
  have ht : (encL l.length 0 (cipStart k n l.length) l).1.a < big := encL_a _ l 0 _ (by simp) (.inl (permC_lt _).1)
  have ha := encL_all l.length l 0 (cipStart k n l.length)
  unfold cipSeal
  constructor
  · unfold allE at ha ⊢
    simp [ha, ht]
  · simp [encL_length]
theorem cipSeal_inj {k n : UInt64} {a b : List UInt64} (ha : cipE k n a = true) (hb : cipE k n b = true) (h : cipSeal k n a = cipSeal k n b) : a = b := by
  have h1 := (cipSeal_facts ha).2
  have h2 := (cipSeal_facts hb).2
  have hl : a.length = b.length := by rw [h] at h1; omega
  have e : (encL a.length 0 (cipStart k n a.length) a).2 = (encL b.length 0 (cipStart k n b.length) b).2 := by
    have := congrArg List.dropLast h
    unfold cipSeal at this
    simpa using this
  simp only [cipE, Bool.and_eq_true] at ha hb
  have d1 := cipDec_seal k n a ha.2
  have d2 := cipDec_seal k n b hb.2
  rw [e, d2] at d1
  exact (congrArg Prod.fst d1).symm
theorem hash_fst {M N : Orc} (h1 : M.qs = N.qs) (h2 : M.ideal = N.ideal) (h3 : M.state = N.state) (a : UInt64) (l : List UInt64) : (M.hash a l).1 = (N.hash a l).1 := by
  unfold Orc.hash
  rw [h1, h2, h3]
  split
  · split
    · rfl
    · split <;> rfl
  · rfl
structure C13 (a b : List UInt64) (h1 h2 : UInt64 × Orc) : Prop where
  same : a = b → h1.1 = h2.1
  inj : (∀ k, k < h2.2.qs.length → noColl h2.2.qs k) → h1.1 = h2.1 → a = b
  few1 : h1.2.qs.length ≤ 1 ∧ h1.2.draws ≤ 1
  few2 : h2.2.qs.length ≤ 2
  real : h1.2.ideal = false
  sml : ∀ q ∈ h2.2.qs, q.elems.length ≤ 30
theorem sml30 {M : Orc} (h : ∀ q ∈ M.qs, q.elems.length ≤ 30) (a : UInt64) {l : List UInt64} (hl : l.length ≤ 30) : ∀ q ∈ (M.hash a l).2.qs, q.elems.length ≤ 30 := by
  rcases hash_cases M a l with ⟨h1, -⟩ | ⟨-, i, -, h1⟩ | ⟨-, hn, x, M1, h1, hq, -⟩
  · rw [h1]; exact h
  · rw [h1]; exact h
  · rw [h1]
    intro q hq'
    rw [show (x, M1).2.qs = M1.qs from rfl, hq] at hq'
    rcases List.mem_append.1 hq' with h2 | h2
    · exact h q h2
    · rw [List.mem_singleton] at h2; subst h2; exact hl
theorem ciph13 {key : UInt64} {a b : List UInt64} {h1 h2 : UInt64 × Orc} (ha : cipE key 0 a = true) (hb : cipE key 0 b = true) (hl : a.length ≤ 20) (hlb : b.length ≤ 20)
    (e1 : h1 = (Orc.fresh false 0).hash 18 (1 :: 1 :: cipSeal key 0 a)) (e2 : h2 = h1.2.hash 18 (1 :: 1 :: cipSeal key 0 b)) : C13 a b h1 h2 := by
  have m0 : RealM (Orc.fresh false 0) := ⟨rfl, fun q hq => by cases hq⟩
  obtain ⟨m1, v1⟩ := m0.hash 18 (1 :: 1 :: cipSeal key 0 a)
  rw [← e1] at m1 v1
  obtain ⟨m2, v2⟩ := m1.hash 18 (1 :: 1 :: cipSeal key 0 b)
  rw [← e2] at m2 v2
  obtain ⟨fa, la⟩ := cipSeal_facts ha
  obtain ⟨fb, lb⟩ := cipSeal_facts hb
  have aE : ∀ l : List UInt64, allE l = true → allE (1 :: 1 :: l) = true := fun l h => by
    have h0 : (1 : UInt64) < big := by decide
    unfold allE at h ⊢
    simp [h, h0]
  have kA : Knows h2.2 18 (1 :: 1 :: cipSeal key 0 a) h1.1 := by rw [e2]; exact Knows.hash (by rw [e1]; exact hash_knows _ (aE _ fa)) _ _
  have kB : Knows h2.2 18 (1 :: 1 :: cipSeal key 0 b) h2.1 := by rw [e2]; exact hash_knows _ (aE _ fb)
  have q1 := hash_qs_le (Orc.fresh false 0) 18 (1 :: 1 :: cipSeal key 0 a)
  have r1 := hash_draws_le (Orc.fresh false 0) 18 (1 :: 1 :: cipSeal key 0 a)
  rw [← e1] at q1 r1
  have q2 := hash_qs_le h1.2 18 (1 :: 1 :: cipSeal key 0 b)
  rw [← e2] at q2
  have q0 : (Orc.fresh false 0).qs.length = 0 := rfl
  have r0 : (Orc.fresh false 0).draws = 0 := rfl
  have s1 : ∀ q ∈ h1.2.qs, q.elems.length ≤ 30 := by rw [e1]; exact sml30 (fun q hq => by cases hq) _ (by simp [la]; omega)
  refine ⟨fun h => by rw [v1, v2, h], fun hno hh => ?_, ⟨by omega, by omega⟩, by omega, m1.1, by rw [e2]; exact sml30 s1 _ (by simp [lb]; omega)⟩
  rw [hh] at kA
  obtain ⟨-, h3⟩ := knows_inj hno kA kB
  simp only [List.cons.injEq, true_and] at h3
  exact cipSeal_inj ha hb h3
structure I13 (key : UInt64) (a : List UInt64) (r : List UInt64 × Orc) : Prop where
  ideal : r.2.ideal = true
  len : r.1.length = a.length + 1
  qs : r.2.qs.length ≤ 1
  draws : r.2.draws ≤ 100
theorem ideal13_of {MS : Orc} {key : UInt64} {a b sl : List UInt64} {x y : List UInt64 × Orc} (f1 : MS.ideal = true) (f2 : MS.qs = []) (f3 : MS.draws ≤ 100) (f4 : sl.length = a.length + 1) (hl : a.length = b.length)
    (hx : x = (sl, MS.addSeal ⟨key, 0, sl, a⟩)) (hy : y = (sl, MS.addSeal ⟨key, 0, sl, b⟩)) : I13 key a x ∧ I13 key b y ∧ (x.2.hash 18 (1 :: 1 :: x.1)).1 = (y.2.hash 18 (1 :: 1 :: y.1)).1 := by
  subst hx hy
  have i2 : ∀ s, (MS.addSeal s).qs.length ≤ 1 := fun s => by
    have h : (MS.addSeal s).qs = [] := f2
    rw [h]; exact Nat.zero_le _
  exact ⟨⟨f1, f4, i2 _, f3⟩, ⟨f1, by rw [← hl]; exact f4, i2 _, f3⟩, hash_fst (M := MS.addSeal ⟨key, 0, sl, a⟩) (N := MS.addSeal ⟨key, 0, sl, b⟩) rfl rfl rfl _ _⟩
theorem fresh_seals (key : UInt64) : (Orc.fresh true key).seals = [] := rfl
theorem findS_nil (key n : UInt64) (l : List UInt64) : (findS [] key n l).isSome = false := rfl
theorem ideal13 {key : UInt64} {a b : List UInt64} (ha : cipE key 0 a = true) (hb : cipE key 0 b = true) (hl : a.length = b.length) (hl20 : a.length ≤ 20) :
    I13 key a ((Orc.fresh true key).sealI key 0 a) ∧ I13 key b ((Orc.fresh true key).sealI key 0 b) ∧
      (((Orc.fresh true key).sealI key 0 a).2.hash 18 (1 :: 1 :: ((Orc.fresh true key).sealI key 0 a).1)).1 = (((Orc.fresh true key).sealI key 0 b).2.hash 18 (1 :: 1 :: ((Orc.fresh true key).sealI key 0 b).1)).1 := by
  have s1 := sealI_new (M := Orc.fresh true key) (key := key) (nonce := 0) (plain := a) ha (by rw [fresh_seals]; exact findS_nil _ _ _)
  have s2 := sealI_new (M := Orc.fresh true key) (key := key) (nonce := 0) (plain := b) hb (by rw [fresh_seals]; exact findS_nil _ _ _)
  rw [← hl] at s2
  have f3 : ((Orc.fresh true key).steps (a.length + 1)).draws ≤ 100 := by
    rw [steps_draws]
    have : (Orc.fresh true key).draws = 0 := rfl
    omega
  exact ideal13_of (by rw [steps_ideal]; rfl) (by rw [steps_qs]; rfl) f3 (takeL_length _ _) hl s1 s2
end Go.Proofs.Ytdpgfjnpcjpdpaa
