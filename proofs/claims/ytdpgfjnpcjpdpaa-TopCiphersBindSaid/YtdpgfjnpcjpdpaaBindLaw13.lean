/- Plain: two commitments with one root are those of the same lists, or two questions have the same answer. Plain: what a transcript that absorbed the root of a commitment tells of its lists. -/
import Derived.Test.YtdpgfjnpcjpdpaaMOpens
import Derived.Test.YtdpgfjnpcjpdpaaColl
import Derived.Test.YtdpgfjnpcjpdpaaList13
namespace Go.Proofs.Ytdpgfjnpcjpdpaa
open Go.RowKit
attribute [local irreducible] perm fAdd fMul fPow fSub fNeg fRed hashU drawOf nextState

theorem Good.climb' : ∀ (k : Nat) (M : Orc) (level : List UInt64), Good M → Good (M.climb k level).2
  | 0, M, level, h => by rw [Orc.climb]; exact h
  | k + 1, M, level, h => by
    by_cases h1 : level.length ≤ 1
    · rw [climb_stop M (k + 1) level h1]; exact h
    · rw [climb_go M k level h1]
      exact Good.climb' k _ _ (Good.asks _ h)
theorem Good.commit' {M : Orc} (h : Good M) (leaves : Lv) (salts : List UInt64) : Good (M.commitT leaves salts).2 := by
  unfold Orc.commitT
  split
  · exact Good.climb' _ _ _ (Good.asks _ h)
  · exact h
/-! ## what a real oracle answers does not depend on what was asked -/
def RealM (M : Orc) : Prop := M.ideal = false ∧ ∀ q ∈ M.qs, q.answer = hashU q.label q.elems
def hashL (l : List (UInt64 × List UInt64)) : List UInt64 := l.map fun q => if allE q.2 then hashU q.1 q.2 else 0
theorem findQ_at {qs : List Qn} {a : UInt64} {l : List UInt64} {i : Nat} (h : findQ qs a l = some i) : ∃ q, qs[i]? = some q ∧ q.label = a ∧ q.elems = l ∧ answerAt qs i = q.answer := by
  have hi := findQ_lt h
  unfold findQ at h
  obtain ⟨h1, h2, -⟩ := List.findIdx?_eq_some_iff_getElem.1 h
  simp only [Bool.and_eq_true, beq_iff_eq] at h2
  refine ⟨qs[i], List.getElem?_eq_getElem hi, h2.1, h2.2, ?_⟩
  unfold answerAt
  rw [List.getElem?_eq_getElem hi]
  rfl
theorem RealM.hash {M : Orc} (h : RealM M) (a : UInt64) (l : List UInt64) : RealM (M.hash a l).2 ∧ (M.hash a l).1 = (if allE l then hashU a l else 0) := by
  rcases hash_cases M a l with ⟨h1, hE⟩ | ⟨hE, i, hi, h1⟩ | ⟨hE, hn, x, M1, h1, hq, hid, -, hr, -⟩
  · rw [h1, hE]; exact ⟨h, rfl⟩
  · rw [h1, hE]
    obtain ⟨q, hq, hl, he, ha⟩ := findQ_at hi
    exact ⟨h, by show answerAt M.qs i = _; rw [ha, h.2 q (List.mem_of_getElem? hq), hl, he]; rfl⟩
  · rw [h1, hE]
    refine ⟨⟨hid.trans h.1, fun q hq' => ?_⟩, (hr h.1).1⟩
    rw [show (x, M1).2.qs = M1.qs from rfl, hq] at hq'
    rcases List.mem_append.1 hq' with h2 | h2
    · exact h.2 q h2
    · rw [List.mem_singleton] at h2; subst h2; exact (hr h.1).1
theorem RealM.asks : ∀ (l : List (UInt64 × List UInt64)) {M : Orc}, RealM M → RealM (M.asks l).2 ∧ (M.asks l).1 = hashL l
  | [], M, h => ⟨h, rfl⟩
  | q :: r, M, h => by
    rw [asks_cons]
    obtain ⟨h1, h2⟩ := h.hash q.1 q.2
    obtain ⟨h3, h4⟩ := RealM.asks r h1
    exact ⟨h3, by simp only [h2, h4, hashL, List.map_cons]⟩
theorem RealM.climb : ∀ (k : Nat) {M M' : Orc} (level : List UInt64), RealM M → RealM M' → RealM (M.climb k level).2 ∧ (M.climb k level).1 = (M'.climb k level).1
  | 0, M, M', level, h, _ => by rw [Orc.climb, Orc.climb]; exact ⟨h, rfl⟩
  | k + 1, M, M', level, h, h' => by
    by_cases h1 : level.length ≤ 1
    · rw [climb_stop M (k + 1) level h1, climb_stop M' (k + 1) level h1]; exact ⟨h, rfl⟩
    · rw [climb_go M k level h1, climb_go M' k level h1]
      obtain ⟨h2, h3⟩ := RealM.asks (branchQ level) h
      obtain ⟨h4, h5⟩ := RealM.asks (branchQ level) h'
      obtain ⟨h6, h7⟩ := RealM.climb k (M.asks (branchQ level)).1 h2 h4
      exact ⟨h6, by simp only; rw [h7, h3, h5]⟩
theorem RealM.commit {M M' : Orc} (h : RealM M) (h' : RealM M') (leaves : Lv) (salts : List UInt64) : RealM (M.commitT leaves salts).2 ∧ (M.commitT leaves salts).1 = (M'.commitT leaves salts).1 := by
  unfold Orc.commitT
  split
  · unfold Orc.tree
    obtain ⟨h2, h3⟩ := RealM.asks (leafQ leaves salts) h
    obtain ⟨h4, h5⟩ := RealM.asks (leafQ leaves salts) h'
    rw [h5, ← h3]
    exact RealM.climb 10 _ h2 h4
  · exact ⟨h, rfl⟩

/-! ## recorded questions are pairwise different -/
def Diff (qs : List Qn) : Prop := ∀ (i j : Nat) (a b : Qn), i < j → qs[i]? = some a → qs[j]? = some b → ¬ (a.label = b.label ∧ a.elems = b.elems)
theorem findQ_none_ne {qs : List Qn} {a : UInt64} {l : List UInt64} (h : findQ qs a l = none) {q : Qn} (hq : q ∈ qs) : ¬ (q.label = a ∧ q.elems = l) := by
  unfold findQ at h
  rw [List.findIdx?_eq_none_iff] at h
  have := h q hq
  intro hh
  simp [hh.1, hh.2] at this
theorem Diff.hash {M : Orc} (h : Diff M.qs) (a : UInt64) (l : List UInt64) : Diff (M.hash a l).2.qs := by
  rcases hash_cases M a l with ⟨h1, -⟩ | ⟨-, i, -, h1⟩ | ⟨-, hn, x, M1, h1, hq, -⟩
  · rw [h1]; exact h
  · rw [h1]; exact h
  · rw [h1]
    show Diff M1.qs
    rw [hq]
    intro i j u v hij hu hv
    have hj : j < (M.qs ++ [(⟨a, l, x⟩ : Qn)]).length := (List.getElem?_eq_some_iff.1 hv).1
    simp at hj
    rcases Nat.lt_or_ge j M.qs.length with h2 | h2
    · rw [List.getElem?_append_left h2] at hv
      rw [List.getElem?_append_left (by omega)] at hu
      exact h i j u v hij hu hv
    · have hj' : j = M.qs.length := by omega
      subst hj'
      rw [List.getElem?_append_right (Nat.le_refl _)] at hv
      simp at hv
      subst hv
      rw [List.getElem?_append_left hij] at hu
      exact findQ_none_ne hn (List.mem_of_getElem? hu)
theorem Diff.asks : ∀ (l : List (UInt64 × List UInt64)) {M : Orc}, Diff M.qs → Diff (M.asks l).2.qs
  | [], M, h => h
  | q :: r, M, h => by rw [asks_cons]; exact Diff.asks r (h.hash q.1 q.2)
theorem Diff.climb : ∀ (k : Nat) (M : Orc) (level : List UInt64), Diff M.qs → Diff (M.climb k level).2.qs
  | 0, M, level, h => by rw [Orc.climb]; exact h
  | k + 1, M, level, h => by
    by_cases h1 : level.length ≤ 1
    · rw [climb_stop M (k + 1) level h1]; exact h
    · rw [climb_go M k level h1]
      exact Diff.climb k _ _ (Diff.asks _ h)
theorem Diff.commit {M : Orc} (h : Diff M.qs) (leaves : Lv) (salts : List UInt64) : Diff (M.commitT leaves salts).2.qs := by
  unfold Orc.commitT
  split
  · exact Diff.climb _ _ _ (Diff.asks _ h)
  · exact h

/-! ## without a collision, the root determines the lists -/
theorem knows_inj {M : Orc} (h : ∀ k, k < M.qs.length → noColl M.qs k) {a b : UInt64} {l m : List UInt64} {x : UInt64} (h1 : Knows M a l x) (h2 : Knows M b m x) : a = b ∧ l = m := by
  obtain ⟨-, i, hi, hx⟩ := h1
  obtain ⟨-, j, hj, hy⟩ := h2
  obtain ⟨p, hp, p1, p2, p3⟩ := findQ_at hi
  obtain ⟨q, hq, q1, q2, q3⟩ := findQ_at hj
  have hpq : p.answer = q.answer := by rw [← p3, ← q3, hx, hy]
  have hi' := findQ_lt hi
  have hj' := findQ_lt hj
  have hij : i = j := by
    rcases Nat.lt_trichotomy i j with h3 | h3 | h3
    · exact absurd hpq (h j hj' i h3 p q hp hq)
    · exact h3
    · exact absurd hpq.symm (h i hi' j h3 q p hq hp)
  subst hij
  rw [hp] at hq
  cases hq
  exact ⟨p1.symm.trans q1, p2.symm.trans q2⟩
theorem commit_tree {M : Orc} (hg : Good M) {leaves : Lv} {salts : List UInt64} (hok : commitOk leaves salts = true) :
    TreeOk (M.commitT leaves salts).2 (M.commitT leaves salts).1 ∧ formed (M.commitT leaves salts).1 = true ∧ lnAt (M.commitT leaves salts).1 0 = leaves.length ∧ (∀ a l x, Knows M a l x → Knows (M.commitT leaves salts).2 a l x) ∧
      ∀ (i : Nat) (l : List UInt64) (s : UInt64), leaves[i]? = some l → salts[i]? = some s → Knows (M.commitT leaves salts).2 16 (s :: l) (at2 (M.commitT leaves salts).1 0 i) := by
  have hok' := hok
  unfold commitOk at hok'
  simp only [Bool.and_eq_true, beq_iff_eq, List.all_eq_true] at hok'
  obtain ⟨hn, hlen, hsa, hla⟩ := hok'
  have hla' : ∀ (i : Nat) (l : List UInt64), leaves[i]? = some l → allE l = true := fun i l hl => hla l (List.mem_of_getElem? hl)
  have hA : (M.asks (leafQ leaves salts)).1.length = leaves.length := by rw [asks_length, leafQ_length hlen]
  have hC : M.commitT leaves salts = M.tree leaves salts := by unfold Orc.commitT; rw [hok]; rfl
  rw [hC]
  unfold Orc.tree
  have hk := fun (i : Nat) (l : List UInt64) (s : UInt64) (h1 : leaves[i]? = some l) (h2 : salts[i]? = some s) => leaf_knows M hsa hla' h1 h2
  have hmono := fun (a : UInt64) (l : List UInt64) (x : UInt64) (h : Knows M a l x) => Knows.asks (leafQ leaves salts) h
  obtain ⟨hT, hk2, ⟨r, hr⟩, hf⟩ := climb_ok 10 (M.asks (leafQ leaves salts)).2 (M.asks (leafQ leaves salts)).1 (Good.asks _ hg) (asks_lt _ hg) (by rw [hA]; exact hn) (by rw [hA]; exact (isNum_pos hn).2)
  refine ⟨hT, hf, by rw [hr]; exact hA, fun a l x h => hk2 _ _ _ (hmono a l x h), fun i l s h1 h2 => ?_⟩
  obtain ⟨x, hx, hkx⟩ := hk i l s h1 h2
  have e : at2 ((M.asks (leafQ leaves salts)).2.climb 10 (M.asks (leafQ leaves salts)).1).1 0 i = x := by
    rw [hr]; exact at2_of (ls := (M.asks (leafQ leaves salts)).1 :: r) (k := 0) rfl hx
  rw [e]
  exact hk2 _ _ _ hkx
theorem tree_eq {M : Orc} (h : ∀ k, k < M.qs.length → noColl M.qs k) {A B : Lv} (hA : ∀ j i, j + 1 < A.length → i < lnAt A (j + 1) → Knows M 17 [at2 A j (2 * i), at2 A j (2 * i + 1)] (at2 A (j + 1) i))
    (hB : ∀ j i, j + 1 < B.length → i < lnAt B (j + 1) → Knows M 17 [at2 B j (2 * i), at2 B j (2 * i + 1)] (at2 B (j + 1) i)) (fA : formed A = true) (fB : formed B = true) (h0 : lnAt A 0 = lnAt B 0) (hr : rootL A = rootL B) :
    ∀ i, i < lnAt A 0 → at2 A 0 i = at2 B 0 i := by
  have nA := List.length_pos_iff.2 (formed_ne fA)
  have nB := List.length_pos_iff.2 (formed_ne fB)
  have pA := formed_pow fA (A.length - 1) (by omega)
  have pB := formed_pow fB (B.length - 1) (by omega)
  rw [formed_last fA] at pA
  rw [formed_last fB] at pB
  have hl : A.length = B.length := by
    have h1 : (2 : Nat) ^ (A.length - 1) = 2 ^ (B.length - 1) := by omega
    have h2 := (Nat.pow_right_inj (by decide : 1 < 2)).1 h1
    omega
  have rA : rootL A = at2 A (A.length - 1) 0 := by unfold rootL; rw [fA]; rfl
  have rB : rootL B = at2 B (B.length - 1) 0 := by unfold rootL; rw [fB]; rfl
  have hln : ∀ j, j < A.length → lnAt A j = lnAt B j := fun j hj => by
    have h1 := formed_pow fA j hj
    have h2 := formed_pow fB j (by omega)
    rw [h0, h2] at h1
    exact (Nat.eq_of_mul_eq_mul_right (Nat.pow_pos (by decide)) h1).symm
  have key : ∀ d k, k + d = A.length - 1 → ∀ i, i < lnAt A k → at2 A k i = at2 B k i := by
    intro d
    induction d with
    | zero =>
      intro k hk i hi
      obtain rfl : k = A.length - 1 := by omega
      rw [formed_last fA] at hi
      obtain rfl : i = 0 := by omega
      rw [← rA, hr, rB, hl]
    | succ d ih =>
      intro k hk i hi
      have hc := ((formed_iff A).1 fA).chain (k + 1) (by omega) (by omega)
      rw [Nat.add_sub_cancel] at hc
      have hi2 : i / 2 < lnAt A (k + 1) := by omega
      have h1 := hA k (i / 2) (by omega) hi2
      have h2 := hB k (i / 2) (by omega) (by rw [← hln (k + 1) (by omega)]; exact hi2)
      rw [ih (k + 1) (by omega) (i / 2) hi2] at h1
      obtain ⟨-, h3⟩ := knows_inj h h1 h2
      simp only [List.cons.injEq, and_true] at h3
      by_cases hp : i % 2 = 0
      · rw [show i = 2 * (i / 2) by omega]; exact h3.1
      · rw [show i = 2 * (i / 2) + 1 by omega]; exact h3.2
  intro i hi
  exact key (A.length - 1) 0 (by omega) i hi
end Go.Proofs.Ytdpgfjnpcjpdpaa
namespace Go.Proofs.Ytdpgfjnpcjpdpaa
open Go.RowKit
attribute [local irreducible] perm fAdd fMul fPow fSub fNeg fRed hashU drawOf nextState
def Sml (M : Orc) : Prop := ∀ q ∈ M.qs, q.elems.length ≤ 21
theorem Sml.hash {M : Orc} (h : Sml M) (a : UInt64) {l : List UInt64} (hl : l.length ≤ 21) : Sml (M.hash a l).2 := by
  rcases hash_cases M a l with ⟨h1, -⟩ | ⟨-, i, -, h1⟩ | ⟨-, hn, x, M1, h1, hq, -⟩
  · rw [h1]; exact h
  · rw [h1]; exact h
  · rw [h1]
    intro q hq'
    rw [show (x, M1).2.qs = M1.qs from rfl, hq] at hq'
    rcases List.mem_append.1 hq' with h2 | h2
    · exact h q h2
    · rw [List.mem_singleton] at h2; subst h2; exact hl
theorem Sml.asks : ∀ (l : List (UInt64 × List UInt64)) {M : Orc}, Sml M → (∀ q ∈ l, q.2.length ≤ 21) → Sml (M.asks l).2
  | [], _, h, _ => h
  | q :: r, M, h, hl => by rw [asks_cons]; exact Sml.asks r (h.hash q.1 (hl q (by simp))) fun x hx => hl x (by simp [hx])
theorem branch_sml (level : List UInt64) : ∀ q ∈ branchQ level, q.2.length ≤ 21 := by
  intro q hq
  unfold branchQ at hq
  obtain ⟨i, -, rfl⟩ := List.mem_map.1 hq
  simp
theorem Sml.climb : ∀ (k : Nat) (M : Orc) (level : List UInt64), Sml M → Sml (M.climb k level).2
  | 0, M, level, h => by rw [Orc.climb]; exact h
  | k + 1, M, level, h => by
    by_cases h1 : level.length ≤ 1
    · rw [climb_stop M (k + 1) level h1]; exact h
    · rw [climb_go M k level h1]
      exact Sml.climb k _ _ (Sml.asks _ h (branch_sml level))
theorem Sml.commit {M : Orc} (h : Sml M) {leaves : Lv} (hl : ∀ l ∈ leaves, l.length ≤ 20) (salts : List UInt64) : Sml (M.commitT leaves salts).2 := by
  unfold Orc.commitT
  split
  · refine Sml.climb _ _ _ (Sml.asks _ h ?_)
    intro q hq
    unfold leafQ at hq
    obtain ⟨x, hx, rfl⟩ := List.mem_map.1 hq
    have h1 := hl x.1 (List.of_mem_zip hx).1
    simp; omega
  · exact h
theorem root_at {A : Lv} (fA : formed A = true) : rootL A = at2 A (A.length - 1) 0 := by unfold rootL; rw [fA]; rfl
theorem commit_root_big {M : Orc} (hg : Good M) {leaves : Lv} {salts : List UInt64} (hok : commitOk leaves salts = true) : rootL (M.commitT leaves salts).1 < big := by
  obtain ⟨hT, hf, h0, -, hk⟩ := commit_tree hg hok
  have hgc := Good.commit' hg leaves salts
  have hok' := hok
  unfold commitOk at hok'
  simp only [Bool.and_eq_true, beq_iff_eq] at hok'
  have hn1 := isNum_pos hok'.1
  generalize (M.commitT leaves salts).1 = A at *
  rw [root_at hf]
  have nA := List.length_pos_iff.2 (formed_ne hf)
  by_cases h1 : A.length = 1
  · rw [h1]
    have h2 := hk 0 leaves[0] salts[0] (List.getElem?_eq_getElem (by omega)) (List.getElem?_eq_getElem (by omega))
    exact knows_big hgc h2
  · have h2 := hT.branch (A.length - 2) 0 (by omega) (by rw [show A.length - 2 + 1 = A.length - 1 by omega, formed_last hf]; omega)
    rw [show A.length - 2 + 1 = A.length - 1 by omega] at h2
    exact knows_big hgc h2
structure B13 (ls ms : Lv) (ss ts : List UInt64) (h8 h9 : UInt64 × Orc) : Prop where
  same : ls = ms ∧ ss = ts → h8.1 = h9.1
  diff : Diff h9.2.qs
  sml : Sml h9.2
  few : h9.2.qs.length ≤ 66
  inj : (∀ k, k < h9.2.qs.length → noColl h9.2.qs k) → h8.1 = h9.1 → ls = ms ∧ ss = ts
theorem bind13 {ls ms A B : Lv} {ss ts : List UInt64} {M1 M2 : Orc} {h8 h9 : UInt64 × Orc} (hc1 : (Orc.fresh false 0).commitT ls ss = (A, M1)) (hc2 : M1.commitT ms ts = (B, M2)) (r1 : R13 ls ss) (r2 : R13 ms ts) (hlen : ls.length = ms.length)
    (e8 : h8 = M2.hash 18 [20, 2, rootL A]) (e9 : h9 = h8.2.hash 18 [20, 2, rootL B]) : B13 ls ms ss ts h8 h9 := by
  have g0 : Good (Orc.fresh false 0) := fun q hq => by cases hq
  have g1 := Good.commit' g0 ls ss
  have m0 : RealM (Orc.fresh false 0) := ⟨rfl, fun q hq => by cases hq⟩
  have d0 : Diff (Orc.fresh false 0).qs := fun i j a b _ h _ => by cases h
  have s0 : Sml (Orc.fresh false 0) := fun q hq => by cases hq
  have d1 := Diff.commit d0 ls ss
  have s1 := Sml.commit s0 r1.l20 ss
  obtain ⟨m1, -⟩ := RealM.commit m0 m0 ls ss
  have q1 := commit_small (Orc.fresh false 0) ls ss
  have b1 := commit_root_big g0 r1.ok
  obtain ⟨t1, f1, n1, -, k1⟩ := commit_tree g0 r1.ok
  rw [hc1] at g1 d1 s1 m1 q1 b1 t1 f1 n1 k1
  simp only at g1 d1 s1 m1 q1 b1 t1 f1 n1 k1
  have g2 := Good.commit' g1 ms ts
  have d2 := Diff.commit d1 ms ts
  have s2 := Sml.commit s1 r2.l20 ts
  obtain ⟨m2, -⟩ := RealM.commit m1 m1 ms ts
  have q2 := commit_small M1 ms ts
  have b2 := commit_root_big g1 r2.ok
  obtain ⟨t2, f2, n2, k12, k2⟩ := commit_tree g1 r2.ok
  have hAB : ls = ms ∧ ss = ts → A = B := by
    rintro ⟨rfl, rfl⟩
    have := (RealM.commit m0 m1 ls ss).2
    rw [hc1, hc2] at this
    exact this
  rw [hc2] at g2 d2 s2 m2 q2 b2 t2 f2 n2 k2 k12
  simp only at g2 d2 s2 m2 q2 b2 t2 f2 n2 k2 k12
  have aE : ∀ r : UInt64, r < big → allE [20, 2, r] = true := fun r hr => by
    have h1 : (20 : UInt64) < big := by decide
    have h2 : (2 : UInt64) < big := by decide
    simp [allE, hr, h1, h2]
  obtain ⟨m8, v8⟩ := m2.hash 18 [20, 2, rootL A]
  rw [← e8] at m8 v8
  obtain ⟨m9, v9⟩ := m8.hash 18 [20, 2, rootL B]
  rw [← e9] at m9 v9
  have kA : Knows h8.2 18 [20, 2, rootL A] h8.1 := by rw [e8]; exact hash_knows _ (aE _ b1)
  have kB : Knows h9.2 18 [20, 2, rootL B] h9.1 := by rw [e9]; exact hash_knows _ (aE _ b2)
  have up8 : ∀ a l x, Knows M2 a l x → Knows h8.2 a l x := fun a l x h => by rw [e8]; exact h.hash _ _
  have up9 : ∀ a l x, Knows h8.2 a l x → Knows h9.2 a l x := fun a l x h => by rw [e9]; exact h.hash _ _
  have q0 : (Orc.fresh false 0).qs.length = 0 := rfl
  have l16 := r1.l16
  have l16' := r2.l16
  refine ⟨fun h => ?_, ?_, ?_, ?_, fun hno h89 => ?_⟩
  · rw [v8, v9, hAB h]
  · rw [e9]; exact Diff.hash (by rw [e8]; exact Diff.hash d2 _ _) _ _
  · rw [e9]; exact Sml.hash (by rw [e8]; exact Sml.hash s2 _ (by simp)) _ (by simp)
  · have h1 := hash_qs_le M2 18 [20, 2, rootL A]
    rw [← e8] at h1
    have h2 := hash_qs_le h8.2 18 [20, 2, rootL B]
    rw [← e9] at h2
    omega
  · have kA' := up9 _ _ _ kA
    rw [h89] at kA'
    obtain ⟨-, h1⟩ := knows_inj hno kA' kB
    simp only [List.cons.injEq, and_true, true_and] at h1
    have hat := tree_eq hno (fun j i hj hi => up9 _ _ _ (up8 _ _ _ (k12 _ _ _ (t1.branch j i hj hi)))) (fun j i hj hi => up9 _ _ _ (up8 _ _ _ (t2.branch j i hj hi))) f1 f2 (by rw [n1, n2, hlen]) h1
    have sl1 : ss.length = ls.length := by
      have := r1.ok
      unfold commitOk at this
      simp only [Bool.and_eq_true, beq_iff_eq] at this
      exact this.2.1
    have sl2 : ts.length = ms.length := by
      have := r2.ok
      unfold commitOk at this
      simp only [Bool.and_eq_true, beq_iff_eq] at this
      exact this.2.1
    have key : ∀ i (hi : i < ls.length), ls[i]? = ms[i]? ∧ ss[i]? = ts[i]? := fun i hi => by
      have a1 : ls[i]? = some ls[i] := List.getElem?_eq_getElem hi
      have a2 : ms[i]? = some (ms[i]'(by omega)) := List.getElem?_eq_getElem (by omega)
      have a3 : ss[i]? = some (ss[i]'(by omega)) := List.getElem?_eq_getElem (by omega)
      have a4 : ts[i]? = some (ts[i]'(by omega)) := List.getElem?_eq_getElem (by omega)
      have c1 := up9 _ _ _ (up8 _ _ _ (k12 _ _ _ (k1 i _ _ a1 a3)))
      have c2 := up9 _ _ _ (up8 _ _ _ (k2 i _ _ a2 a4))
      rw [hat i (by rw [n1]; exact hi)] at c1
      obtain ⟨-, h2⟩ := knows_inj hno c1 c2
      injection h2 with h3 h4
      exact ⟨by rw [a1, a2, h4], by rw [a3, a4, h3]⟩
    constructor
    · apply List.ext_getElem?
      intro i
      by_cases hi : i < ls.length
      · exact (key i hi).1
      · rw [List.getElem?_eq_none (by omega), List.getElem?_eq_none (by omega)]
    · apply List.ext_getElem?
      intro i
      by_cases hi : i < ls.length
      · exact (key i hi).2
      · rw [List.getElem?_eq_none (by omega), List.getElem?_eq_none (by omega)]
end Go.Proofs.Ytdpgfjnpcjpdpaa
