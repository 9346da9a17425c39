/- Plain: what a commitment has asked is known, and each opening fits. -/
import Derived.Test.YtdpgfjnpcjpdpaaCommitLaw
import Derived.Test.YtdpgfjnpcjpdpaaTree
namespace Go.Proofs.Ytdpgfjnpcjpdpaa
open Go.RowKit
attribute [local irreducible] perm fAdd fMul fPow fSub fNeg fRed hashU drawOf nextState

/-! ## known questions -/
def Knows (M : Orc) (a : UInt64) (l : List UInt64) (x : UInt64) : Prop := allE l = true ∧ ∃ i, findQ M.qs a l = some i ∧ answerAt M.qs i = x
theorem findQ_snoc_none {qs : List Qn} {a : UInt64} {l : List UInt64} {x : UInt64} (h : findQ qs a l = none) : findQ (qs ++ [⟨a, l, x⟩]) a l = some qs.length := by
  unfold findQ at h ⊢
  rw [List.findIdx?_append, h]
  simp [List.findIdx?_cons]
theorem findQ_append {qs rs : List Qn} {a : UInt64} {l : List UInt64} {i : Nat} (h : findQ qs a l = some i) : findQ (qs ++ rs) a l = some i := by
  unfold findQ at h ⊢
  rw [List.findIdx?_append, h]; rfl
theorem answerAt_append {qs rs : List Qn} {i : Nat} (h : i < qs.length) : answerAt (qs ++ rs) i = answerAt qs i := by
  unfold answerAt
  rw [List.getElem?_append_left h]
theorem answerAt_last (qs : List Qn) (q : Qn) : answerAt (qs ++ [q]) qs.length = q.answer := by
  unfold answerAt
  rw [List.getElem?_append_right (Nat.le_refl _)]
  simp
theorem hash_knows (M : Orc) {a : UInt64} {l : List UInt64} (h : allE l = true) : Knows (M.hash a l).2 a l (M.hash a l).1 := by
  rcases hash_cases M a l with ⟨_, h1⟩ | ⟨_, i, hi, h1⟩ | ⟨_, hn, x, M1, h1, hq, _⟩
  · rw [h] at h1; cases h1
  · rw [h1]; exact ⟨h, i, hi, rfl⟩
  · rw [h1]
    refine ⟨h, M.qs.length, ?_, ?_⟩
    · show findQ M1.qs a l = _
      rw [hq]; exact findQ_snoc_none hn
    · show answerAt M1.qs _ = x
      rw [hq]; exact answerAt_last _ _
theorem Knows.hash {M : Orc} {a : UInt64} {l : List UInt64} {x : UInt64} (h : Knows M a l x) (b : UInt64) (m : List UInt64) : Knows (M.hash b m).2 a l x := by
  obtain ⟨hE, i, hi, hx⟩ := h
  rcases hash_cases M b m with ⟨h1, _⟩ | ⟨_, j, _, h1⟩ | ⟨_, _, y, M1, h1, hq, _⟩
  · rw [h1]; exact ⟨hE, i, hi, hx⟩
  · rw [h1]; exact ⟨hE, i, hi, hx⟩
  · rw [h1]
    refine ⟨hE, i, ?_, ?_⟩
    · show findQ M1.qs a l = _
      rw [hq]; exact findQ_append hi
    · show answerAt M1.qs i = x
      rw [hq, answerAt_append (findQ_lt hi)]; exact hx
theorem Knows.asks {a : UInt64} {l : List UInt64} {x : UInt64} : ∀ (qs : List (UInt64 × List UInt64)) {M : Orc}, Knows M a l x → Knows (M.asks qs).2 a l x
  | [], _, h => h
  | q :: r, M, h => by rw [asks_cons]; exact Knows.asks r (h.hash q.1 q.2)
theorem asks_knows : ∀ (qs : List (UInt64 × List UInt64)) (M : Orc) (i : Nat) (q : UInt64 × List UInt64), qs[i]? = some q → allE q.2 = true → ∃ x, (M.asks qs).1[i]? = some x ∧ Knows (M.asks qs).2 q.1 q.2 x
  | [], _, i, q, h, _ => by simp at h
  | p :: r, M, 0, q, h, hE => by
    simp only [List.getElem?_cons_zero, Option.some.injEq] at h
    subst h
    rw [asks_cons]
    exact ⟨_, rfl, Knows.asks r (hash_knows M hE)⟩
  | p :: r, M, i + 1, q, h, hE => by
    rw [asks_cons]
    exact asks_knows r _ i q (by simpa using h) hE

/-! ## answers are elements -/
def Good (M : Orc) : Prop := ∀ q ∈ M.qs, q.answer < big
theorem big_pos : (0 : UInt64) < big := by decide
theorem good_at {M : Orc} (h : Good M) (i : Nat) : answerAt M.qs i < big := by
  unfold answerAt
  cases hq : M.qs[i]? with
  | none => exact big_pos
  | some q => exact h q (List.mem_of_getElem? hq)
theorem perm_lt (s : S3) : (perm s).a < big := by
  have e : ∃ x y, (perm s).a = fAdd x y := by
    unfold perm pRounds pRound pMix
    exact ⟨_, _, rfl⟩
  obtain ⟨x, y, e⟩ := e
  rw [e, lt_big_iff]
  unfold fAdd
  exact fAdd0_lt rfl _ _
theorem absorbAll_lt : ∀ (l : List UInt64) (s : S3), s.a < big → (absorbAll s l).a < big
  | [], s, h => by rw [absorb_nil]; exact h
  | [x], s, _ => by rw [absorb_one]; exact perm_lt _
  | x :: y :: r, s, _ => by rw [absorb_two]; exact absorbAll_lt r _ (perm_lt _)
theorem hashU_lt (a : UInt64) (l : List UInt64) : hashU a l < big := by
  unfold hashU sponge
  split
  · exact perm_lt _
  · exact absorbAll_lt l _ big_pos
theorem drawOf_big (s : UInt64) : drawOf s < big := by
  unfold drawOf mix3
  rw [UInt64.lt_iff_toNat_lt, UInt64.toNat_mod]
  exact Nat.mod_lt _ (by decide)
theorem hash_lt {M : Orc} (h : Good M) (a : UInt64) (l : List UInt64) : (M.hash a l).1 < big := by
  rcases hash_cases M a l with ⟨h1, _⟩ | ⟨_, i, hi, h1⟩ | ⟨_, hn, x, M1, h1, _, _, _, hr, hi, _⟩
  · rw [h1]; exact big_pos
  · rw [h1]; exact good_at h i
  · rw [h1]
    cases hI : M.ideal with
    | true => rw [show (x, M1).1 = x from rfl, (hi hI).1]; exact drawOf_big _
    | false => rw [show (x, M1).1 = x from rfl, (hr hI).1]; exact hashU_lt _ _
theorem Good.hash {M : Orc} (h : Good M) (a : UInt64) (l : List UInt64) : Good (M.hash a l).2 := by
  have hx := hash_lt h a l
  rcases hash_cases M a l with ⟨h1, _⟩ | ⟨_, i, hi, h1⟩ | ⟨_, hn, x, M1, h1, hq, _⟩
  · rw [h1]; exact h
  · rw [h1]; exact h
  · rw [h1] at hx ⊢
    intro q hq'
    rw [show (x, M1).2 = M1 from rfl, hq] at hq'
    rcases List.mem_append.1 hq' with h2 | h2
    · exact h q h2
    · rw [List.mem_singleton] at h2; subst h2; exact hx
theorem Good.asks : ∀ (qs : List (UInt64 × List UInt64)) {M : Orc}, Good M → Good (M.asks qs).2
  | [], _, h => h
  | q :: r, M, h => by rw [asks_cons]; exact Good.asks r (h.hash q.1 q.2)
theorem asks_lt : ∀ (qs : List (UInt64 × List UInt64)) {M : Orc}, Good M → ∀ x ∈ (M.asks qs).1, x < big
  | [], _, _, x, hx => by rw [asks_nil] at hx; cases hx
  | q :: r, M, h, x, hx => by
    rw [asks_cons] at hx
    rcases List.mem_cons.1 hx with h1 | h1
    · rw [h1]; exact hash_lt h _ _
    · exact asks_lt r (h.hash q.1 q.2) x h1

/-! ## the tree: each branch is known -/
structure TreeOk (M : Orc) (ls : Lv) : Prop where
  good : Good M
  branch : ∀ j i, j + 1 < ls.length → i < lnAt ls (j + 1) → Knows M 17 [at2 ls j (2 * i), at2 ls j (2 * i + 1)] (at2 ls (j + 1) i)
theorem getD_lt {l : List UInt64} (h : ∀ x ∈ l, x < big) (i : Nat) : l.getD i 0 < big := by
  rw [List.getD_eq_getElem?_getD]
  cases hx : l[i]? with
  | none => exact big_pos
  | some x => exact h x (List.mem_of_getElem? hx)
theorem getD_some {l : List UInt64} {i : Nat} {x : UInt64} (h : l[i]? = some x) : l.getD i 0 = x := by
  rw [List.getD_eq_getElem?_getD, h]; rfl
theorem climb_ok : ∀ (k : Nat) (M : Orc) (level : List UInt64), Good M → (∀ x ∈ level, x < big) → isNum level.length = true → level.length ≤ 2 ^ k →
    TreeOk (M.climb k level).2 (M.climb k level).1 ∧ (∀ a l x, Knows M a l x → Knows (M.climb k level).2 a l x) ∧ (∃ r, (M.climb k level).1 = level :: r) ∧ formed (M.climb k level).1 = true
  | 0, M, level, hg, hlt, hn, hk => by
    have h1 := isNum_pos hn
    have hl1 : level.length = 1 := by simp at hk; omega
    rw [climb_stop M 0 level (by omega)]
    refine ⟨⟨hg, fun j i hj hi => by simp at hj⟩, fun a l x h => h, ⟨[], rfl⟩, ?_⟩
    simp [formed, formedFrom, hl1, isNum]
  | k + 1, M, level, hg, hlt, hn, hk => by
    have h1 := isNum_pos hn
    by_cases hl : level.length ≤ 1
    · have hl1 : level.length = 1 := by omega
      rw [climb_stop M (k + 1) level hl]
      refine ⟨⟨hg, fun j i hj hi => by simp at hj⟩, fun a l x h => h, ⟨[], rfl⟩, ?_⟩
      simp [formed, formedFrom, hl1, isNum]
    · rcases isNum_half hn with h2 | ⟨m, hm, hmn, hm1⟩
      · omega
      · have hbl : (M.asks (branchQ level)).1.length = m := by rw [asks_length, branchQ_length]; omega
        have hg2 := Good.asks (branchQ level) hg
        have ih := climb_ok k (M.asks (branchQ level)).2 (M.asks (branchQ level)).1 hg2 (asks_lt (branchQ level) hg) (by rw [hbl]; exact hmn) (by rw [hbl]; rw [Nat.pow_succ] at hk; omega)
        have hkn : ∀ i, i < m → ∃ x, (M.asks (branchQ level)).1[i]? = some x ∧ Knows (M.asks (branchQ level)).2 17 [level.getD (2 * i) 0, level.getD (2 * i + 1) 0] x := fun i hi =>
          asks_knows (branchQ level) M i (17, [level.getD (2 * i) 0, level.getD (2 * i + 1) 0]) (branchQ_at (by omega)) (by simp only [allE, List.all_cons, List.all_nil, Bool.and_true, Bool.and_eq_true, decide_eq_true_eq]; exact ⟨getD_lt hlt _, getD_lt hlt _⟩)
        rw [climb_go M k level hl]
        have hmono : ∀ a l x, Knows M a l x → Knows (M.asks (branchQ level)).2 a l x := fun a l x h => Knows.asks (branchQ level) h
        generalize (M.asks (branchQ level)).2 = M2 at *
        generalize (M.asks (branchQ level)).1 = A at *
        obtain ⟨⟨i1, i2⟩, i3, ⟨r, hr⟩, i5⟩ := ih
        generalize (M2.climb k A).2 = M3 at *
        generalize (M2.climb k A).1 = T at *
        subst hr
        refine ⟨⟨i1, fun j i hj hi => ?_⟩, fun a l x h => i3 a l x (hmono a l x h), ⟨_, rfl⟩, ?_⟩
        · rcases j with _ | j
          · have hi' : i < m := by rw [← hbl]; exact hi
            obtain ⟨x, hx, hk'⟩ := hkn i hi'
            have h3 := i3 _ _ _ hk'
            have e : at2 (level :: A :: r) (0 + 1) i = x := at2_of (ls := level :: A :: r) (k := 1) rfl hx
            rw [e]
            exact h3
          · exact i2 j i (by simpa using hj) hi
        · rw [formed_iff] at i5 ⊢
          refine ⟨by simp, hn, ?_, fun j h1 h2 => ?_⟩
          · have := i5.last
            simpa [lnAt] using this
          · rcases j with _ | j
            · omega
            · rcases j with _ | j
              · show 2 * A.length = level.length
                omega
              · have := i5.chain (j + 1) (by omega) (by simpa using h2)
                exact this
theorem leaf_knows {leaves : Lv} {salts : List UInt64} (M : Orc) (hs : allE salts = true) (hl : ∀ (i : Nat) (l : List UInt64), leaves[i]? = some l → allE l = true) {i : Nat} {l : List UInt64} {s : UInt64}
    (h1 : leaves[i]? = some l) (h2 : salts[i]? = some s) : ∃ x, (M.asks (leafQ leaves salts)).1[i]? = some x ∧ Knows (M.asks (leafQ leaves salts)).2 16 (s :: l) x :=
  asks_knows _ M i (16, s :: l) (leafQ_at h1 h2) (by
    have hsl : s < big := by
      have := hs
      unfold allE at this
      rw [List.all_eq_true] at this
      simpa using this s (List.mem_of_getElem? h2)
    have hll := hl i l h1
    unfold allE at hll ⊢
    simp [hll, hsl])

/-! ## each opening fits -/
theorem knows_peek {M : Orc} {a : UInt64} {l : List UInt64} {x : UInt64} (h : Knows M a l x) : peekF M a l = ((x, true), M) := by
  obtain ⟨hE, i, hi, hx⟩ := h
  unfold peekF Orc.peek
  rw [if_pos hE, hi, ← hx]
theorem knows_hash {M : Orc} {a : UInt64} {l : List UInt64} {x : UInt64} (h : Knows M a l x) : hashF M a l = ((x, true), M) := by
  obtain ⟨hE, i, hi, hx⟩ := h
  unfold hashF
  rw [Go.Proofs.Ytdpgfjnpcjpdpaa.hash_known M a l i hE hi, ← hx]
theorem knows_ask {M : Orc} {a : UInt64} {l : List UInt64} {x : UInt64} (h : Knows M a l x) (f : AskF) (hf : f = peekF ∨ f = hashF) : f M a l = ((x, true), M) := by
  rcases hf with rfl | rfl
  · exact knows_peek h
  · exact knows_hash h
theorem lastA_pre (q : Qn) (l : List Qn) (hl : l ≠ []) : lastA (q :: l) = lastA l := by
  unfold lastA
  rw [List.getLast?_cons]
  cases h : l.getLast? with
  | none => rw [List.getLast?_eq_none_iff] at h; exact absurd h hl
  | some y => rfl
theorem fol_fits {M : Orc} {ls : Lv} (hT : TreeOk M ls) (hfm : formed ls = true) {i : Nat} (hi : i < lnAt ls 0) (f : AskF) (hf : f = peekF ∨ f = hashF) :
    ∀ (d k : Nat) (q : UInt64 × List UInt64), k + d = ls.length - 1 → Knows M q.1 q.2 (at2 ls k (i / 2 ^ k)) →
      ∃ l, folF f ((pathN ls i (ls.length - 1)).drop k) (i / 2 ^ k) M q = (some l, M) ∧ l ≠ [] ∧ lastA l = at2 ls (ls.length - 1) 0
  | 0, k, q, hk, hq => by
    have hne := List.length_pos_iff.2 (formed_ne hfm)
    rw [show (pathN ls i (ls.length - 1)).drop k = [] from List.drop_eq_nil_of_le (by rw [pathN_length]; omega)]
    have ha := knows_ask hq f hf
    rw [folF_end (by rw [ha]), ha]
    refine ⟨_, rfl, by simp, ?_⟩
    have h0 : i / 2 ^ k = 0 := by
      have h1 := path_in hfm hi k (by omega)
      rw [show k = ls.length - 1 by omega, formed_last hfm] at h1
      rw [show k = ls.length - 1 by omega]; exact Nat.lt_one_iff.1 h1
    rw [h0, show k = ls.length - 1 by omega]
    rfl
  | d + 1, k, q, hk, hq => by
    have hlen := pathN_length ls i (ls.length - 1)
    have hkl : k < (pathN ls i (ls.length - 1)).length := by rw [hlen]; omega
    have hp : (pathN ls i (ls.length - 1))[k] = at2 ls k ((i / 2 ^ k) ^^^ 1) := by simp [pathN]
    rw [List.drop_eq_getElem_cons hkl, hp]
    have ha := knows_ask hq f hf
    rw [folF_go (by rw [ha]), ha]
    have hin := path_in hfm hi (k + 1) (by omega)
    have hb := hT.branch k (i / 2 ^ (k + 1)) (by omega) hin
    have hpair : pairOf (i / 2 ^ k) (at2 ls k (i / 2 ^ k)) (at2 ls k ((i / 2 ^ k) ^^^ 1)) = [at2 ls k (2 * (i / 2 ^ (k + 1))), at2 ls k (2 * (i / 2 ^ (k + 1)) + 1)] := by
      rw [show i / 2 ^ (k + 1) = i / 2 ^ k / 2 by rw [Nat.div_div_eq_div_mul, Nat.pow_succ], xor_one]
      generalize i / 2 ^ k = e
      unfold pairOf
      by_cases h : e % 2 = 1
      · rw [if_pos h, if_neg (by omega), show 2 * (e / 2) = e - 1 by omega, show e - 1 + 1 = e by omega]
      · rw [if_neg h, if_pos (by omega), show 2 * (e / 2) = e by omega]
    simp only
    rw [hpair, show i / 2 ^ k / 2 = i / 2 ^ (k + 1) by rw [Nat.div_div_eq_div_mul, Nat.pow_succ]]
    obtain ⟨l, h1, h2, h3⟩ := fol_fits hT hfm hi f hf d (k + 1) (17, [at2 ls k (2 * (i / 2 ^ (k + 1))), at2 ls k (2 * (i / 2 ^ (k + 1)) + 1)]) (by omega) hb
    rw [h1, pre_some]
    exact ⟨_, rfl, by simp, by rw [List.singleton_append, lastA_pre _ _ h2]; exact h3⟩

theorem formed_pow {ls : Lv} (h : formed ls = true) : ∀ j, j < ls.length → lnAt ls 0 = lnAt ls j * 2 ^ j
  | 0, _ => by simp
  | j + 1, hj => by
    have h1 := formed_pow h j (by omega)
    have h2 := ((formed_iff ls).1 h).chain (j + 1) (by omega) hj
    rw [Nat.add_sub_cancel] at h2
    rw [h1, ← h2, Nat.pow_succ, Nat.mul_comm 2, Nat.mul_assoc, Nat.mul_comm 2]
theorem knows_big {M : Orc} (hg : Good M) {a : UInt64} {l : List UInt64} {x : UInt64} (h : Knows M a l x) : x < big := by
  obtain ⟨_, i, _, hx⟩ := h
  rw [← hx]; exact good_at hg i
theorem tree_big {M : Orc} {ls : Lv} (hT : TreeOk M ls) (hf : formed ls = true) {j m : Nat} (hj : j + 1 < ls.length) (hm : m < lnAt ls j) : at2 ls j m < big := by
  have h2 := ((formed_iff ls).1 hf).chain (j + 1) (by omega) hj
  rw [Nat.add_sub_cancel] at h2
  have hb := (hT.branch j (m / 2) hj (by omega)).1
  simp only [allE, List.all_cons, List.all_nil, Bool.and_true, Bool.and_eq_true, decide_eq_true_eq] at hb
  by_cases h : m % 2 = 0
  · have := hb.1; rwa [show 2 * (m / 2) = m by omega] at this
  · have := hb.2; rwa [show 2 * (m / 2) + 1 = m by omega] at this
/-- A committed leaf, its salt and its path fit the root; nothing new is asked. -/
theorem opens_fit {M : Orc} (hg : Good M) {leaves : Lv} {salts : List UInt64} (hok : commitOk leaves salts = true) {i : Nat} {l : List UInt64} {s : UInt64} (h1 : leaves[i]? = some l) (h2 : salts[i]? = some s) :
    (M.commitT leaves salts).2.verify (rootL (M.commitT leaves salts).1) leaves.length i ⟨l, s, pathL (M.commitT leaves salts).1 i⟩ = (true, (M.commitT leaves salts).2) := by
  have hok' := hok
  unfold commitOk at hok'
  simp only [Bool.and_eq_true, beq_iff_eq, List.all_eq_true] at hok'
  obtain ⟨hn, hlen, hsa, hla⟩ := hok'
  have hla' : ∀ (i : Nat) (l : List UInt64), leaves[i]? = some l → allE l = true := fun i l hl => hla l (List.mem_of_getElem? hl)
  obtain ⟨x, hx, hk⟩ := leaf_knows M hsa hla' h1 h2
  have hC : M.commitT leaves salts = M.tree leaves salts := by unfold Orc.commitT; rw [hok]; rfl
  have hA : (M.asks (leafQ leaves salts)).1.length = leaves.length := by rw [asks_length, leafQ_length hlen]
  have hn1 := isNum_pos hn
  have hg1 := Good.asks (leafQ leaves salts) hg
  have hlt := asks_lt (leafQ leaves salts) hg
  have hT : M.tree leaves salts = (M.asks (leafQ leaves salts)).2.climb 10 (M.asks (leafQ leaves salts)).1 := rfl
  obtain ⟨ht, hm, ⟨r, hr⟩, hf⟩ := climb_ok 10 (M.asks (leafQ leaves salts)).2 (M.asks (leafQ leaves salts)).1 hg1 hlt (by rw [hA]; exact hn) (by rw [hA]; exact hn1.2)
  rw [hC, hT]
  have hkn := hm _ _ _ hk
  generalize (M.asks (leafQ leaves salts)).2 = M1 at *
  generalize (M.asks (leafQ leaves salts)).1 = A at *
  generalize (M1.climb 10 A).2 = M2 at *
  generalize (M1.climb 10 A).1 = ls at *
  have hl0 : lnAt ls 0 = leaves.length := by rw [hr]; exact hA
  have hi : i < leaves.length := (List.getElem?_eq_some_iff.1 h1).1
  have hi0 : i < lnAt ls 0 := by rw [hl0]; exact hi
  have hpI : pathI ls (i : Int) = true := by
    unfold pathI
    rw [hf, decide_eq_true (show (0 : Int) ≤ i by omega), decide_eq_true (show (i : Int) < (lnAt ls 0 : Nat) by omega)]; rfl
  have hpath : pathL ls (i : Int) = pathN ls i (ls.length - 1) := by unfold pathL; rw [hpI]; rfl
  have hroot : rootL ls = at2 ls (ls.length - 1) 0 := by unfold rootL; rw [hf]; rfl
  have hx0 : at2 ls 0 (i / 2 ^ 0) = x := by
    rw [Nat.pow_zero, Nat.div_one, hr]
    exact at2_of (ls := A :: r) (k := 0) rfl hx
  have hxk : Knows M2 16 (s :: l) (at2 ls 0 (i / 2 ^ 0)) := by rw [hx0]; exact hkn
  have hrb : at2 ls (ls.length - 1) 0 < big := by
    have hne := List.length_pos_iff.2 (formed_ne hf)
    by_cases h : ls.length = 1
    · have hi1 : i = 0 := by
        have := formed_last hf
        rw [h] at this
        have h3 : lnAt ls 0 = 1 := this
        omega
      rw [h]
      subst hi1
      have := knows_big ht.good hxk
      simpa using this
    · have hb := ht.branch (ls.length - 2) 0 (by omega) (by rw [show ls.length - 2 + 1 = ls.length - 1 by omega, formed_last hf]; omega)
      rw [show ls.length - 2 + 1 = ls.length - 1 by omega] at hb
      exact knows_big ht.good hb
  have hsb : s < big := by
    have := hkn.1
    simp only [allE, List.all_cons, Bool.and_eq_true, decide_eq_true_eq] at this
    exact this.1
  have hlb : allE l = true := hla' i l h1
  have hpb : allE (pathN ls i (ls.length - 1)) = true := by
    unfold allE pathN
    rw [List.all_eq_true]
    intro y hy
    obtain ⟨j, hj, rfl⟩ := List.mem_map.1 hy
    rw [List.mem_range] at hj
    exact decide_eq_true (tree_big ht hf (by omega) (path_sib hf hi0 j (by omega)))
  have hpw : 2 ^ (ls.length - 1) = leaves.length := by
    have hne := List.length_pos_iff.2 (formed_ne hf)
    have := formed_pow hf (ls.length - 1) (by omega)
    rw [formed_last hf, hl0] at this
    omega
  have hpos : possible (at2 ls (ls.length - 1) 0) (leaves.length : Int) (i : Int) ⟨l, s, pathN ls i (ls.length - 1)⟩ = true := by
    unfold possible
    rw [numI_nat, hn, decide_eq_true (show (0 : Int) ≤ i by omega), decide_eq_true (show (i : Int) < leaves.length by omega), decide_eq_true hrb]
    simp only [pathN_length, hpw, decide_eq_true hsb, hlb, hpb]
    simp
  rw [hpath, hroot]
  unfold Orc.verify
  rw [if_pos hpos, Int.toNat_natCast]
  have hfo : ∀ f, (f = peekF ∨ f = hashF) → folOk (M2.fol f i ⟨l, s, pathN ls i (ls.length - 1)⟩) (at2 ls (ls.length - 1) 0) = true ∧ (M2.fol f i ⟨l, s, pathN ls i (ls.length - 1)⟩).2 = M2 := by
    intro f hff
    obtain ⟨r', g1, g2, g3⟩ := fol_fits ht hf hi0 f hff (ls.length - 1) 0 (16, s :: l) (by omega) hxk
    rw [List.drop_zero, Nat.pow_zero, Nat.div_one] at g1
    unfold Orc.fol
    rw [g1]
    exact ⟨by simp [folOk, g3], rfl⟩
  have hthis := hfo (if M2.ideal then peekF else hashF) (by cases M2.ideal <;> simp)
  exact Prod.ext hthis.1 hthis.2
end Go.Proofs.Ytdpgfjnpcjpdpaa
