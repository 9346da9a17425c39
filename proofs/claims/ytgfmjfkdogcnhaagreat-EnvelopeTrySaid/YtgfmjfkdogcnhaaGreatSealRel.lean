/- Plain: the program's oracle and the reference's one seal alike. The law's asked. The law's asked: as many draws and questions. -/
import Derived.Test.YtgfmjfkdogcnhaaGreatRefSeal
import Derived.Test.YtgfmjfkdogcnhaaGreatOracles
set_option linter.unusedSimpArgs false
namespace Go.Proofs.YtgfmjfkdogcnhaaGreat
open Go.RowKit
attribute [local irreducible] perm fAdd fMul fPow fSub fNeg fRed hashU drawOf nextState cipSeal
structure Rel (M MR : Orc) : Prop where
  ideal : MR.ideal = M.ideal
  state : MR.state = M.state
  draws : MR.draws = M.draws
  qs : MR.qs = M.qs
  seals : ∀ k nc l, findS MR.seals k nc l = findS M.seals k nc l
theorem Rel.refl (M : Orc) : Rel M M := ⟨rfl, rfl, rfl, rfl, fun _ _ _ => rfl⟩
theorem steps_state_eq {M MR : Orc} (h : MR.state = M.state) : ∀ n, (MR.steps n).state = (M.steps n).state
  | 0 => h
  | n + 1 => by
    rw [Orc.steps, Orc.steps]
    show nextState _ = nextState _
    rw [steps_state_eq h n]
theorem takeL_eq {M MR : Orc} (h : MR.state = M.state) (n : Nat) : takeL MR n = takeL M n := by
  unfold takeL
  refine List.map_congr_left fun i _ => ?_
  rw [steps_state_eq h i]
theorem findS_snoc (ss : List Sl) (s : Sl) (k nc : UInt64) (l : List UInt64) : findS (ss ++ [s]) k nc l = (findS ss k nc l).or (if isSeal s k nc l then some s else none) := by
  unfold findS
  rw [List.find?_append]
  congr 1
  cases h : isSeal s k nc l <;> simp [h]
theorem Rel.seal {M MR : Orc} (h : Rel M MR) (k nc : UInt64) (l : List UInt64) : (MR.rsealT k nc l).1 = (M.sealT k nc l).1 ∧ Rel (M.sealT k nc l).2 (MR.rsealT k nc l).2 := by
  unfold Orc.rsealT Orc.sealT
  rw [h.ideal]
  cases hI : M.ideal with
  | false => exact ⟨rfl, h⟩
  | true =>
    simp only [if_true]
    unfold Orc.rseal
    cases hc : cipE k nc l with
    | false =>
      rw [sealI_no (M := M) (key := k) (nonce := nc) (plain := l) hc]
      exact ⟨rfl, h⟩
    | true =>
      simp only [if_true]
      have ht := takeL_eq h.state (l.length + 1)
      rw [ht]
      have hss := h.seals k nc (takeL M (l.length + 1))
      cases hf : (findS M.seals k nc (takeL M (l.length + 1))).isSome with
      | true =>
        rw [sealI_old hc hf]
        refine ⟨rfl, ?_, ?_, ?_, ?_, fun k' nc' l' => ?_⟩
        · rw [addSeal_ideal, steps_ideal, steps_ideal, h.ideal]
        · rw [addSeal_state, steps_state_eq h.state]
        · rw [addSeal_draws, steps_draws, steps_draws, h.draws]
        · rw [addSeal_qs, steps_qs, steps_qs, h.qs]
        · rw [addSeal_seals, steps_seals, steps_seals, findS_snoc, h.seals]
          cases hm : isSeal ⟨k, nc, takeL M (l.length + 1), l⟩ k' nc' l' with
          | false => simp
          | true =>
            obtain ⟨e1, e2, e3⟩ := isSeal_iff.1 hm
            simp only at e1 e2 e3
            subst e1 e2 e3
            obtain ⟨s, hs⟩ := Option.isSome_iff_exists.1 hf
            rw [hs]; rfl
      | false =>
        rw [sealI_new hc hf]
        refine ⟨rfl, ?_, ?_, ?_, ?_, fun k' nc' l' => ?_⟩
        · rw [addSeal_ideal, addSeal_ideal, steps_ideal, steps_ideal, h.ideal]
        · rw [addSeal_state, addSeal_state, steps_state_eq h.state]
        · rw [addSeal_draws, addSeal_draws, steps_draws, steps_draws, h.draws]
        · rw [addSeal_qs, addSeal_qs, steps_qs, steps_qs, h.qs]
        · rw [addSeal_seals, addSeal_seals, steps_seals, steps_seals, findS_snoc, findS_snoc, h.seals]
theorem Rel.envSeal {M MR : Orc} (h : Rel M MR) (a : E2) (n : Nt) (e : UInt64) : (MR.rEnvSeal a n e).1 = (M.envSeal a n e).1 ∧ Rel (M.envSeal a n e).2 (MR.rEnvSeal a n e).2 := by
  unfold Orc.rEnvSeal Orc.envSeal
  cases hv : (validP a && n.ok) with
  | false => exact ⟨rfl, h⟩
  | true =>
    simp only [if_true]
    obtain ⟨h1, h2⟩ := h.seal (envKey (pShared a e) (pPublic e)) 0 [n.value, n.blind]
    exact ⟨by rw [h1], h2⟩
/-- How much a sealing adds. -/
structure Adds (M N : Orc) (l : List UInt64) (n : Nat) : Prop where
  qs : N.qs = M.qs
  draws : N.draws ≤ M.draws + n
  len : l.length ≤ n
  ideal : N.ideal = M.ideal
  seals : ∀ s ∈ N.seals, s ∈ M.seals ∨ s.plain.length + 1 = n
theorem Adds.refl (M : Orc) (n : Nat) : Adds M M [] n := ⟨rfl, by omega, by simp, rfl, fun s hs => .inl hs⟩
theorem sealT_adds (M : Orc) (k nc : UInt64) (l : List UInt64) : Adds M (M.sealT k nc l).2 (M.sealT k nc l).1 (l.length + 1) := by
  unfold Orc.sealT
  cases hI : M.ideal with
  | false =>
    simp only [Bool.false_eq_true, if_false]
    have hlen : (if cipE k nc l = true then cipSeal k nc l else []).length ≤ l.length + 1 := by
      split
      · rw [cipSeal_length]; omega
      · simp
    exact ⟨rfl, by omega, hlen, rfl, fun s hs => .inl hs⟩
  | true =>
    simp only [if_true]
    cases hc : cipE k nc l with
    | false =>
      rw [sealI_no hc]
      exact .refl _ _
    | true =>
      cases hf : (findS M.seals k nc (takeL M (l.length + 1))).isSome with
      | true =>
        rw [sealI_old hc hf]
        exact ⟨steps_qs _ _, by rw [steps_draws]; omega, by rw [takeL_length]; omega, steps_ideal _ _, fun s hs => .inl (by rwa [steps_seals] at hs)⟩
      | false =>
        rw [sealI_new hc hf]
        refine ⟨by rw [addSeal_qs, steps_qs], by rw [addSeal_draws, steps_draws]; omega, by rw [takeL_length]; omega, by rw [addSeal_ideal, steps_ideal], fun s hs => ?_⟩
        rw [addSeal_seals, steps_seals] at hs
        rcases List.mem_append.1 hs with h | h
        · exact .inl h
        · rw [List.mem_singleton] at h; subst h; exact .inr rfl
theorem envSeal_adds (M : Orc) (a : E2) (n : Nt) (e : UInt64) : Adds M (M.envSeal a n e).2 (M.envSeal a n e).1.2 3 := by
  unfold Orc.envSeal
  generalize envKey (pShared a e) (pPublic e) = k
  generalize (validP a && n.ok) = b
  have h := sealT_adds M k 0 [n.value, n.blind]
  generalize M.sealT k 0 [n.value, n.blind] = r at *
  cases b with
  | false =>
    simp only [Bool.false_eq_true, if_false]
    exact .refl _ _
  | true =>
    simp only [if_true]
    exact h
structure AddsR (M N : Orc) : Prop where
  len : N.seals.length ≤ M.seals.length + 1
  mem : ∀ s ∈ N.seals, s ∈ M.seals ∨ s.sealed.length = 3
theorem AddsR.refl (M : Orc) : AddsR M M := ⟨by omega, fun s hs => .inl hs⟩
theorem rsealT_adds (M : Orc) (k nc : UInt64) (x y : UInt64) : AddsR M (M.rsealT k nc [x, y]).2 := by
  unfold Orc.rsealT
  generalize M.ideal = b
  cases b with
  | false =>
    simp only [Bool.false_eq_true, if_false]
    exact .refl _
  | true =>
    simp only [if_true]
    unfold Orc.rseal
    generalize cipE k nc [x, y] = c
    cases c with
    | false =>
      simp only [Bool.false_eq_true, if_false]
      exact .refl _
    | true =>
      simp only [if_true]
      have hl := takeL_length M ([x, y].length + 1)
      have hs := steps_seals M ([x, y].length + 1)
      generalize takeL M ([x, y].length + 1) = o at *
      generalize M.steps ([x, y].length + 1) = N at *
      refine ⟨by rw [addSeal_seals, hs]; simp, fun s hs' => ?_⟩
      rw [addSeal_seals, hs] at hs'
      rcases List.mem_append.1 hs' with h | h
      · exact .inl h
      · rw [List.mem_singleton] at h; subst h; exact .inr hl
theorem rEnvSeal_adds (M : Orc) (a : E2) (n : Nt) (e : UInt64) : AddsR M (M.rEnvSeal a n e).2 := by
  unfold Orc.rEnvSeal
  generalize envKey (pShared a e) (pPublic e) = k
  generalize (validP a && n.ok) = b
  have h := rsealT_adds M k 0 n.value n.blind
  generalize M.rsealT k 0 [n.value, n.blind] = r at *
  cases b with
  | false =>
    simp only [Bool.false_eq_true, if_false]
    exact .refl _
  | true =>
    simp only [if_true]
    exact h
end Go.Proofs.YtgfmjfkdogcnhaaGreat
namespace Go.Proofs.YtgfmjfkdogcnhaaGreat
open Go.RowKit
attribute [local irreducible] perm fAdd fMul fPow fSub fNeg fRed hashU drawOf nextState cipSeal
theorem OrcAt.draws35 {w : World} {b : Nat} {M : Orc} {F : Nat → Prop} (h : OrcAt w b M F) : Calls Tryz.prog 35 #[.pointer (some ⟨b, 0, none⟩)] w (fun e w' => e = .returned (.int .i64 (M.draws : Int)) ∧ w' = w) := by
  obtain ⟨qv, mk, ms, mp, Q, S, hin⟩ := h
  exact Draws_any hin.self
set_option maxRecDepth 100000 in
set_option maxHeartbeats 3200000 in
theorem asked_any {w : World} {b : Nat} {M : Orc} {F : Nat → Prop} {ideal : Bool} {st : UInt64} {qa sa pa : Option Addr} {qc sn sc pn pc : Nat} (h : OrcAt w b M F) (hq : M.qs.length ≤ 1000000000) (hE : ∀ q ∈ M.qs, q.elems.length ≤ 1000000000000) :
    Calls Tryz.prog 10 #[.pointer (some ⟨b, 0, none⟩), .agg #[.bool ideal, uv st, .int .i64 (M.draws : Int), .slice qa M.qs.length qc, .slice sa sn sc, .slice pa pn pc]] w fun e w' => e = .returned (.bool true) ∧ Ext w w' := by
  obtain ⟨N, hN⟩ : ∃ N, N = w.heap.size := ⟨_, rfl⟩
  obtain ⟨w0, hw0⟩ : ∃ w0, w0 = w.alloc (.cells #[.bool ideal, uv st, .int .i64 (M.draws : Int), .slice qa M.qs.length qc, .slice sa sn sc, .slice pa pn pc] 38) := ⟨_, rfl⟩
  have hx0 : Ext w w0 := by rw [hw0]; exact (Ext.refl w).alloc _
  have hb0 : w0.heap[N]? = some (.cells #[.bool ideal, uv st, .int .i64 (M.draws : Int), .slice qa M.qs.length qc, .slice sa sn sc, .slice pa pn pc] 38 (0, 0)) := by rw [hw0, hN]; exact heap_new _ _
  have HC : Hid (∀ v, Ext w0 v → (v.cell? ⟨N, 0, none⟩ = some (.bool ideal) ∧ v.cell? ⟨N, 2, none⟩ = some (.int .i64 (M.draws : Int)) ∧ v.cell? ⟨N, 3, none⟩ = some (.slice qa M.qs.length qc))) := hid fun v k => by
    obtain ⟨c0, -, c2, c3, -⟩ := six_cellsP (k.heap_some hb0)
    exact ⟨c0, c2, c3⟩
  have HW := hid hw0
  have HX0 := hid hx0
  have HDR := hid ((h.ext hx0).ext (Ext.refl w0).drew).draws35
  have HQS := hid (Questions_any ((h.ext hx0).ext (Ext.refl w0).drew) hq hE)
  have hbd : ((M.draws : Int) == (M.draws : Int)) = true := by simp
  have hbq : ((M.qs.length : Int) == (M.qs.length : Int)) = true := by simp
  clear hw0 hx0 hb0 h hq hE
  go_enter Tryz.func10, Tryz.ntmps10
  go_upto_region 1 with fail
  rw [← HW.out, ← hN]
  clear hN
  cases ideal with
  | true =>
    refine wp_region_T (fun v => (v.cell? ⟨N, 0, none⟩ = some (.bool true) ∧ v.cell? ⟨N, 2, none⟩ = some (.int .i64 (M.draws : Int)) ∧ v.cell? ⟨N, 3, none⟩ = some (.slice qa M.qs.length qc)) ∧ Ext w0 v) 18 [(0, true), (2, true), (3, true), (4, true), (1, false), (5, true), (6, true), (7, true), (8, true), (9, true), (10, true), (11, true), (14, true), (15, true), (16, true), (17, true), (12, false), (13, true), (18, false), (19, false), (20, false), (21, false)] (by kernel_rfl) (by kernel_rfl) (by intro c a d v w h; cases d <;> exact h) ?_
    intro ops hops
    have HS := keep0 HC.out
    iterate 4
      refine wpT_take (v := ?_) (by rw [hops, List.getElem?_toArray]; rfl) (by first | rfl | (rw [hops]; rfl)) ?_ HS ?_
      rotate_left
      · intro v h; go_simp; with_reducible rfl
      simp only [Act.put, List.getElem_toArray, List.getElem_cons_zero, List.getElem_cons_succ, List.setIfInBounds_toArray, List.set_cons_zero, List.set_cons_succ]
    refine wpT_step (by rw [hops, List.getElem?_toArray]; rfl) (by first | rfl | (rw [hops]; rfl)) ?_
    intro K hK
    go_wp2_with fail
    refine HDR.out.mono ?_
    rintro e w1 ⟨rfl, rfl⟩
    refine hK _ _ ⟨fun _ => HS, ?_⟩
    clear hK K
    iterate 11
      first
        | (refine wpT_take (v := ?_) (by rw [hops, List.getElem?_toArray]; rfl) (by first | rfl | (rw [hops]; rfl)) ?_ HS ?_
           rotate_left
           · intro v h; go_simp; with_reducible rfl
           simp only [Act.put, List.getElem_toArray, List.getElem_cons_zero, List.getElem_cons_succ, List.setIfInBounds_toArray, List.set_cons_zero, List.set_cons_succ])
        | (refine wpT_pass (by rw [hops, List.getElem?_toArray]; rfl) (by first | rfl | (rw [hops]; rfl)) HS ?_
           simp only [Act.put, List.getElem_toArray, List.getElem_cons_zero, List.getElem_cons_succ, List.setIfInBounds_toArray, List.set_cons_zero, List.set_cons_succ])
    refine wpT_step (by rw [hops, List.getElem?_toArray]; rfl) (by first | rfl | (rw [hops]; rfl)) ?_
    intro K hK
    go_wp2_with fail
    refine HQS.out.mono ?_
    rintro e w1 ⟨v, Q, rfl, hQ, hown, -, hx, -⟩
    obtain ⟨va, vc, rfl, -⟩ := ownsRow_rd hown
    have hQl : Q.length = M.qs.length := by rw [← hQ, List.length_map]
    rw [hQl]
    have HS1 := keepE HC.out HS hx
    have HX1 := hid (HX0.out.trans HS1.2)
    clear hown hx hQ hQl
    refine hK _ _ ⟨fun _ => HS1, ?_⟩
    clear hK K
    iterate 1
      refine wpT_take (v := ?_) (by rw [hops, List.getElem?_toArray]; rfl) (by first | rfl | (rw [hops]; rfl)) ?_ HS1 ?_
      rotate_left
      · intro v h; go_simp; with_reducible rfl
      simp only [Act.put, List.getElem_toArray, List.getElem_cons_zero, List.getElem_cons_succ, List.setIfInBounds_toArray, List.set_cons_zero, List.set_cons_succ]
    clear HS HS1
    refine wpT_step (by rw [hops, List.getElem?_toArray]; rfl) (by first | rfl | (rw [hops]; rfl)) ?_
    intro K hK
    go_wp2_with fail
    try (with_reducible refine ⟨fun h => absurd h (by decide), ?_⟩)
    try rw [← hops]
    refine wpT_step (by rw [hops, List.getElem?_toArray]; rfl) (by first | rfl | (rw [hops]; rfl)) ?_
    intro K hK
    go_wp2_with fail
    try (with_reducible refine ⟨fun h => absurd h (by decide), ?_⟩)
    try rw [← hops]
    refine wpT_step (by rw [hops, List.getElem?_toArray]; rfl) (by first | rfl | (rw [hops]; rfl)) ?_
    intro K hK
    go_wp2_with fail
    try (with_reducible refine ⟨fun h => absurd h (by decide), ?_⟩)
    try rw [← hops]
    refine wpT_step (by rw [hops, List.getElem?_toArray]; rfl) (by first | rfl | (rw [hops]; rfl)) ?_
    intro K hK
    go_wp2_with fail
    try (with_reducible refine ⟨fun h => absurd h (by decide), ?_⟩)
    try rw [wpT_nil]
    try clear hops ops
    go_wp2_with fail
    go_ret
    exact ⟨rfl, HX1.out⟩
  | false =>
    clear HQS
    refine wp_region_T (fun v => (v.cell? ⟨N, 0, none⟩ = some (.bool false) ∧ v.cell? ⟨N, 2, none⟩ = some (.int .i64 (M.draws : Int)) ∧ v.cell? ⟨N, 3, none⟩ = some (.slice qa M.qs.length qc)) ∧ Ext w0 v) 18 [(0, true), (2, true), (3, true), (4, true), (1, false), (5, true), (6, true), (7, true), (8, true), (9, true), (10, true), (11, true), (14, true), (15, true), (16, true), (17, true), (12, false), (13, true), (18, false), (19, false), (20, false), (21, false)] (by kernel_rfl) (by kernel_rfl) (by intro c a d v w h; cases d <;> exact h) ?_
    intro ops hops
    have HS := keep0 HC.out
    iterate 4
      refine wpT_take (v := ?_) (by rw [hops, List.getElem?_toArray]; rfl) (by first | rfl | (rw [hops]; rfl)) ?_ HS ?_
      rotate_left
      · intro v h; go_simp; with_reducible rfl
      simp only [Act.put, List.getElem_toArray, List.getElem_cons_zero, List.getElem_cons_succ, List.setIfInBounds_toArray, List.set_cons_zero, List.set_cons_succ]
    refine wpT_step (by rw [hops, List.getElem?_toArray]; rfl) (by first | rfl | (rw [hops]; rfl)) ?_
    intro K hK
    go_wp2_with fail
    refine HDR.out.mono ?_
    rintro e w1 ⟨rfl, rfl⟩
    refine hK _ _ ⟨fun _ => HS, ?_⟩
    clear hK K
    iterate 11
      first
        | (refine wpT_take (v := ?_) (by rw [hops, List.getElem?_toArray]; rfl) (by first | rfl | (rw [hops]; rfl)) ?_ HS ?_
           rotate_left
           · intro v h; go_simp; with_reducible rfl
           simp only [Act.put, List.getElem_toArray, List.getElem_cons_zero, List.getElem_cons_succ, List.setIfInBounds_toArray, List.set_cons_zero, List.set_cons_succ])
        | (refine wpT_pass (by rw [hops, List.getElem?_toArray]; rfl) (by first | rfl | (rw [hops]; rfl)) HS ?_
           simp only [Act.put, List.getElem_toArray, List.getElem_cons_zero, List.getElem_cons_succ, List.setIfInBounds_toArray, List.set_cons_zero, List.set_cons_succ])
    refine wpT_none (by rw [hops, List.getElem?_toArray]; rfl) (by first | rfl | (rw [hops]; rfl)) ⟨fun _ => HS, ?_⟩
    simp only [Act.put, List.getElem_toArray, List.getElem_cons_zero, List.getElem_cons_succ, List.setIfInBounds_toArray, List.set_cons_zero, List.set_cons_succ]
    iterate 1
      first
        | (refine wpT_take (v := ?_) (by rw [hops, List.getElem?_toArray]; rfl) (by first | rfl | (rw [hops]; rfl)) ?_ HS ?_
           rotate_left
           · intro v h; go_simp; with_reducible rfl
           simp only [Act.put, List.getElem_toArray, List.getElem_cons_zero, List.getElem_cons_succ, List.setIfInBounds_toArray, List.set_cons_zero, List.set_cons_succ])
        | (refine wpT_pass (by rw [hops, List.getElem?_toArray]; rfl) (by first | rfl | (rw [hops]; rfl)) HS ?_
           simp only [Act.put, List.getElem_toArray, List.getElem_cons_zero, List.getElem_cons_succ, List.setIfInBounds_toArray, List.set_cons_zero, List.set_cons_succ])
    clear HS
    refine wpT_none (by rw [hops, List.getElem?_toArray]; rfl) (by first | rfl | (rw [hops]; rfl)) ⟨fun h => absurd h (by decide), ?_⟩
    simp only [Act.put, List.getElem_toArray, List.getElem_cons_zero, List.getElem_cons_succ, List.setIfInBounds_toArray, List.set_cons_zero, List.set_cons_succ]
    refine wpT_step (by rw [hops, List.getElem?_toArray]; rfl) (by first | rfl | (rw [hops]; rfl)) ?_
    intro K hK
    go_wp2_with fail
    try (with_reducible refine ⟨fun h => absurd h (by decide), ?_⟩)
    try rw [← hops]
    refine wpT_step (by rw [hops, List.getElem?_toArray]; rfl) (by first | rfl | (rw [hops]; rfl)) ?_
    intro K hK
    go_wp2_with fail
    try (with_reducible refine ⟨fun h => absurd h (by decide), ?_⟩)
    try rw [← hops]
    refine wpT_step (by rw [hops, List.getElem?_toArray]; rfl) (by first | rfl | (rw [hops]; rfl)) ?_
    intro K hK
    go_wp2_with fail
    try (with_reducible refine ⟨fun h => absurd h (by decide), ?_⟩)
    try rw [wpT_nil]
    try clear hops ops
    go_wp2_with fail
    go_ret
    exact ⟨rfl, HX0.out.drew⟩
end Go.Proofs.YtgfmjfkdogcnhaaGreat
