/- Hash, Peek, Program of the oracle. -/
import Derived.Test.YtgfmjfkdogcnhaaGreatRec
import Derived.Test.YtgfmjfkdogcnhaaGreatSponge
set_option linter.unusedSimpArgs false
namespace Go.Proofs.YtgfmjfkdogcnhaaGreat
open Go.RowKit
attribute [local irreducible] perm fAdd fMul fPow fSub fNeg fRed

theorem OrcTo.of_ext {w w' : World} {b : Nat} {M : Orc} {F : Nat → Prop} (h : OrcAt w b M F) (k : Ext w w') : OrcTo w b F M w' F :=
  ⟨h.ext k, .of_ext k, fun _ h => .inl h, fun _ h => h⟩
/-- An operation, then a call that only grew the heap, and the other way about. -/
theorem OrcTo.ext {w w1 w2 : World} {b : Nat} {M : Orc} {F F' : Nat → Prop} (h : OrcTo w b F M w1 F') (k : Ext w1 w2) : OrcTo w b F M w2 F' :=
  ⟨h.at'.ext k, h.kp.ext k, h.new, h.old⟩
theorem OrcTo.pre {w w1 w2 : World} {b : Nat} {M : Orc} {F F' : Nat → Prop} (k : Ext w w1) (h : OrcTo w1 b F M w2 F') : OrcTo w b F M w2 F' :=
  ⟨h.at', (Kp.of_ext k).trans h.kp, fun i hi => (h.new i hi).imp id fun hs => Nat.le_trans k.size hs, h.old⟩
theorem OrcTo.trans {w w1 w2 : World} {b : Nat} {M M' : Orc} {F F' F'' : Nat → Prop} (h : OrcTo w b F M w1 F') (k : OrcTo w1 b F' M' w2 F'') : OrcTo w b F M' w2 F'' where
  at' := k.at'
  kp := h.kp.trans2 k.kp fun i hi hF => by
    rcases h.new i hF with h | h
    · exact h
    · omega
  new i hi := by
    rcases k.new i hi with h1 | h1
    · exact h.new i h1
    · exact .inr (Nat.le_trans h.kp.size h1)
  old i hi := k.old i (h.old i hi)

theorem qCells_at : ∀ (Q : List (Qn × Value)) (i : Nat) (q : Qn) (v : Value), Q[i]? = some (q, v) → (qCells Q)[i * 3]? = some (uv q.label) ∧ (qCells Q)[i * 3 + 1]? = some v ∧ (qCells Q)[i * 3 + 2]? = some (uv q.answer)
  | [], i, q, v, h => by simp at h
  | x :: r, 0, q, v, h => by
    simp only [List.getElem?_cons_zero, Option.some.injEq] at h
    subst h
    simp [qCells]
  | x :: r, i + 1, q, v, h => by
    have := qCells_at r i q v (by simpa using h)
    have e : qCells (x :: r) = uv x.1.label :: x.2 :: uv x.1.answer :: qCells r := rfl
    rw [e, show (i + 1) * 3 = i * 3 + 1 + 1 + 1 from by omega, show i * 3 + 1 + 1 + 1 + 1 = (i * 3 + 1) + 1 + 1 + 1 from by omega, show i * 3 + 1 + 1 + 1 + 2 = (i * 3 + 2) + 1 + 1 + 1 from by omega]
    simp only [List.getElem?_cons_succ]
    exact this
/-- The cells of question number i. -/
theorem OrcIn.q_at {w : World} {b : Nat} {M : Orc} {F : Nat → Prop} {qv : Value} {mk ms mp : Nat} {Q : List (Qn × Value)} {S : List (Sl × Value)} (h : OrcIn w b M F qv mk ms mp Q S) {i : Nat} {q : Qn} {v : Value} (hq : Q[i]? = some (q, v)) :
    ∃ g cap, qv = .slice (some ⟨g, 0, none⟩) Q.length cap ∧ Q.length ≤ cap ∧ cap ≤ maxLen ∧ w.cell? ⟨g, i * 3, none⟩ = some (uv q.label) ∧ w.cell? ⟨g, i * 3 + 1, none⟩ = some v ∧ w.cell? ⟨g, i * 3 + 2, none⟩ = some (uv q.answer) := by
  have hi : i < Q.length := (List.getElem?_eq_some_iff.1 hq).1
  rcases h.qown.2 with ⟨_, h0⟩ | ⟨g, cap, cur, rfl, _, hg, hnc, hcm, hcs, ht⟩
  · omega
  · obtain ⟨h1, h2, h3⟩ := qCells_at Q i q v hq
    have key : ∀ j u, j < Q.length * 3 → (qCells Q)[j]? = some u → w.cell? ⟨g, j, none⟩ = some u := by
      intro j u hj hu
      rw [cell_of hg]
      rw [← ht, List.getElem?_take, if_pos hj] at hu
      simpa using hu
    exact ⟨g, cap, rfl, hnc, hcm, key _ _ (by omega) h1, key _ _ (by omega) h2, key _ _ (by omega) h3⟩

theorem le15 {n : Nat} (h : n ≤ 1000000000000) : n ≤ 1000000000000000 := by omega
theorem big_is : IsBig 18446744069414584321 := rfl
theorem with_qs (M : Orc) (s : UInt64) (n : Nat) : ({ M with state := s, draws := n } : Orc).qs = M.qs := rfl
theorem with_ideal (M : Orc) (s : UInt64) (n : Nat) : ({ M with state := s, draws := n } : Orc).ideal = M.ideal := rfl
theorem with_seals (M : Orc) (s : UInt64) (n : Nat) : ({ M with state := s, draws := n } : Orc).seals = M.seals := rfl
theorem with_proofs (M : Orc) (s : UInt64) (n : Nat) : ({ M with state := s, draws := n } : Orc).proofs = M.proofs := rfl
theorem with_draws (M : Orc) (s : UInt64) (n : Nat) : ({ M with state := s, draws := n } : Orc).draws = n := rfl
theorem with_state (M : Orc) (s : UInt64) (n : Nat) : ({ M with state := s, draws := n } : Orc).state = s := rfl
theorem step_qs (M : Orc) : M.step.qs = M.qs := with_qs M _ _
theorem step_ideal (M : Orc) : M.step.ideal = M.ideal := with_ideal M _ _
theorem step_seals (M : Orc) : M.step.seals = M.seals := with_seals M _ _
theorem step_proofs (M : Orc) : M.step.proofs = M.proofs := with_proofs M _ _
theorem step_draws (M : Orc) : M.step.draws = M.draws + 1 := with_draws M _ _
theorem step_state (M : Orc) : M.step.state = nextState M.state := with_state M _ _
def HashO (w : World) (b : Nat) (M : Orc) (F : Nat → Prop) (label : UInt64) (l : List UInt64) (e : Ending) (w' : World) : Prop :=
  e = .returned (uv (M.hash label l).1) ∧ ∃ F', OrcTo w b F (M.hash label l).2 w' F'
theorem zero_int (w : World) : (zeroValue 3).run Tryz.prog w = .ok (.int .i64 0) w := by
  have h : (Tryz.prog.info? 3).map (fun i => i.zero) = some (some (.int .i64 0)) := by kernel_rfl
  obtain ⟨i, hi, hz⟩ := Option.map_eq_some_iff.1 h
  simp [zeroValue, typeInfo, Sem.run_bind, hi, hz, go_sem]

set_option maxRecDepth 100000 in
set_option maxHeartbeats 1600000 in
theorem Hash_orc {w : World} {b : Nat} {M : Orc} {F : Nat → Prop} {label : UInt64} {lv : Value} {l : List UInt64} (h : OrcAt w b M F) (hl : RdU w lv l) (hlf : ∀ k, blk lv = some k → ¬ F k)
    (hL : l.length ≤ 1000000000000) (hq : M.qs.length ≤ 1000000000) (hn : M.draws ≤ 1000000000000) :
    Calls Tryz.prog 41 #[.pointer (some ⟨b, 0, none⟩), uv label, lv] w (HashO w b M F label l) := by
  have HH := hid h
  have HL := hid hl
  have HLF := hid hlf
  have HLL := hid hL
  have HQ := hid hq
  have HD := hid hn
  clear h hl hlf hL hq hn
  go_enter Tryz.func41, Tryz.ntmps41
  go_wp2_with fail
  refine (elements_any lv l _ HL.out HLL.out).mono ?_
  rintro e w' ⟨rfl, rfl⟩
  by_cases hE : allE l = true
  case neg =>
    have hE2 : allE l = false := by simpa using hE
    rw [hE2]
    go_wp2_with fail
    go_ret
    refine ⟨by simp [Orc.hash, hE2], F, ?_⟩
    simp only [Orc.hash, hE2, Bool.false_eq_true, if_false]
    exact .of_ext HH.out (Ext.refl _)
  rw [hE]
  go_wp2_with fail
  have hk1 : RdU (w.alloc (.cells #[uv label] 22)) (.slice (some ⟨w.heap.size, 0, none⟩) 1 1) [label] := (RdC.new1 w (uv label) 22).rdu rfl
  refine (key_any _ _ l [label] _ (HL.out.ext ((Ext.refl _).alloc _)) hk1 HLL.out (by simp)).mono ?_
  rintro e w1 ⟨rfl, hx0⟩
  have hx := ((Ext.refl w).alloc (.cells #[uv label] 22)).trans hx0
  clear hx0 hk1
  obtain ⟨qv, mk, ms, mp, Q, S, hin⟩ := HH.out.ext hx
  obtain ⟨c0, -, -, c3, c4, -⟩ := self_cells hin.self
  have hfz := frozen_of hin.self
  have HX := hid hx
  have HIN := hid hin
  clear hx hin
  go_wp2_with fail
  have hlk := run_lookup (P := Tryz.prog) keyStr w1 100 9 3 (.int .i64 0) (by kernel_rfl) (by kernel_rfl) (zero_int w1) mk _ HIN.out.known (keyS [label] l)
  rw [assoc_knownL] at hlk
  cases hf : findQ M.qs label l with
  | some i =>
    simp only [hf, Option.map_some, Option.getD_some, Option.isSome_some] at hlk
    rw [hlk]
    have hi := findQ_lt hf
    have hQl : Q.length = M.qs.length := by rw [← HIN.out.qs, List.length_map]
    obtain ⟨⟨q, v⟩, hqi⟩ : ∃ x, Q[i]? = some x := ⟨_, List.getElem?_eq_getElem (by omega)⟩
    obtain ⟨g, cap, rfl, hcap1, hcap2, -, -, hca⟩ := HIN.out.q_at hqi
    have hans : answerAt M.qs i = q.answer := by
      have : M.qs[i]? = some q := by rw [← HIN.out.qs, List.getElem?_map, hqi]; rfl
      simp [answerAt, this]
    have HANS := hid hans
    have HF := hid hf
    have hi2 : (i : Int) < (Q.length : Int) := by omega
    have hi1 : 0 ≤ (i : Int) := Int.natCast_nonneg _
    clear hans hf hi hQl hlk hqi
    go_wp2_with fail
    go_ret
    refine ⟨by simp [Orc.hash, hE, HF.out, HANS.out], F, ?_⟩
    simp only [Orc.hash, hE, HF.out, if_true]
    exact .of_ext HH.out HX.out
  | none =>
    simp only [hf, Option.map_none, Option.getD_none, Option.isSome_none] at hlk
    rw [hlk]
    have HF := hid hf
    have hnew : assoc (knownL M.qs) (keyS [label] l) = none := by rw [assoc_knownL, hf]; rfl
    have HN := hid hnew
    clear hf hlk hnew
    have hin0 := HIN.out.self
    cases hI : M.ideal with
    | true =>
      rw [hI] at c0 hin0
      have HI := hid hI
      have HIN0 := hid hin0
      clear hI hin0
      go_wp2_with fail
      refine (Draw_ideal HIN0.out HD.out).mono ?_
      rintro e w2 ⟨rfl, hs2, hk2⟩
      have hin2 : OrcIn w2 b M.step F qv mk ms mp Q S := HIN.out.drawn (by rw [HI.out]; exact hs2) hk2
      have HIN2 := hid hin2
      have HK2 := hid hk2
      clear hs2 hin2 hk2 c0 c3 c4 hfz
      go_wp2_with fail
      have hbF : ∀ k, blk lv = some k → k ≠ b := fun k hk h => HLF.out k hk (h ▸ HH.out.self_in)
      refine (record_any (M := M.step) ⟨qv, mk, ms, mp, Q, S, HIN2.out⟩ (a := drawOf M.state) ((HL.out.ext HX.out).kp HK2.out hbF) HLF.out HLL.out (by rw [step_qs]; exact HQ.out) (by rw [step_qs]; exact HN.out)).mono ?_
      rintro e w3 ⟨rfl, F', hto⟩
      have HTO := hid hto
      clear hto
      go_wp2_with fail
      go_ret
      have hto : OrcTo w b F (M.step.add label l (drawOf M.state)) w3 F' := by
        have h3 := HTO.out
        exact ⟨h3.at', ((Kp.of_ext HX.out).trans2 HK2.out (by rintro i - rfl; exact HH.out.self_in)).trans h3.kp, fun k hk => (h3.new k hk).imp id fun h => Nat.le_trans (Nat.le_trans HX.out.size HK2.out.size) h, h3.old⟩
      refine ⟨by simp [Orc.hash, hE, HF.out, HI.out], F', ?_⟩
      simp only [Orc.hash, hE, HF.out, HI.out, if_true]
      exact hto
    | false =>
      rw [hI] at c0 hin0
      have HI := hid hI
      clear hI hin0
      go_wp2_with fail
      refine (Hash_any 18446744069414584321 big_is label lv l w1 (HL.out.ext HX.out) (le15 HLL.out)).mono ?_
      rintro e w2 ⟨rfl, hx2⟩
      have HX2 := hid hx2
      clear hx2 c0 c3 c4 hfz
      go_wp2_with fail
      refine (record_any ⟨qv, mk, ms, mp, Q, S, HIN.out.ext HX2.out⟩ (HL.out.ext (HX.out.trans HX2.out)) HLF.out HLL.out HQ.out HN.out).mono ?_
      rintro e w3 ⟨rfl, F', hto⟩
      have HTO := hid hto
      clear hto
      go_wp2_with fail
      go_ret
      have hto : OrcTo w b F (M.add label l (hashU label l)) w3 F' := HTO.out.pre (HX.out.trans HX2.out)
      refine ⟨by simp [Orc.hash, hE, HF.out, HI.out], F', ?_⟩
      simp only [Orc.hash, hE, HF.out, HI.out, if_true, Bool.false_eq_true, if_false]
      exact hto
end Go.Proofs.YtgfmjfkdogcnhaaGreat
