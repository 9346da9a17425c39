/- Peek of the oracle; Commitment and Marked of the note package; the reference's Note. -/
import Derived.Test.YtgfmjfkdogcnhaaGreatQs
set_option linter.unusedSimpArgs false
namespace Go.Proofs.YtgfmjfkdogcnhaaGreat
open Go.RowKit
attribute [local irreducible] perm fAdd fMul fPow fSub fNeg fRed

def PeekO (w : World) (M : Orc) (label : UInt64) (l : List UInt64) (e : Ending) (w' : World) : Prop :=
  e = .returned (.tuple #[uv (M.peek label l).1, .bool (M.peek label l).2]) ∧ Ext w w'
theorem add_four {C : World → Prop} {w w' : World} (H : ∀ v, Ext w v → C v) (k : Ext w w') : C w' ∧ Ext w w' := ⟨H _ k, k⟩

set_option maxRecDepth 100000 in
set_option maxHeartbeats 1600000 in
theorem Peek_any {w : World} {b : Nat} {M : Orc} {F : Nat → Prop} {label : UInt64} {lv : Value} {l : List UInt64} (h : OrcAt w b M F) (hl : RdU w lv l)
    (hL : l.length ≤ 1000000000000) (hq : M.qs.length ≤ 1000000000) :
    Calls Tryz.prog 61 #[.pointer (some ⟨b, 0, none⟩), uv label, lv] w (PeekO w M label l) := by
  have HH := hid h
  have HL := hid hl
  have HLL := hid hL
  have HQ := hid hq
  clear h hl hL hq
  go_enter Tryz.func61, Tryz.ntmps61
  go_wp2_with fail
  refine (elements_any lv l _ HL.out HLL.out).mono ?_
  rintro e w' ⟨rfl, rfl⟩
  by_cases hE : allE l = true
  case neg =>
    have hE2 : allE l = false := by simpa using hE
    rw [hE2]
    go_wp2_with fail
    exact bodyPost_ret (v := .tuple #[.int .u64 0, .bool false]) (by simp [results, Tryz.results61, go_sem]) rfl ⟨by simp [Orc.peek, hE2], Ext.refl _⟩
  rw [hE]
  obtain ⟨qv, mk, ms, mp, Q, S, hin⟩ := HH.out
  obtain ⟨c0, -, -, c3, c4, -⟩ := self_cells hin.self
  have hlk : ∀ v, Ext w v → (Instr.lookup 100 (.map (some mk)) (.string (keyS [label] l)) true).run Tryz.prog v = .ok (.tuple #[(assoc (knownL M.qs) (keyS [label] l)).getD (.int .i64 0), .bool (assoc (knownL M.qs) (keyS [label] l)).isSome]) v := fun v k =>
    run_lookup (P := Tryz.prog) keyStr v 100 9 3 (.int .i64 0) (by kernel_rfl) (by kernel_rfl) (zero_int v) mk _ (hin.ext k).known (keyS [label] l)
  have H4 : ∀ v, Ext w v → v.cell? ⟨b, 4, none⟩ = some (.map (some mk)) := fun v k => k.cell_some c4
  have HC0 := hid c0
  have HC3 := hid c3
  have HH4 := hid H4
  have HIN := hid hin
  clear c0 c3 c4 H4 hin
  rw [assoc_knownL] at hlk
  cases hf : findQ M.qs label l with
  | some i =>
    simp only [hf, Option.map_some, Option.getD_some, Option.isSome_some] at hlk
    have HLK := hid hlk
    have hi := findQ_lt hf
    have hQl : Q.length = M.qs.length := by rw [← HIN.out.qs, List.length_map]
    obtain ⟨⟨q, v⟩, hqi⟩ : ∃ x, Q[i]? = some x := ⟨_, List.getElem?_eq_getElem (by omega)⟩
    have hans : answerAt M.qs i = q.answer := by
      have : M.qs[i]? = some q := by rw [← HIN.out.qs, List.getElem?_map, hqi]; rfl
      simp [answerAt, this]
    have HANS := hid hans
    have HF := hid hf
    have HQI := hid hqi
    have hi2 : (i : Int) < (Q.length : Int) := by omega
    have hi1 : 0 ≤ (i : Int) := Int.natCast_nonneg _
    clear hans hf hi hQl hlk hqi
    go_wp2_with fail
    refine wp_region_T (fun v => v.cell? ⟨b, 4, none⟩ = some (.map (some mk)) ∧ Ext w v) 13 [(0, true), (1, true), (2, true), (3, true), (4, true), (5, true), (6, false), (7, false), (8, true), (9, true), (10, true), (11, true), (12, true), (13, false)] (by kernel_rfl) (by kernel_rfl) (by intro c a d v w h; cases d <;> exact h) ?_
    intro ops hops
    have HS := add_four HH4.out (Ext.refl w).drew
    iterate 6
      refine wpT_take (v := ?_) (by rw [hops, List.getElem?_toArray]; rfl) (by first | rfl | (rw [hops]; rfl)) ?_ HS ?_
      rotate_left
      · intro v h; go_simp; with_reducible rfl
      simp only [Act.put, List.getElem_toArray, List.getElem_cons_zero, List.getElem_cons_succ, List.setIfInBounds_toArray, List.set_cons_zero, List.set_cons_succ]
    refine wpT_step (by rw [hops, List.getElem?_toArray]; rfl) (by first | rfl | (rw [hops]; rfl)) ?_
    intro K hK
    go_wp2_with fail
    have hx1 := (Ext.refl w).drew.alloc (.cells #[uv label] 22)
    have HS1 := add_four HH4.out hx1
    refine ⟨fun _ => HS1, ?_⟩
    have hk1 : RdU (w.drew.alloc (.cells #[uv label] 22)) (.slice (some ⟨w.drew.heap.size, 0, none⟩) 1 1) [label] := (RdC.new1 w.drew (uv label) 22).rdu rfl
    have HX1 := hid hx1
    refine wpT_step (by rw [hops, List.getElem?_toArray]; rfl) (by first | rfl | (rw [hops]; rfl)) ?_
    intro K hK
    go_wp2_with fail
    refine (key_any _ _ l [label] _ (HL.out.ext HX1.out) hk1 HLL.out (by simp)).mono ?_
    rintro e w1 ⟨rfl, hx0⟩
    have hx2 := HX1.out.trans hx0
    have HS2 := add_four HH4.out hx2
    have HX2 := hid hx2
    clear hx0 hk1 HS1 HS hx1 hx2
    refine hK _ _ ⟨fun _ => HS2, ?_⟩
    clear hK K
    refine wpT_take (v := .tuple #[.int .i64 i, .bool true]) (by rw [hops, List.getElem?_toArray]; rfl) (by first | rfl | (rw [hops]; rfl)) ?_ HS2 ?_
    · intro v h; go_simp; (rw [HLK.out _ h.2]; rfl)
    simp only [Act.put, List.getElem_toArray, List.getElem_cons_zero, List.getElem_cons_succ, List.setIfInBounds_toArray, List.set_cons_zero, List.set_cons_succ]
    iterate 4
      refine wpT_take (v := ?_) (by rw [hops, List.getElem?_toArray]; rfl) (by first | rfl | (rw [hops]; rfl)) ?_ HS2 ?_
      rotate_left
      · intro v h; go_simp; with_reducible rfl
      simp only [Act.put, List.getElem_toArray, List.getElem_cons_zero, List.getElem_cons_succ, List.setIfInBounds_toArray, List.set_cons_zero, List.set_cons_succ]
    obtain ⟨g, cap, rfl, hcap1, hcap2, -, -, hca⟩ := (HIN.out.ext HX2.out).q_at HQI.out
    have hc3 := HX2.out.cell_some HC3.out
    refine wpT_step (by rw [hops, List.getElem?_toArray]; rfl) (by first | rfl | (rw [hops]; rfl)) ?_
    intro K hK
    go_wp2_with fail
    refine ⟨fun h => absurd h (by decide), ?_⟩
    rw [wpT_nil]
    clear hops ops
    clear HS2
    go_wp2_with fail
    exact bodyPost_ret (v := .tuple #[uv q.answer, .bool true]) (by simp [results, Tryz.results61, go_sem]) rfl ⟨by simp [Orc.peek, hE, HF.out, HANS.out], HX2.out⟩
  | none =>
    simp only [hf, Option.map_none, Option.getD_none, Option.isSome_none] at hlk
    have HLK := hid hlk
    have HF := hid hf
    clear hf hlk
    cases hI : M.ideal with
    | true =>
      rw [hI] at HC0
      have HI := hid hI
      clear hI
      go_wp2_with fail
      refine wp_region_T (fun v => v.cell? ⟨b, 4, none⟩ = some (.map (some mk)) ∧ Ext w v) 13 [(0, true), (1, true), (2, true), (3, true), (4, true), (5, true), (6, false), (7, false), (8, true), (9, true), (10, true), (11, true), (12, true), (13, false)] (by kernel_rfl) (by kernel_rfl) (by intro c a d v w h; cases d <;> exact h) ?_
      intro ops hops
      have HS := add_four HH4.out (Ext.refl w).drew
      iterate 6
        refine wpT_take (v := ?_) (by rw [hops, List.getElem?_toArray]; rfl) (by first | rfl | (rw [hops]; rfl)) ?_ HS ?_
        rotate_left
        · intro v h; go_simp; with_reducible rfl
        simp only [Act.put, List.getElem_toArray, List.getElem_cons_zero, List.getElem_cons_succ, List.setIfInBounds_toArray, List.set_cons_zero, List.set_cons_succ]
      refine wpT_step (by rw [hops, List.getElem?_toArray]; rfl) (by first | rfl | (rw [hops]; rfl)) ?_
      intro K hK
      go_wp2_with fail
      have hx1 := (Ext.refl w).drew.alloc (.cells #[uv label] 22)
      have HS1 := add_four HH4.out hx1
      refine ⟨fun _ => HS1, ?_⟩
      have hk1 : RdU (w.drew.alloc (.cells #[uv label] 22)) (.slice (some ⟨w.drew.heap.size, 0, none⟩) 1 1) [label] := (RdC.new1 w.drew (uv label) 22).rdu rfl
      have HX1 := hid hx1
      refine wpT_step (by rw [hops, List.getElem?_toArray]; rfl) (by first | rfl | (rw [hops]; rfl)) ?_
      intro K hK
      go_wp2_with fail
      refine (key_any _ _ l [label] _ (HL.out.ext HX1.out) hk1 HLL.out (by simp)).mono ?_
      rintro e w1 ⟨rfl, hx0⟩
      have hx2 := HX1.out.trans hx0
      have HS2 := add_four HH4.out hx2
      have HX2 := hid hx2
      clear hx0 hk1 HS1 HS hx1 hx2
      refine hK _ _ ⟨fun _ => HS2, ?_⟩
      clear hK K
      refine wpT_take (v := .tuple #[.int .i64 0, .bool false]) (by rw [hops, List.getElem?_toArray]; rfl) (by first | rfl | (rw [hops]; rfl)) ?_ HS2 ?_
      · intro v h; go_simp; (rw [HLK.out _ h.2]; rfl)
      simp only [Act.put, List.getElem_toArray, List.getElem_cons_zero, List.getElem_cons_succ, List.setIfInBounds_toArray, List.set_cons_zero, List.set_cons_succ]
      iterate 4
        refine wpT_take (v := ?_) (by rw [hops, List.getElem?_toArray]; rfl) (by first | rfl | (rw [hops]; rfl)) ?_ HS2 ?_
        rotate_left
        · intro v h; go_simp; with_reducible rfl
        simp only [Act.put, List.getElem_toArray, List.getElem_cons_zero, List.getElem_cons_succ, List.setIfInBounds_toArray, List.set_cons_zero, List.set_cons_succ]
      have hc0 := HX2.out.cell_some HC0.out
      refine wpT_step (by rw [hops, List.getElem?_toArray]; rfl) (by first | rfl | (rw [hops]; rfl)) ?_
      intro K hK
      go_wp2_with fail
      refine ⟨fun h => absurd h (by decide), ?_⟩
      rw [wpT_nil]
      clear hops ops
      clear HS2
      go_wp2_with fail
      exact bodyPost_ret (v := .tuple #[.int .u64 0, .bool false]) (by simp [results, Tryz.results61, go_sem]) rfl ⟨by simp [Orc.peek, hE, HF.out, HI.out], HX2.out⟩
    | false =>
      rw [hI] at HC0
      have HI := hid hI
      clear hI
      go_wp2_with fail
      refine wp_region_T (fun v => v.cell? ⟨b, 4, none⟩ = some (.map (some mk)) ∧ Ext w v) 13 [(0, true), (1, true), (2, true), (3, true), (4, true), (5, true), (6, false), (7, false), (8, true), (9, true), (10, true), (11, true), (12, true), (13, false)] (by kernel_rfl) (by kernel_rfl) (by intro c a d v w h; cases d <;> exact h) ?_
      intro ops hops
      have HS := add_four HH4.out (Ext.refl w).drew
      iterate 6
        refine wpT_take (v := ?_) (by rw [hops, List.getElem?_toArray]; rfl) (by first | rfl | (rw [hops]; rfl)) ?_ HS ?_
        rotate_left
        · intro v h; go_simp; with_reducible rfl
        simp only [Act.put, List.getElem_toArray, List.getElem_cons_zero, List.getElem_cons_succ, List.setIfInBounds_toArray, List.set_cons_zero, List.set_cons_succ]
      refine wpT_step (by rw [hops, List.getElem?_toArray]; rfl) (by first | rfl | (rw [hops]; rfl)) ?_
      intro K hK
      go_wp2_with fail
      have hx1 := (Ext.refl w).drew.alloc (.cells #[uv label] 22)
      have HS1 := add_four HH4.out hx1
      refine ⟨fun _ => HS1, ?_⟩
      have hk1 : RdU (w.drew.alloc (.cells #[uv label] 22)) (.slice (some ⟨w.drew.heap.size, 0, none⟩) 1 1) [label] := (RdC.new1 w.drew (uv label) 22).rdu rfl
      have HX1 := hid hx1
      refine wpT_step (by rw [hops, List.getElem?_toArray]; rfl) (by first | rfl | (rw [hops]; rfl)) ?_
      intro K hK
      go_wp2_with fail
      refine (key_any _ _ l [label] _ (HL.out.ext HX1.out) hk1 HLL.out (by simp)).mono ?_
      rintro e w1 ⟨rfl, hx0⟩
      have hx2 := HX1.out.trans hx0
      have HS2 := add_four HH4.out hx2
      have HX2 := hid hx2
      clear hx0 hk1 HS1 HS hx1 hx2
      refine hK _ _ ⟨fun _ => HS2, ?_⟩
      clear hK K
      refine wpT_take (v := .tuple #[.int .i64 0, .bool false]) (by rw [hops, List.getElem?_toArray]; rfl) (by first | rfl | (rw [hops]; rfl)) ?_ HS2 ?_
      · intro v h; go_simp; (rw [HLK.out _ h.2]; rfl)
      simp only [Act.put, List.getElem_toArray, List.getElem_cons_zero, List.getElem_cons_succ, List.setIfInBounds_toArray, List.set_cons_zero, List.set_cons_succ]
      iterate 4
        refine wpT_take (v := ?_) (by rw [hops, List.getElem?_toArray]; rfl) (by first | rfl | (rw [hops]; rfl)) ?_ HS2 ?_
        rotate_left
        · intro v h; go_simp; with_reducible rfl
        simp only [Act.put, List.getElem_toArray, List.getElem_cons_zero, List.getElem_cons_succ, List.setIfInBounds_toArray, List.set_cons_zero, List.set_cons_succ]
      have hc0 := HX2.out.cell_some HC0.out
      refine wpT_step (by rw [hops, List.getElem?_toArray]; rfl) (by first | rfl | (rw [hops]; rfl)) ?_
      intro K hK
      go_wp2_with fail
      refine ⟨fun h => absurd h (by decide), ?_⟩
      rw [wpT_nil]
      clear hops ops
      clear HS2
      go_wp2_with fail
      refine (Hash_any 18446744069414584321 big_is label lv l w1 (HL.out.ext HX2.out) (le15 HLL.out)).mono ?_
      rintro e w2 ⟨rfl, hx2⟩
      have HX3 := hid (HX2.out.trans hx2)
      clear hx2
      go_wp2_with fail
      exact bodyPost_ret (v := .tuple #[uv (hashU label l), .bool true]) (by simp [results, Tryz.results61, go_sem]) rfl ⟨by simp [Orc.peek, hE, HF.out, HI.out], HX3.out⟩
end Go.Proofs.YtgfmjfkdogcnhaaGreat
