/- Collision of the oracle. -/
import Derived.Test.YtdpgfjnpcjpdpaaQs
set_option linter.unusedSimpArgs false
namespace Go.Proofs.Ytdpgfjnpcjpdpaa
open Go.RowKit
attribute [local irreducible] perm fAdd fMul fPow fSub fNeg fRed

def noColl (qs : List Qn) (k : Nat) : Prop := ∀ i, i < k → ∀ a b, qs[i]? = some a → qs[k]? = some b → a.answer ≠ b.answer
def firsts (qs : List Qn) : List (UInt64 × Value) := qs.zipIdx.map fun x => (x.1.answer, Value.int .i64 (x.2 : Int))
theorem firsts_at (qs : List Qn) (a : UInt64) : ∀ n : Nat, assoc ((qs.zipIdx n).map fun x => (x.1.answer, Value.int .i64 (x.2 : Int))) a = (qs.findIdx? fun q => q.answer == a).map fun (i : Nat) => Value.int .i64 ((n + i : Nat) : Int) := by
  induction qs with
  | nil => intro n; rfl
  | cons q r ih =>
    intro n
    simp only [List.zipIdx_cons, List.map_cons, assoc, List.findIdx?_cons]
    cases q.answer == a with
    | true => simp
    | false =>
      simp only [Bool.false_eq_true, if_false]
      rw [ih (n + 1), Option.map_map]
      congr 1
      funext i
      simp only [Function.comp]
      congr 1
      omega
theorem assoc_firsts (qs : List Qn) (a : UInt64) : assoc (firsts qs) a = (qs.findIdx? fun q => q.answer == a).map fun (i : Nat) => Value.int .i64 (i : Int) := by
  unfold firsts
  rw [show qs.zipIdx = qs.zipIdx 0 from rfl, firsts_at qs a 0]
  congr 1
  funext i
  rw [Nat.zero_add]
theorem firsts_snoc (qs : List Qn) (q : Qn) : firsts (qs ++ [q]) = firsts qs ++ [(q.answer, Value.int .i64 (qs.length : Int))] := by
  simp [firsts, List.zipIdx_append]
def CollO (w : World) (qs : List Qn) (e : Ending) (w' : World) : Prop :=
  (∃ i j a b va vb, i < j ∧ qs[i]? = some a ∧ qs[j]? = some b ∧ a.answer = b.answer ∧ (∀ k, k < j → noColl qs k) ∧
    e = .returned (.tuple #[.agg #[uv a.label, va, uv a.answer], .agg #[uv b.label, vb, uv b.answer], .bool true]) ∧ RdU w' va a.elems ∧ RdU w' vb b.elems ∧ Ext w w') ∨
  ((∀ k, k < qs.length → noColl qs k) ∧ e = .returned (.tuple #[.agg #[.int .u64 0, .slice none 0 0, .int .u64 0], .agg #[.int .u64 0, .slice none 0 0, .int .u64 0], .bool false]) ∧ Ext w w')

theorem mk_map (n : Int) (w : World) : (Instr.makeMap 135 (some (.int .i64 n))).run Try.prog w = .ok (.map (some w.heap.size)) (w.alloc (.map #[] 0)) := by
  have h : Try.prog.underlying 135 = some (.map 28 3) := by kernel_rfl
  simp [Instr.makeMap, run_underlying h, asInt, newObj, go_sem]
  rfl
abbrev keyOf : UInt64 → Value := fun x => .int .u64 (x.toNat : Int)

theorem six_cells {w : World} {N : Nat} {x y z x' y' z' : Value} {T T' : TypeId} (h0 : w.heap[N]? = some (.cells #[x, y, z] T (0, 0))) (h1 : w.heap[N + 1]? = some (.cells #[x', y', z'] T' (0, 0))) (a b c d e f : Value) :
    ((((((w.setCell ⟨N, 0, none⟩ a).setCell ⟨N, 1, none⟩ b).setCell ⟨N, 2, none⟩ c).setCell ⟨N + 1, 0, none⟩ d).setCell ⟨N + 1, 1, none⟩ e).setCell ⟨N + 1, 2, none⟩ f).heap[N]? = some (.cells #[a, b, c] T (0, 0)) ∧
    ((((((w.setCell ⟨N, 0, none⟩ a).setCell ⟨N, 1, none⟩ b).setCell ⟨N, 2, none⟩ c).setCell ⟨N + 1, 0, none⟩ d).setCell ⟨N + 1, 1, none⟩ e).setCell ⟨N + 1, 2, none⟩ f).heap[N + 1]? = some (.cells #[d, e, f] T' (0, 0)) ∧
    Kp (fun k => k = N ∨ k = N + 1) w ((((((w.setCell ⟨N, 0, none⟩ a).setCell ⟨N, 1, none⟩ b).setCell ⟨N, 2, none⟩ c).setCell ⟨N + 1, 0, none⟩ d).setCell ⟨N + 1, 1, none⟩ e).setCell ⟨N + 1, 2, none⟩ f) := by
  refine ⟨?_, ?_, ?_⟩
  · rw [heap_setCell_ne (by omega), heap_setCell_ne (by omega), heap_setCell_ne (by omega), heap_setCell_same (heap_setCell_same (heap_setCell_same h0 0 a) 1 b) 2 c]; rfl
  · have k1 : (((w.setCell ⟨N, 0, none⟩ a).setCell ⟨N, 1, none⟩ b).setCell ⟨N, 2, none⟩ c).heap[N + 1]? = some (.cells #[x', y', z'] T' (0, 0)) := by
      rw [heap_setCell_ne (by omega), heap_setCell_ne (by omega), heap_setCell_ne (by omega)]; exact h1
    rw [heap_setCell_same (heap_setCell_same (heap_setCell_same k1 0 d) 1 e) 2 f]; rfl
  · exact ((((((Kp.refl (fun k => k = N ∨ k = N + 1) w).setCell (p := ⟨N, 0, none⟩) (.inl (.inl rfl)) a).setCell (p := ⟨N, 1, none⟩) (.inl (.inl rfl)) b).setCell (p := ⟨N, 2, none⟩) (.inl (.inl rfl)) c).setCell (p := ⟨N + 1, 0, none⟩) (.inl (.inr rfl)) d).setCell (p := ⟨N + 1, 1, none⟩) (.inl (.inr rfl)) e).setCell (p := ⟨N + 1, 2, none⟩) (.inl (.inr rfl)) f
theorem cell_lift {w : World} {b : Nat} {c0 c1 c2 c3 c4 c5 c6 : Value} {T : TypeId} (h : w.heap[b]? = some (.cells #[c0, c1, c2, c3, c4, c5, c6] T (0, 0))) (o o' o'' : Obj) : (((w.alloc o).alloc o').alloc o'').cell? ⟨b, 3, none⟩ = some c3 :=
  ((((Ext.refl w).alloc o).alloc o').alloc o'').cell_some (self_cells h).2.2.2.1
set_option maxRecDepth 100000 in
set_option maxHeartbeats 3200000 in
theorem Collision_any {w : World} {b : Nat} {M : Orc} {F : Nat → Prop} (h : OrcAt w b M F) (hq : M.qs.length ≤ 1000000000) (hE : ∀ q ∈ M.qs, q.elems.length ≤ 1000000000000) :
    Calls Try.prog 29 #[.pointer (some ⟨b, 0, none⟩)] w (CollO w M.qs) := by
  have hmk := mk_map
  obtain ⟨qv, mk, ms, mp, Q, S, hin⟩ := h
  obtain ⟨-, -, -, c3, -⟩ := self_cells hin.self
  have hfz := frozen_of hin.self
  obtain ⟨qa, qc, rfl, hqc, hqm, -⟩ := ownsRow_rd hin.qown
  have hQl : Q.length = M.qs.length := by rw [← hin.qs, List.length_map]
  have c3a : ∀ o o' : Obj, ((w.alloc o).alloc o').cell? ⟨b, 3, none⟩ = some (.slice qa Q.length qc) := fun o o' => (((Ext.refl w).alloc o).alloc o').cell_some c3
  have HIN := hid hin
  clear c3
  have HQL := hid hQl
  have HQ := hid hq
  have HE := hid hE
  have hn9 : Q.length ≤ 1000000000 := by omega
  clear hin hQl hq hE
  go_enter Try.func29, Try.ntmps29
  have c3b : ∀ o o' o'' : Obj, (((w.alloc o).alloc o').alloc o'').cell? ⟨b, 3, none⟩ = some (.slice qa Q.length qc) := fun o o' o'' => cell_lift HIN.out.self o o' o''
  go_wp2_with fail
  obtain ⟨N, hN⟩ : ∃ N, N = w.heap.size := ⟨_, rfl⟩
  have hsz2 : ((w.alloc (.cells #[.int .u64 0, .slice none 0 0, .int .u64 0] 49)).alloc (.cells #[.int .u64 0, .slice none 0 0, .int .u64 0] 49)).heap.size = N + 2 := by simp [hN]
  obtain ⟨w3, hw3⟩ : ∃ w3, w3 = (((w.alloc (.cells #[.int .u64 0, .slice none 0 0, .int .u64 0] 49)).alloc (.cells #[.int .u64 0, .slice none 0 0, .int .u64 0] 49)).alloc (.map #[] 0)) := ⟨_, rfl⟩
  have hx3 : Ext w w3 := by rw [hw3]; exact ((((Ext.refl w).alloc _).alloc _).alloc _)
  have hz0 : w3.heap[N]? = some (.cells #[.int .u64 0, .slice none 0 0, .int .u64 0] 49 (0, 0)) := by
    rw [hw3, hN]; exact heap_alloc_some (heap_alloc_some (heap_new _ _))
  have hz1 : w3.heap[N + 1]? = some (.cells #[.int .u64 0, .slice none 0 0, .int .u64 0] 49 (0, 0)) := by
    rw [hw3, hN]
    have := heap_new (w.alloc (.cells #[.int .u64 0, .slice none 0 0, .int .u64 0] 49)) (.cells #[.int .u64 0, .slice none 0 0, .int .u64 0] 49)
    rw [World.size_alloc] at this
    exact heap_alloc_some this
  have hz2 : w3.heap[N + 2]? = some (.map #[] 0) := by
    rw [hw3, ← hsz2]; exact heap_new _ _
  have hsz3 : w3.heap.size = N + 3 := by rw [hw3, World.size_alloc, hsz2]
  rw [← hw3]
  have HX3 := hid hx3
  have HZ0 := hid hz0
  have HZ1 := hid hz1
  have HN := hid hN
  have HS3 := hid hsz3
  have hkm : KMap keyOf w3 (N + 2) (firsts (M.qs.take 0)) := ⟨#[], 0, hz2, rfl⟩
  have HKM := hid hkm
  obtain ⟨n, hn⟩ : ∃ n, n = Q.length := ⟨_, rfl⟩
  have HNL := hid hn
  rw [← hn] at hn9 ⊢
  clear hx3 hz0 hz1 hz2 hN hsz3 hsz2 hw3 hkm c3a c3b hmk hn hqc hqm hfz
  rw [← HN.out]
  try rw [show N + 1 + 1 = N + 2 from rfl]
  go_loopw [21] (fun iv wr => ∃ j : Nat, j ≤ n ∧ iv = .int .i64 j ∧ Hid (∀ k, k < j → noColl M.qs k) ∧ Hid (KMap keyOf wr (N + 2) (firsts (M.qs.take j))) ∧ Hid (Kp (fun k => k = N + 2) w3 wr)) (fun iv _ => (n - (intOf iv).toNat))
  case atStart => exact ⟨0, by omega, rfl, hid (fun k hk => by omega), HKM, hid (Kp.refl _ _)⟩
  case round =>
    obtain ⟨j, hj, rfl, HNC, HM, HK⟩ := hrel
    by_cases hlt : j < n
    · have hltB : decide ((j : Int) < (n : Int)) = true := by simp; omega
      have hxr : Ext w wr := HX3.out.kp HK.out (by rintro k rfl; have := HN.out; omega)
      obtain ⟨⟨q, v⟩, hqi⟩ : ∃ x, Q[j]? = some x := ⟨_, List.getElem?_eq_getElem (by have := HNL.out; omega)⟩
      have hinr := HIN.out.ext hxr
      obtain ⟨g, cap, hqe, hcap1, hcap2, e0, e1, e2⟩ := hinr.q_at hqi
      injection hqe with hqa hqn hqc2
      subst hqa
      have hmem := List.mem_of_getElem? hqi
      have hel := (hinr.elems _ hmem)
      have hqq : M.qs[j]? = some q := by rw [← HIN.out.qs, List.getElem?_map, hqi]; rfl
      have hle := HE.out q (List.mem_of_getElem? hqq)
      have HEL := hid hel
      have HQQ := hid hqq
      have HLE := hid hle
      have HXR := hid hxr
      have HINR := hid hinr
      obtain ⟨va, vc, hve, -⟩ := ownsRow_rd hel.1
      simp only at hve
      subst hve
      clear hxr hqi hinr hqn hqc2 hmem hel hqq hle hcap1 hcap2
      go_wp2_with fail
      obtain ⟨wq, hwq⟩ : ∃ wq, wq = wr.alloc (.cells #[uv q.label, .slice va q.elems.length vc, uv q.answer] 49) := ⟨_, rfl⟩
      have hxq : Ext wr wq := by rw [hwq]; exact (Ext.refl wr).alloc _
      have hbq : wq.heap[wr.heap.size]? = some (.cells #[uv q.label, .slice va q.elems.length vc, uv q.answer] 49 (0, 0)) := by rw [hwq]; exact heap_new _ _
      rw [← hwq]
      clear hwq
      have hkmq : KMap keyOf wq (N + 2) (firsts (M.qs.take j)) := HM.out.of_heap (hxq.block _ HM.out.lt)
      have hlk := run_lookup (P := Try.prog) keyU64 wq 135 28 3 (.int .i64 0) (by kernel_rfl) (by kernel_rfl) (zero_int wq) (N + 2) _ hkmq q.answer
      have HKQ := hid hkmq
      have HXQ := hid hxq
      have HBQ := hid hbq
      have hc0 : wq.cell? ⟨wr.heap.size, 0, none⟩ = some (uv q.label) := cell_of hbq 0
      have hc1 : wq.cell? ⟨wr.heap.size, 1, none⟩ = some (.slice va q.elems.length vc) := cell_of hbq 1
      have hc2 : wq.cell? ⟨wr.heap.size, 2, none⟩ = some (uv q.answer) := cell_of hbq 2
      clear hkmq hxq hbq e0 e1 e2
      rw [assoc_firsts] at hlk
      cases hf : (M.qs.take j).findIdx? fun x => x.answer == q.answer with
      | none =>
        simp only [hf, Option.map_none, Option.getD_none, Option.isSome_none] at hlk
        rw [hlk]
        have hnew : assoc (firsts (M.qs.take j)) q.answer = none := by rw [assoc_firsts, hf]; rfl
        have hno : noColl M.qs j := by
          intro i hi a c ha hc heq
          rw [HQQ.out] at hc
          obtain rfl := Option.some.inj hc
          rw [List.findIdx?_eq_none_iff] at hf
          have := hf a (List.mem_of_getElem? (by rw [List.getElem?_take, if_pos hi]; exact ha))
          rw [heq] at this
          simp at this
        have HNO := hid hno
        have HNEW := hid hnew
        clear hf hlk hnew hno
        go_wp2_with fail
        obtain ⟨w5, hr, hkm5, hkp5⟩ := run_update (P := Try.prog) keyU64 wq 135 28 3 (by kernel_rfl) (by kernel_rfl) (N + 2) _ HKQ.out q.answer (.int .i64 (j : Int))
        rw [hr]
        rw [assocSet_new _ _ _ HNEW.out] at hkm5
        have HKM5 := hid hkm5
        have HKP5 := hid hkp5
        clear hkm5 hkp5 hr hc0 hc1 hc2
        go_wp2_with fail
        go_roundw
        case rel =>
          refine ⟨j + 1, by omega, by go_num, ?_, ?_, ?_⟩
          · refine hid fun k hk => ?_
            by_cases hkj : k = j
            · rw [hkj]; exact HNO.out
            · exact HNC.out k (by omega)
          · have e : firsts (M.qs.take (j + 1)) = firsts (M.qs.take j) ++ [(q.answer, .int .i64 (j : Int))] := by
              rw [List.take_add_one, HQQ.out]
              have := firsts_snoc (M.qs.take j) q
              rw [List.length_take, Nat.min_eq_left (by have h1 := HQL.out; have h2 := HNL.out; omega)] at this
              exact this
            rw [e]; exact HKM5
          · exact hid ((HK.out.ext HXQ.out).trans HKP5.out)
        case measure => simp [intOf]; omega
      | some i =>
        simp only [hf, Option.map_some, Option.getD_some, Option.isSome_some] at hlk
        rw [hlk]
        obtain ⟨hi1, hi2, hi3⟩ := List.findIdx?_eq_some_iff_getElem.1 hf
        have hij : i < j := by rw [List.length_take] at hi1; omega
        obtain ⟨⟨qi, v2⟩, hqi⟩ : ∃ x, Q[i]? = some x := ⟨_, List.getElem?_eq_getElem (by have := HNL.out; omega)⟩
        have hqq2 : M.qs[i]? = some qi := by rw [← HIN.out.qs, List.getElem?_map, hqi]; rfl
        have hans : qi.answer = q.answer := by
          have h1 : (M.qs.take j)[i]? = some qi := by rw [List.getElem?_take, if_pos hij]; exact hqq2
          have h2 := (List.getElem?_eq_some_iff.1 h1).2
          rw [h2] at hi2
          simpa using hi2
        have hinq := HINR.out.ext HXQ.out
        obtain ⟨g2, cap2, hqe2, -, -, e0, e1, e2⟩ := hinq.q_at hqi
        injection hqe2 with hqa2 _ _
        injection hqa2 with hqa2
        injection hqa2 with hqa2
        subst hqa2
        have hel2 := (hinq.elems _ (List.mem_of_getElem? hqi))
        have hle2 := HE.out qi (List.mem_of_getElem? hqq2)
        obtain ⟨va2, vc2, hve2, -⟩ := ownsRow_rd hel2.1
        simp only at hve2
        subst hve2
        have c3q := (self_cells hinq.self).2.2.2.1
        rw [← HNL.out] at c3q
        have HEL2 := hid hel2
        have HLE2 := hid hle2
        have HQQ2 := hid hqq2
        have HANS := hid hans
        have H7 : ∀ v, Ext wq v → (v.cell? ⟨b, 3, none⟩ = some (.slice (some ⟨g, 0, none⟩) n qc) ∧ v.cell? ⟨g, i * 3, none⟩ = some (uv qi.label) ∧ v.cell? ⟨g, i * 3 + 1, none⟩ = some (.slice va2 qi.elems.length vc2) ∧ v.cell? ⟨g, i * 3 + 2, none⟩ = some (uv qi.answer)) ∧ v.cell? ⟨wr.heap.size, 0, none⟩ = some (uv q.label) ∧ v.cell? ⟨wr.heap.size, 1, none⟩ = some (.slice va q.elems.length vc) ∧ v.cell? ⟨wr.heap.size, 2, none⟩ = some (uv q.answer) :=
          fun v k => ⟨⟨k.cell_some c3q, k.cell_some e0, k.cell_some e1, k.cell_some e2⟩, k.cell_some hc0, k.cell_some hc1, k.cell_some hc2⟩
        have HH7 := hid H7
        have hil : (i : Int) < (n : Int) := by omega
        have hi0 : (0 : Int) ≤ (i : Int) := Int.natCast_nonneg _
        have HIJ := hid hij
        clear hf hlk hi1 hi2 hi3 hij hqi hqq2 hans hinq hel2 hle2 c3q H7 e0 e1 e2 hc0 hc1 hc2
        go_wp2_with fail
        refine wp_region_T (fun v => ((v.cell? ⟨b, 3, none⟩ = some (.slice (some ⟨g, 0, none⟩) n qc) ∧ v.cell? ⟨g, i * 3, none⟩ = some (uv qi.label) ∧ v.cell? ⟨g, i * 3 + 1, none⟩ = some (.slice va2 qi.elems.length vc2) ∧ v.cell? ⟨g, i * 3 + 2, none⟩ = some (uv qi.answer)) ∧ v.cell? ⟨wr.heap.size, 0, none⟩ = some (uv q.label) ∧ v.cell? ⟨wr.heap.size, 1, none⟩ = some (.slice va q.elems.length vc) ∧ v.cell? ⟨wr.heap.size, 2, none⟩ = some (uv q.answer)) ∧ Ext wq v) 9 [(0, true), (1, true), (2, true), (3, true), (4, true), (5, true), (6, true), (8, true), (7, false), (9, false), (10, false), (11, false), (12, false)] (by kernel_rfl) (by kernel_rfl) (by intro c a d v w h; cases d <;> exact h) ?_
        intro ops hops
        have HS := keep0 HH7.out
        iterate 8
          refine wpT_take (v := ?_) (by rw [hops, List.getElem?_toArray]; rfl) (by first | rfl | (rw [hops]; rfl)) ?_ HS ?_
          rotate_left
          · intro v h; go_simp; with_reducible rfl
          simp only [Act.put, List.getElem_toArray, List.getElem_cons_zero, List.getElem_cons_succ, List.setIfInBounds_toArray, List.set_cons_zero, List.set_cons_succ]
        refine wpT_step (by rw [hops, List.getElem?_toArray]; rfl) (by first | rfl | (rw [hops]; rfl)) ?_
        intro K hK
        go_wp2_with fail
        refine (copiedQuestion_any (HEL2.out.1.rdu.ext (Ext.refl wq).drew) HLE2.out).mono ?_
        rintro e w5 ⟨ev, rfl, hev, hx5, -⟩
        obtain ⟨ea, ec, rfl, -⟩ := ownsRow_rd hev
        have HS5 := keepE HH7.out HS hx5
        have HEV := hid hev
        clear hev
        refine hK _ _ ⟨fun _ => HS5, ?_⟩
        clear hK K
        refine wpT_step (by rw [hops, List.getElem?_toArray]; rfl) (by first | rfl | (rw [hops]; rfl)) ?_
        intro K hK
        go_wp2_with fail
        refine (copiedQuestion_any (HEL.out.1.rdu.ext (HXQ.out.trans HS5.2)) HLE.out).mono ?_
        rintro e w6 ⟨fv, rfl, hfv, hx6, -⟩
        obtain ⟨fa, fc, rfl, -⟩ := ownsRow_rd hfv
        have hx6r : Ext wr w6 := HXQ.out.trans (HS5.2.trans hx6)
        have HX6 := hid hx6r
        have HFV := hid hfv
        have HEV6 := hid (ownsRow_ext HEV.out hx6)
        have hb0 := hx6r.heap_some (HK.out.heap_some (b := N) (by omega) HZ0.out)
        have hb1 := hx6r.heap_some (HK.out.heap_some (b := N + 1) (by omega) HZ1.out)
        have d00 : w6.cell? ⟨N, 0, none⟩ = some (.int .u64 0) := cell_of hb0 0
        have d01 : w6.cell? ⟨N, 1, none⟩ = some (.slice none 0 0) := cell_of hb0 1
        have d02 : w6.cell? ⟨N, 2, none⟩ = some (.int .u64 0) := cell_of hb0 2
        have d10 : w6.cell? ⟨N + 1, 0, none⟩ = some (.int .u64 0) := cell_of hb1 0
        have d11 : w6.cell? ⟨N + 1, 1, none⟩ = some (.slice none 0 0) := cell_of hb1 1
        have d12 : w6.cell? ⟨N + 1, 2, none⟩ = some (.int .u64 0) := cell_of hb1 2
        have f0 := frozen_of hb0
        have f1 := frozen_of hb1
        have HB0 := hid hb0
        have HB1 := hid hb1
        clear hb0 hb1 hfv hx6 hx6r hx5 HS HS5
        refine hK _ _ ⟨fun h => absurd h (by decide), ?_⟩
        clear hK K
        refine wpT_step (by rw [hops, List.getElem?_toArray]; rfl) (by first | rfl | (rw [hops]; rfl)) ?_
        intro K hK
        go_wp2_with fail
        refine ⟨fun h => absurd h (by decide), ?_⟩
        refine wpT_step (by rw [hops, List.getElem?_toArray]; rfl) (by first | rfl | (rw [hops]; rfl)) ?_
        intro K hK
        go_wp2_with fail
        refine ⟨fun h => absurd h (by decide), ?_⟩
        refine wpT_step (by rw [hops, List.getElem?_toArray]; rfl) (by first | rfl | (rw [hops]; rfl)) ?_
        intro K hK
        go_wp2_with fail
        refine ⟨fun h => absurd h (by decide), ?_⟩
        rw [wpT_nil]
        clear hops ops
        go_wp2_with fail
        have hN := HN.out
        obtain ⟨g0, g1, hkp⟩ := six_cells HB0.out HB1.out (uv qi.label) (.slice ea qi.elems.length ec) (uv qi.answer) (uv q.label) (.slice fa q.elems.length fc) (uv q.answer)
        have hxw : Ext w w6 := HXR.out.trans HX6.out
        have hxf := hxw.kp hkp (by rintro k (rfl | rfl) <;> omega)
        have ne : ∀ {v : Value} {l : List UInt64}, OwnU w6 v l → ∀ k, blk v = some k → ¬ (k = N ∨ k = N + 1) := by
          intro v' l' hv' k hk hor
          obtain ⟨cs, h1⟩ := ownsRow_block hv' hk
          rcases hor with rfl | rfl
          · rw [HB0.out] at h1; injection h1 with h1; injection h1 with _ h1; exact absurd h1 (by decide)
          · rw [HB1.out] at h1; injection h1 with h1; injection h1 with _ h1; exact absurd h1 (by decide)
        have hv1 := OwnU.rdu (ownsRow_kp HEV6.out hkp (ne HEV6.out))
        have hv2 := OwnU.rdu (ownsRow_kp HFV.out hkp (ne HFV.out))
        have r0 := cell_of g0 0
        have r1 := cell_of g0 1
        have r2 := cell_of g0 2
        have r3 := cell_of g1 0
        have r4 := cell_of g1 1
        have r5 := cell_of g1 2
        generalize ((((((w6.setCell ⟨N, 0, none⟩ (uv qi.label)).setCell ⟨N, 1, none⟩ (.slice ea qi.elems.length ec)).setCell ⟨N, 2, none⟩ (uv qi.answer)).setCell ⟨N + 1, 0, none⟩ (uv q.label)).setCell ⟨N + 1, 1, none⟩ (.slice fa q.elems.length fc)).setCell ⟨N + 1, 2, none⟩ (uv q.answer)) = wf at *
        simp at r0 r1 r2 r3 r4 r5
        clear g0 g1 d00 d01 d02 d10 d11 d12 f0 f1 hkp ne
        exact bodyPost_ret (v := .tuple #[.agg #[uv qi.label, .slice ea qi.elems.length ec, uv qi.answer], .agg #[uv q.label, .slice fa q.elems.length fc, uv q.answer], .bool true]) (by simp [results, Try.results29, go_sem, r0, r1, r2, r3, r4, r5]) rfl
          (.inl ⟨i, j, qi, q, _, _, HIJ.out, HQQ2.out, HQQ.out, HANS.out, HNC.out, rfl, hv1, hv2, hxf⟩)
    · have hin' : j = n := by omega
      have hltB : decide ((j : Int) < (n : Int)) = false := by simp; omega
      have hb0 := HK.out.heap_some (b := N) (by omega) HZ0.out
      have hb1 := HK.out.heap_some (b := N + 1) (by omega) HZ1.out
      have d00 : wr.cell? ⟨N, 0, none⟩ = some (.int .u64 0) := cell_of hb0 0
      have d01 : wr.cell? ⟨N, 1, none⟩ = some (.slice none 0 0) := cell_of hb0 1
      have d02 : wr.cell? ⟨N, 2, none⟩ = some (.int .u64 0) := cell_of hb0 2
      have d10 : wr.cell? ⟨N + 1, 0, none⟩ = some (.int .u64 0) := cell_of hb1 0
      have d11 : wr.cell? ⟨N + 1, 1, none⟩ = some (.slice none 0 0) := cell_of hb1 1
      have d12 : wr.cell? ⟨N + 1, 2, none⟩ = some (.int .u64 0) := cell_of hb1 2
      have f0 := frozen_of hb0
      have f1 := frozen_of hb1
      have HB0 := hid hb0
      have HB1 := hid hb1
      clear hb0 hb1
      go_wp2
      have hxr : Ext w wr := HX3.out.kp HK.out (by rintro k rfl; have := HN.out; omega)
      have hxf := (((((((hxr.setCell (p := ⟨N, 0, none⟩) (by have := HN.out; show w.heap.size ≤ N; omega) (.int .u64 0)).setCell (p := ⟨N, 1, none⟩) (by have := HN.out; show w.heap.size ≤ N; omega) (.slice none 0 0)).setCell (p := ⟨N, 2, none⟩) (by have := HN.out; show w.heap.size ≤ N; omega) (.int .u64 0)).setCell (p := ⟨N + 1, 0, none⟩) (by have := HN.out; show w.heap.size ≤ N + 1; omega) (.int .u64 0)).setCell (p := ⟨N + 1, 1, none⟩) (by have := HN.out; show w.heap.size ≤ N + 1; omega) (.slice none 0 0)).setCell (p := ⟨N + 1, 2, none⟩) (by have := HN.out; show w.heap.size ≤ N + 1; omega) (.int .u64 0)))
      have g0 := heap_setCell_same (heap_setCell_same (heap_setCell_same HB0.out 0 (.int .u64 0)) 1 (.slice none 0 0)) 2 (.int .u64 0)
      have g0' : ((((((wr.setCell ⟨N, 0, none⟩ (.int .u64 0)).setCell ⟨N, 1, none⟩ (.slice none 0 0)).setCell ⟨N, 2, none⟩ (.int .u64 0)).setCell ⟨N + 1, 0, none⟩ (.int .u64 0)).setCell ⟨N + 1, 1, none⟩ (.slice none 0 0)).setCell ⟨N + 1, 2, none⟩ (.int .u64 0)).heap[N]? = some (.cells #[.int .u64 0, .slice none 0 0, .int .u64 0] 49 (0, 0)) := by
        rw [heap_setCell_ne (by omega), heap_setCell_ne (by omega), heap_setCell_ne (by omega), g0]; rfl
      have k1 : (((wr.setCell ⟨N, 0, none⟩ (.int .u64 0)).setCell ⟨N, 1, none⟩ (.slice none 0 0)).setCell ⟨N, 2, none⟩ (.int .u64 0)).heap[N + 1]? = some (.cells #[.int .u64 0, .slice none 0 0, .int .u64 0] 49 (0, 0)) := by
        rw [heap_setCell_ne (by omega), heap_setCell_ne (by omega), heap_setCell_ne (by omega)]; exact HB1.out
      have g1 := heap_setCell_same (heap_setCell_same (heap_setCell_same k1 0 (.int .u64 0)) 1 (.slice none 0 0)) 2 (.int .u64 0)
      have r0 := cell_of g0' 0
      have r1 := cell_of g0' 1
      have r2 := cell_of g0' 2
      have r3 := cell_of g1 0
      have r4 := cell_of g1 1
      have r5 := cell_of g1 2
      have hfin : ∀ k, k < M.qs.length → noColl M.qs k := by
        intro k hk; refine HNC.out k ?_
        have h1 := HQL.out; have h2 := HNL.out; omega
      generalize ((((((wr.setCell ⟨N, 0, none⟩ (.int .u64 0)).setCell ⟨N, 1, none⟩ (.slice none 0 0)).setCell ⟨N, 2, none⟩ (.int .u64 0)).setCell ⟨N + 1, 0, none⟩ (.int .u64 0)).setCell ⟨N + 1, 1, none⟩ (.slice none 0 0)).setCell ⟨N + 1, 2, none⟩ (.int .u64 0)) = wf at *
      simp at r0 r1 r2 r3 r4 r5
      clear g0 g0' k1 g1 d00 d01 d02 d10 d11 d12 f0 f1
      exact bodyPost_ret (v := .tuple #[.agg #[.int .u64 0, .slice none 0 0, .int .u64 0], .agg #[.int .u64 0, .slice none 0 0, .int .u64 0], .bool false]) (by simp [results, Try.results29, go_sem, r0, r1, r2, r3, r4, r5]) rfl (.inr ⟨hfin, rfl, hxf⟩)
end Go.Proofs.Ytdpgfjnpcjpdpaa
