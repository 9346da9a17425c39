/- Texts of this claim, joined: Peek, CommitK, Try, BlkLaw. -/
import Derived.Test.YtcikjcjfcanloaaGreatJr3
import Derived.Test.YtcikjcjfcanloaaGreatJr4
import Derived.Test.YtcikjcjfcanloaaGreatJr5
set_option linter.unusedSimpArgs false
namespace Go.Proofs.YtcikjcjfcanloaaGreat
open Go.RowKit
attribute [local irreducible] perm fAdd fMul fPow fSub fNeg fRed
def PeekO (w : World) (M : Orc) (label : UInt64) (l : List UInt64) (e : Ending) (w' : World) : Prop :=
  e = .returned (.tuple #[uv (M.peek label l).1, .bool (M.peek label l).2]) ∧ Ext w w'
theorem add_four {C : World → Prop} {w w' : World} (H : ∀ v, Ext w v → C v) (k : Ext w w') : C w' ∧ Ext w w' := ⟨H _ k, k⟩
set_option maxRecDepth 100000 in
set_option maxHeartbeats 1600000 in
theorem Peek_any {w : World} {b : Nat} {M : Orc} {F : Nat → Prop} {label : UInt64} {lv : Value} {l : List UInt64} (h : OrcAt w b M F) (hl : RdU w lv l)
    (hL : l.length ≤ 1000000000000) (hq : M.qs.length ≤ 1000000000) :
    Calls Tryz.prog 138 #[.pointer (some ⟨b, 0, none⟩), uv label, lv] w (PeekO w M label l) := by
  have HH := hid h
  have HL := hid hl
  have HLL := hid hL
  have HQ := hid hq
  clear h hl hL hq
  go_enter Tryz.func138, Tryz.ntmps138
  go_wp2_with fail
  refine (elements_any lv l _ HL.out HLL.out).mono ?_
  rintro e w' ⟨rfl, rfl⟩
  by_cases hE : allE l = true
  case neg =>
    have hE2 : allE l = false := by simpa using hE
    rw [hE2]
    go_wp2_with fail
    exact bodyPost_ret (v := .tuple #[.int .u64 0, .bool false]) (by simp [results, Tryz.results138, go_sem]) rfl ⟨by simp [Orc.peek, hE2], Ext.refl _⟩
  rw [hE]
  obtain ⟨qv, mk, ms, mp, Q, S, hin⟩ := HH.out
  obtain ⟨c0, -, -, c3, c4, -⟩ := self_cells hin.self
  have hlk : ∀ v, Ext w v → (Instr.lookup 118 (.map (some mk)) (.string (keyS [label] l)) true).run Tryz.prog v = .ok (.tuple #[(assoc (knownL M.qs) (keyS [label] l)).getD (.int .i64 0), .bool (assoc (knownL M.qs) (keyS [label] l)).isSome]) v := fun v k =>
    run_lookup (P := Tryz.prog) keyStr v 118 9 3 (.int .i64 0) (by kernel_rfl) (by kernel_rfl) (zero_int v) mk _ (hin.ext k).known (keyS [label] l)
  have H4 : ∀ v, Ext w v → v.cell? ⟨b, 4, none⟩ = some (.map (some mk)) := fun v k => k.cell_some c4
  have HC0 := hid c0
  have HC3 := hid c3
  have HH4 := hid H4
  have HIN := hid hin
  clear c0 c3 c4 H4 hin
  rw [assoc_knownL] at hlk
  cases hf : findQ M.qs label l with
  | some i =>
    simp only [hf, Option.map_some, Option.getD_some, Option.isSome_some] at hlk
    have HLK := hid hlk
    have hi := findQ_lt hf
    have hQl : Q.length = M.qs.length := by rw [← HIN.out.qs, List.length_map]
    obtain ⟨⟨q, v⟩, hqi⟩ : ∃ x, Q[i]? = some x := ⟨_, List.getElem?_eq_getElem (by omega)⟩
    have hans : answerAt M.qs i = q.answer := by
      have : M.qs[i]? = some q := by rw [← HIN.out.qs, List.getElem?_map, hqi]; rfl
      simp [answerAt, this]
    have HANS := hid hans
    have HF := hid hf
    have HQI := hid hqi
    have hi2 : (i : Int) < (Q.length : Int) := by omega
    have hi1 : 0 ≤ (i : Int) := Int.natCast_nonneg _
    clear hans hf hi hQl hlk hqi
    go_wp2_with fail
    refine wp_region_T (fun v => v.cell? ⟨b, 4, none⟩ = some (.map (some mk)) ∧ Ext w v) 13 [(0, true), (1, true), (2, true), (3, true), (4, true), (5, true), (6, false), (7, false), (8, true), (9, true), (10, true), (11, true), (12, true), (13, false)] (by kernel_rfl) (by kernel_rfl) (by intro c a d v w h; cases d <;> exact h) ?_
    intro ops hops
    have HS := add_four HH4.out (Ext.refl w).drew
    iterate 6
      refine wpT_take (v := ?_) (by rw [hops, List.getElem?_toArray]; rfl) (by first | rfl | (rw [hops]; rfl)) ?_ HS ?_
      rotate_left
      · intro v h; go_simp; with_reducible rfl
      simp only [Act.put, List.getElem_toArray, List.getElem_cons_zero, List.getElem_cons_succ, List.setIfInBounds_toArray, List.set_cons_zero, List.set_cons_succ]
    refine wpT_step (by rw [hops, List.getElem?_toArray]; rfl) (by first | rfl | (rw [hops]; rfl)) ?_
    intro K hK
    go_wp2_with fail
    have hx1 := (Ext.refl w).drew.alloc (.cells #[uv label] 22)
    have HS1 := add_four HH4.out hx1
    refine ⟨fun _ => HS1, ?_⟩
    have hk1 : RdU (w.drew.alloc (.cells #[uv label] 22)) (.slice (some ⟨w.drew.heap.size, 0, none⟩) 1 1) [label] := (RdC.new1 w.drew (uv label) 22).rdu rfl
    have HX1 := hid hx1
    refine wpT_step (by rw [hops, List.getElem?_toArray]; rfl) (by first | rfl | (rw [hops]; rfl)) ?_
    intro K hK
    go_wp2_with fail
    refine (key_any _ _ l [label] _ (HL.out.ext HX1.out) hk1 HLL.out (by simp)).mono ?_
    rintro e w1 ⟨rfl, hx0⟩
    have hx2 := HX1.out.trans hx0
    have HS2 := add_four HH4.out hx2
    have HX2 := hid hx2
    clear hx0 hk1 HS1 HS hx1 hx2
    refine hK _ _ ⟨fun _ => HS2, ?_⟩
    clear hK K
    refine wpT_take (v := .tuple #[.int .i64 i, .bool true]) (by rw [hops, List.getElem?_toArray]; rfl) (by first | rfl | (rw [hops]; rfl)) ?_ HS2 ?_
    · intro v h; go_simp; (rw [HLK.out _ h.2]; rfl)
    simp only [Act.put, List.getElem_toArray, List.getElem_cons_zero, List.getElem_cons_succ, List.setIfInBounds_toArray, List.set_cons_zero, List.set_cons_succ]
    iterate 4
      refine wpT_take (v := ?_) (by rw [hops, List.getElem?_toArray]; rfl) (by first | rfl | (rw [hops]; rfl)) ?_ HS2 ?_
      rotate_left
      · intro v h; go_simp; with_reducible rfl
      simp only [Act.put, List.getElem_toArray, List.getElem_cons_zero, List.getElem_cons_succ, List.setIfInBounds_toArray, List.set_cons_zero, List.set_cons_succ]
    obtain ⟨g, cap, rfl, hcap1, hcap2, -, -, hca⟩ := (HIN.out.ext HX2.out).q_at HQI.out
    have hc3 := HX2.out.cell_some HC3.out
    refine wpT_step (by rw [hops, List.getElem?_toArray]; rfl) (by first | rfl | (rw [hops]; rfl)) ?_
    intro K hK
    go_wp2_with fail
    refine ⟨fun h => absurd h (by decide), ?_⟩
    rw [wpT_nil]
    clear hops ops
    clear HS2
    go_wp2_with fail
    exact bodyPost_ret (v := .tuple #[uv q.answer, .bool true]) (by simp [results, Tryz.results138, go_sem]) rfl ⟨by simp [Orc.peek, hE, HF.out, HANS.out], HX2.out⟩
  | none =>
    simp only [hf, Option.map_none, Option.getD_none, Option.isSome_none] at hlk
    have HLK := hid hlk
    have HF := hid hf
    clear hf hlk
    cases hI : M.ideal with
    | true =>
      rw [hI] at HC0
      have HI := hid hI
      clear hI
      go_wp2_with fail
      refine wp_region_T (fun v => v.cell? ⟨b, 4, none⟩ = some (.map (some mk)) ∧ Ext w v) 13 [(0, true), (1, true), (2, true), (3, true), (4, true), (5, true), (6, false), (7, false), (8, true), (9, true), (10, true), (11, true), (12, true), (13, false)] (by kernel_rfl) (by kernel_rfl) (by intro c a d v w h; cases d <;> exact h) ?_
      intro ops hops
      have HS := add_four HH4.out (Ext.refl w).drew
      iterate 6
        refine wpT_take (v := ?_) (by rw [hops, List.getElem?_toArray]; rfl) (by first | rfl | (rw [hops]; rfl)) ?_ HS ?_
        rotate_left
        · intro v h; go_simp; with_reducible rfl
        simp only [Act.put, List.getElem_toArray, List.getElem_cons_zero, List.getElem_cons_succ, List.setIfInBounds_toArray, List.set_cons_zero, List.set_cons_succ]
      refine wpT_step (by rw [hops, List.getElem?_toArray]; rfl) (by first | rfl | (rw [hops]; rfl)) ?_
      intro K hK
      go_wp2_with fail
      have hx1 := (Ext.refl w).drew.alloc (.cells #[uv label] 22)
      have HS1 := add_four HH4.out hx1
      refine ⟨fun _ => HS1, ?_⟩
      have hk1 : RdU (w.drew.alloc (.cells #[uv label] 22)) (.slice (some ⟨w.drew.heap.size, 0, none⟩) 1 1) [label] := (RdC.new1 w.drew (uv label) 22).rdu rfl
      have HX1 := hid hx1
      refine wpT_step (by rw [hops, List.getElem?_toArray]; rfl) (by first | rfl | (rw [hops]; rfl)) ?_
      intro K hK
      go_wp2_with fail
      refine (key_any _ _ l [label] _ (HL.out.ext HX1.out) hk1 HLL.out (by simp)).mono ?_
      rintro e w1 ⟨rfl, hx0⟩
      have hx2 := HX1.out.trans hx0
      have HS2 := add_four HH4.out hx2
      have HX2 := hid hx2
      clear hx0 hk1 HS1 HS hx1 hx2
      refine hK _ _ ⟨fun _ => HS2, ?_⟩
      clear hK K
      refine wpT_take (v := .tuple #[.int .i64 0, .bool false]) (by rw [hops, List.getElem?_toArray]; rfl) (by first | rfl | (rw [hops]; rfl)) ?_ HS2 ?_
      · intro v h; go_simp; (rw [HLK.out _ h.2]; rfl)
      simp only [Act.put, List.getElem_toArray, List.getElem_cons_zero, List.getElem_cons_succ, List.setIfInBounds_toArray, List.set_cons_zero, List.set_cons_succ]
      iterate 4
        refine wpT_take (v := ?_) (by rw [hops, List.getElem?_toArray]; rfl) (by first | rfl | (rw [hops]; rfl)) ?_ HS2 ?_
        rotate_left
        · intro v h; go_simp; with_reducible rfl
        simp only [Act.put, List.getElem_toArray, List.getElem_cons_zero, List.getElem_cons_succ, List.setIfInBounds_toArray, List.set_cons_zero, List.set_cons_succ]
      have hc0 := HX2.out.cell_some HC0.out
      refine wpT_step (by rw [hops, List.getElem?_toArray]; rfl) (by first | rfl | (rw [hops]; rfl)) ?_
      intro K hK
      go_wp2_with fail
      refine ⟨fun h => absurd h (by decide), ?_⟩
      rw [wpT_nil]
      clear hops ops
      clear HS2
      go_wp2_with fail
      exact bodyPost_ret (v := .tuple #[.int .u64 0, .bool false]) (by simp [results, Tryz.results138, go_sem]) rfl ⟨by simp [Orc.peek, hE, HF.out, HI.out], HX2.out⟩
    | false =>
      rw [hI] at HC0
      have HI := hid hI
      clear hI
      go_wp2_with fail
      refine wp_region_T (fun v => v.cell? ⟨b, 4, none⟩ = some (.map (some mk)) ∧ Ext w v) 13 [(0, true), (1, true), (2, true), (3, true), (4, true), (5, true), (6, false), (7, false), (8, true), (9, true), (10, true), (11, true), (12, true), (13, false)] (by kernel_rfl) (by kernel_rfl) (by intro c a d v w h; cases d <;> exact h) ?_
      intro ops hops
      have HS := add_four HH4.out (Ext.refl w).drew
      iterate 6
        refine wpT_take (v := ?_) (by rw [hops, List.getElem?_toArray]; rfl) (by first | rfl | (rw [hops]; rfl)) ?_ HS ?_
        rotate_left
        · intro v h; go_simp; with_reducible rfl
        simp only [Act.put, List.getElem_toArray, List.getElem_cons_zero, List.getElem_cons_succ, List.setIfInBounds_toArray, List.set_cons_zero, List.set_cons_succ]
      refine wpT_step (by rw [hops, List.getElem?_toArray]; rfl) (by first | rfl | (rw [hops]; rfl)) ?_
      intro K hK
      go_wp2_with fail
      have hx1 := (Ext.refl w).drew.alloc (.cells #[uv label] 22)
      have HS1 := add_four HH4.out hx1
      refine ⟨fun _ => HS1, ?_⟩
      have hk1 : RdU (w.drew.alloc (.cells #[uv label] 22)) (.slice (some ⟨w.drew.heap.size, 0, none⟩) 1 1) [label] := (RdC.new1 w.drew (uv label) 22).rdu rfl
      have HX1 := hid hx1
      refine wpT_step (by rw [hops, List.getElem?_toArray]; rfl) (by first | rfl | (rw [hops]; rfl)) ?_
      intro K hK
      go_wp2_with fail
      refine (key_any _ _ l [label] _ (HL.out.ext HX1.out) hk1 HLL.out (by simp)).mono ?_
      rintro e w1 ⟨rfl, hx0⟩
      have hx2 := HX1.out.trans hx0
      have HS2 := add_four HH4.out hx2
      have HX2 := hid hx2
      clear hx0 hk1 HS1 HS hx1 hx2
      refine hK _ _ ⟨fun _ => HS2, ?_⟩
      clear hK K
      refine wpT_take (v := .tuple #[.int .i64 0, .bool false]) (by rw [hops, List.getElem?_toArray]; rfl) (by first | rfl | (rw [hops]; rfl)) ?_ HS2 ?_
      · intro v h; go_simp; (rw [HLK.out _ h.2]; rfl)
      simp only [Act.put, List.getElem_toArray, List.getElem_cons_zero, List.getElem_cons_succ, List.setIfInBounds_toArray, List.set_cons_zero, List.set_cons_succ]
      iterate 4
        refine wpT_take (v := ?_) (by rw [hops, List.getElem?_toArray]; rfl) (by first | rfl | (rw [hops]; rfl)) ?_ HS2 ?_
        rotate_left
        · intro v h; go_simp; with_reducible rfl
        simp only [Act.put, List.getElem_toArray, List.getElem_cons_zero, List.getElem_cons_succ, List.setIfInBounds_toArray, List.set_cons_zero, List.set_cons_succ]
      have hc0 := HX2.out.cell_some HC0.out
      refine wpT_step (by rw [hops, List.getElem?_toArray]; rfl) (by first | rfl | (rw [hops]; rfl)) ?_
      intro K hK
      go_wp2_with fail
      refine ⟨fun h => absurd h (by decide), ?_⟩
      rw [wpT_nil]
      clear hops ops
      clear HS2
      go_wp2_with fail
      refine (Hash_any 18446744069414584321 big_is label lv l w1 (HL.out.ext HX2.out) (le15 HLL.out)).mono ?_
      rintro e w2 ⟨rfl, hx2⟩
      have HX3 := hid (HX2.out.trans hx2)
      clear hx2
      go_wp2_with fail
      exact bodyPost_ret (v := .tuple #[uv (hashU label l), .bool true]) (by simp [results, Tryz.results138, go_sem]) rfl ⟨by simp [Orc.peek, hE, HF.out, HI.out], HX3.out⟩
end Go.Proofs.YtcikjcjfcanloaaGreat
namespace Go.Proofs.YtcikjcjfcanloaaGreat
open Go.RowKit
attribute [local irreducible] perm fAdd fMul fPow fSub fNeg fRed hashU drawOf nextState
def commitK (M : Orc) (n : Nt) : UInt64 × Bool := if n.ok then M.peek 2 n.list else (0, false)
set_option maxRecDepth 100000 in
set_option maxHeartbeats 1600000 in
theorem noteCommitment_any {w : World} {b : Nat} {M : Orc} {F : Nat → Prop} (n : Nt) (h : OrcAt w b M F) (hq : M.qs.length ≤ 1000000000) :
    Calls Tryz.prog 144 #[.pointer (some ⟨b, 0, none⟩), nv n] w fun e w' => e = .returned (.tuple #[uv (commitK M n).1, .bool (commitK M n).2]) ∧ Ext w w' := by
  obtain ⟨ok, hok⟩ : ∃ ok, ok = n.ok := ⟨_, rfl⟩
  have hv := noteValid_any n
  have CN := hid (noteElements_any n)
  have CP : Hid (∀ v nv', Ext w v → RdU v nv' n.list → Calls Tryz.prog 138 #[.pointer (some ⟨b, 0, none⟩), .int .u64 2, nv'] v fun e v' => e = .returned (.tuple #[uv (M.peek 2 n.list).1, .bool (M.peek 2 n.list).2]) ∧ Ext v v') := hid fun v nv' k hr => Peek_any (label := 2) (h.ext k) hr (by simp [Nt.list]) hq
  clear h hq
  unfold commitK
  rw [← hok] at hv ⊢
  clear hok
  generalize M.peek 2 n.list = pk at *
  generalize hnl : n.list = nl at *
  clear hnl
  obtain ⟨a, b', c, d⟩ := n
  obtain ⟨p0, p1⟩ := pk
  unfold nv at hv CN ⊢
  simp only at hv CN CP ⊢
  have HV := hid hv
  clear hv
  cases ok with
  | false =>
    simp only [Bool.false_eq_true, if_false]
    go_enter Tryz.func144, Tryz.ntmps144
    go_wp2_with fail
    refine (HV.out _).mono ?_
    rintro e w1 ⟨rfl, hx⟩
    have HX := hid (((Ext.refl w).alloc (.cells #[uv a, uv b', uv c, uv d] 37)).trans hx)
    clear hx
    go_wp2_with fail
    refine bodyPost_ret (v := .tuple #[.int .u64 0, .bool false]) (by simp [results, Tryz.results144, go_sem]) rfl ⟨rfl, HX.out⟩
  | true =>
    simp only [if_true]
    go_enter Tryz.func144, Tryz.ntmps144
    go_wp2_with fail
    refine (HV.out _).mono ?_
    rintro e w1 ⟨rfl, hx⟩
    have HX := hid (((Ext.refl w).alloc (.cells #[uv a, uv b', uv c, uv d] 37)).trans hx)
    obtain ⟨c0, c1, c2, c3⟩ : w1.cell? ⟨w.heap.size, 0, none⟩ = some (uv a) ∧ w1.cell? ⟨w.heap.size, 1, none⟩ = some (uv b') ∧ w1.cell? ⟨w.heap.size, 2, none⟩ = some (uv c) ∧ w1.cell? ⟨w.heap.size, 3, none⟩ = some (uv d) := by
      have hb1 := hx.heap_some (heap_new w (.cells #[uv a, uv b', uv c, uv d] 37))
      exact ⟨cell_of hb1 0, cell_of hb1 1, cell_of hb1 2, cell_of hb1 3⟩
    clear hx
    go_wp2_with fail
    refine (CN.out _).mono ?_
    rintro e w2 ⟨lv, rfl, hr, hx, -⟩
    have HX2 := hid (HX.out.trans hx)
    have HR := hid hr
    clear hx hr c0 c1 c2 c3
    go_wp2_with fail
    refine (CP.out _ _ HX2.out HR.out).mono ?_
    rintro e w3 ⟨rfl, hx⟩
    have HX3 := hid (HX2.out.trans hx)
    clear hx
    go_wp2_with fail
    refine bodyPost_ret (v := .tuple #[uv p0, .bool p1]) (by simp [results, Tryz.results144, go_sem]) rfl ⟨rfl, HX3.out⟩
end Go.Proofs.YtcikjcjfcanloaaGreat
namespace Go.Proofs.YtcikjcjfcanloaaGreat
open Go.RowKit
def zeroN : Nt := ⟨0, 0, 0, 0⟩
/-- The note found: o is what the envelope yields, ck the commitment that is known. -/
def tryR (seed : UInt64) (number : Int) (commit rho : UInt64) (o : UInt64 × UInt64 × Bool) (ck : Nt → UInt64 × Bool) : Nt × Bool :=
  if isNumK number then
    if o.2.2 then
      if (ck ⟨o.1, kOwner (kSpend seed) number, rho, o.2.1⟩).2 && decide ((ck ⟨o.1, kOwner (kSpend seed) number, rho, o.2.1⟩).1 = commit) then (⟨o.1, kOwner (kSpend seed) number, rho, o.2.1⟩, true) else (zeroN, false)
    else (zeroN, false)
  else (zeroN, false)
def nb (r : Nt × Bool) : Value := .tuple #[nv r.1, .bool r.2]
theorem tryR_num {seed : UInt64} {number : Int} {commit rho : UInt64} {o : UInt64 × UInt64 × Bool} {ck : Nt → UInt64 × Bool} (h : isNumK number = false) : tryR seed number commit rho o ck = (zeroN, false) := by
  unfold tryR; rw [h]; rfl
theorem tryR_shut {seed : UInt64} {number : Int} {commit rho x y : UInt64} {ck : Nt → UInt64 × Bool} : tryR seed number commit rho (x, y, false) ck = (zeroN, false) := by
  unfold tryR; split <;> rfl
theorem tryR_open {seed : UInt64} {number : Int} {commit rho x y : UInt64} {ck : Nt → UInt64 × Bool} (h : isNumK number = true) {own c : UInt64} {k : Bool} (ho : kOwner (kSpend seed) number = own) (hc : ck ⟨x, own, rho, y⟩ = (c, k)) :
    tryR seed number commit rho (x, y, true) ck = if k && decide (c = commit) then (⟨x, own, rho, y⟩, true) else (zeroN, false) := by
  unfold tryR
  simp only [h, if_true, ho, hc]
theorem four_setN {w : World} {b : Nat} {c0 c1 c2 c3 d0 d1 d2 d3 : Value} {T : TypeId} (h : w.heap[b]? = some (.cells #[c0, c1, c2, c3] T (0, 0))) :
    ((((w.setCell ⟨b, 0, none⟩ d0).setCell ⟨b, 1, none⟩ d1).setCell ⟨b, 2, none⟩ d2).setCell ⟨b, 3, none⟩ d3).heap[b]? = some (.cells #[d0, d1, d2, d3] T (0, 0)) ∧
      Kp (fun k => k = b) w ((((w.setCell ⟨b, 0, none⟩ d0).setCell ⟨b, 1, none⟩ d1).setCell ⟨b, 2, none⟩ d2).setCell ⟨b, 3, none⟩ d3) :=
  ⟨heap_setCell_same (heap_setCell_same (heap_setCell_same (heap_setCell_same h 0 d0) 1 d1) 2 d2) 3 d3,
   ((((Kp.refl (fun k => k = b) w).setCell (p := ⟨b, 0, none⟩) (.inl rfl) _).setCell (p := ⟨b, 1, none⟩) (.inl rfl) _).setCell (p := ⟨b, 2, none⟩) (.inl rfl) _).setCell (p := ⟨b, 3, none⟩) (.inl rfl) _⟩
end Go.Proofs.YtcikjcjfcanloaaGreat
namespace Go.Proofs.YtcikjcjfcanloaaGreat
open Go.RowKit
attribute [local irreducible] perm fAdd fMul fPow fSub fNeg fRed hashU drawOf nextState
set_option maxRecDepth 100000 in
set_option maxHeartbeats 6400000 in
theorem envTry_any {w : World} {b : Nat} {M : Orc} {F : Nat → Prop} {seed commit rho : UInt64} {number : Int} {pt : E2} {cv : Value} {c : List UInt64} (h : OrcAt w b M F) (hc : RdU w cv c) (hL : c.length ≤ 100000000) (hP : ∀ s ∈ M.seals, s.plain.length ≤ 1000000000000) (hq : M.qs.length ≤ 1000000000) :
    Calls Tryz.prog 121 #[.pointer (some ⟨b, 0, none⟩), uv seed, .int .i64 number, .agg #[uv commit, uv pt.a, uv pt.b, cv], uv rho] w fun e w' => e = .returned (nb (tryR seed number commit rho (M.envOpen (kView seed number) pt c) (commitK M))) ∧ Ext w w' := by
  obtain ⟨ca, cc, rfl, -⟩ := id hc
  obtain ⟨N, hN⟩ : ∃ N, N = w.heap.size := ⟨_, rfl⟩
  obtain ⟨w0, hw0⟩ : ∃ w0, w0 = (w.alloc (.cells #[uv commit, uv pt.a, uv pt.b, .slice ca c.length cc] 103)).alloc (.cells #[.int .u64 0, .int .u64 0, .int .u64 0, .int .u64 0] 37) := ⟨_, rfl⟩
  have hx0 : Ext w w0 := by rw [hw0]; exact ((Ext.refl w).alloc _).alloc _
  have hb0 : w0.heap[N]? = some (.cells #[uv commit, uv pt.a, uv pt.b, .slice ca c.length cc] 103 (0, 0)) := by rw [hw0, hN]; exact heap_alloc_some (heap_new _ _)
  have hb1 : w0.heap[N + 1]? = some (.cells #[.int .u64 0, .int .u64 0, .int .u64 0, .int .u64 0] 37 (0, 0)) := by
    rw [hw0, hN]
    have := heap_new (w.alloc (.cells #[uv commit, uv pt.a, uv pt.b, .slice ca c.length cc] 103)) (.cells #[.int .u64 0, .int .u64 0, .int .u64 0, .int .u64 0] 37)
    simpa using this
  have H : Hid (∀ v, Ext w0 v → (v.cell? ⟨N, 0, none⟩ = some (uv commit) ∧ v.cell? ⟨N, 1, none⟩ = some (uv pt.a) ∧ v.cell? ⟨N, 2, none⟩ = some (uv pt.b) ∧ v.cell? ⟨N, 3, none⟩ = some (.slice ca c.length cc))) := hid fun v k => four_cells (k.heap_some hb0)
  -- the end with a note n and a verdict
  have HEND : Hid (∀ (v : World) (d0 d1 d2 d3 : Value), Ext w0 v → ((((v.setCell ⟨N + 1, 0, none⟩ d0).setCell ⟨N + 1, 1, none⟩ d1).setCell ⟨N + 1, 2, none⟩ d2).setCell ⟨N + 1, 3, none⟩ d3).heap[N + 1]? = some (.cells #[d0, d1, d2, d3] 37 (0, 0)) ∧
      Ext w ((((v.setCell ⟨N + 1, 0, none⟩ d0).setCell ⟨N + 1, 1, none⟩ d1).setCell ⟨N + 1, 2, none⟩ d2).setCell ⟨N + 1, 3, none⟩ d3)) := hid fun v d0 d1 d2 d3 k => by
    obtain ⟨h1, h2⟩ := four_setN (d0 := d0) (d1 := d1) (d2 := d2) (d3 := d3) (k.heap_some hb1)
    exact ⟨h1, (hx0.trans k).kp h2 fun i hi => by rw [hi, hN]; omega⟩
  have HB1 := hid hb1
  have HO : Hid (∀ v, Ext w v → Calls Tryz.prog 141 #[.pointer (some ⟨b, 0, none⟩), uv (kView seed number), .agg #[uv commit, uv pt.a, uv pt.b, .slice ca c.length cc]] v fun e w' => e = .returned (r3 (M.envOpen (kView seed number) pt c)) ∧ Ext v w') := hid fun v k => envOpen_any (h.ext k) (hc.ext k) hL hP
  have HK : Hid (∀ (n : Nt) v, Ext w v → Calls Tryz.prog 144 #[.pointer (some ⟨b, 0, none⟩), nv n] v fun e w' => e = .returned (.tuple #[uv (commitK M n).1, .bool (commitK M n).2]) ∧ Ext v w') := hid fun n v k => noteCommitment_any n (h.ext k) hq
  have HV := hid (kView_any seed number)
  have HSP := hid (kSpend_any seed)
  have HOW := hid (kOwner_any (kSpend seed) number)
  have HW := hid hw0
  have HX0 := hid hx0
  obtain ⟨res, hres⟩ : ∃ res, res = tryR seed number commit rho (M.envOpen (kView seed number) pt c) (commitK M) := ⟨_, rfl⟩
  rw [← hres]
  have hown : ∃ own, own = kOwner (kSpend seed) number := ⟨_, rfl⟩
  obtain ⟨own, hown⟩ := hown
  rw [← hown] at HOW
  have HRES := hid (And.intro hres hown.symm)
  clear hres hown
  generalize M.envOpen (kView seed number) pt c = op at *
  generalize commitK M = ck at *
  generalize kView seed number = view at *
  obtain ⟨o1, o2, o3⟩ := op
  unfold r3 at HO
  simp only at HO
  obtain ⟨isn, hisn⟩ : ∃ isn, isn = isNumK number := ⟨_, rfl⟩
  clear hw0 hx0 hb0 hb1 h hc hP hq hL
  cases isn with
  | false =>
    have hr : res = (zeroN, false) := by rw [HRES.out.1]; exact tryR_num hisn.symm
    subst hr
    unfold isNumK at hisn
    go_enter Tryz.func121, Tryz.ntmps121
    go_upto_region 1 with fail
    rw [← HW.out, ← hN]
    have HE := hid (HEND.out w0 (.int .u64 0) (.int .u64 0) (.int .u64 0) (.int .u64 0) (Ext.refl _))
    obtain ⟨z0, z1, z2, z3⟩ := four_cells HB1.out
    have zf := frozen_of HB1.out
    clear hN HO HK HV HSP HOW HRES HEND
    have hor : decide (number < 0) = true ∨ (decide (number < 0) = false ∧ decide (4 ≤ number) = true) := by
      by_cases h : number < 0
      · exact .inl (by simp [h])
      · have h' : 0 ≤ number := by omega
        refine .inr ⟨by simp; omega, ?_⟩
        simp [h'] at hisn
        simp [hisn]
    clear hisn
    rcases hor with h0 | ⟨h0, h4⟩
    · go_wp2_with fail
      obtain ⟨hE1, hE2⟩ := HE.out
      obtain ⟨r0, r1, r2, r3⟩ := four_cells hE1
      generalize (((w0.setCell ⟨N + 1, 0, none⟩ (.int .u64 0)).setCell ⟨N + 1, 1, none⟩ (.int .u64 0)).setCell ⟨N + 1, 2, none⟩ (.int .u64 0)).setCell ⟨N + 1, 3, none⟩ (.int .u64 0) = W at *
      exact bodyPost_ret (v := .tuple #[.agg #[.int .u64 0, .int .u64 0, .int .u64 0, .int .u64 0], .bool false]) (by simp [results, Tryz.results121, go_sem, r0, r1, r2, r3]) rfl ⟨rfl, hE2⟩
    · have h4' : decide (number ≥ 4) = true := h4
      go_wp2_with fail
      obtain ⟨hE1, hE2⟩ := HE.out
      obtain ⟨r0, r1, r2, r3⟩ := four_cells hE1
      generalize (((w0.setCell ⟨N + 1, 0, none⟩ (.int .u64 0)).setCell ⟨N + 1, 1, none⟩ (.int .u64 0)).setCell ⟨N + 1, 2, none⟩ (.int .u64 0)).setCell ⟨N + 1, 3, none⟩ (.int .u64 0) = W at *
      exact bodyPost_ret (v := .tuple #[.agg #[.int .u64 0, .int .u64 0, .int .u64 0, .int .u64 0], .bool false]) (by simp [results, Tryz.results121, go_sem, r0, r1, r2, r3]) rfl ⟨rfl, hE2⟩
  | true =>
    have hn0 : 0 ≤ number ∧ number < 4 := by unfold isNumK at hisn; simpa using hisn.symm
    have h0 : decide (number < 0) = false := by simp; omega
    have h4 : decide (4 ≤ number) = false := by simp; omega
    have HI := hid hisn.symm
    clear hisn
    go_enter Tryz.func121, Tryz.ntmps121
    go_upto_region 1 with fail
    rw [← HW.out, ← hN]
    clear hN
    go_upto_region 3 with fail
    clear h0 h4 hn0
    refine wp_region_T (fun v => (v.cell? ⟨N, 0, none⟩ = some (uv commit) ∧ v.cell? ⟨N, 1, none⟩ = some (uv pt.a) ∧ v.cell? ⟨N, 2, none⟩ = some (uv pt.b) ∧ v.cell? ⟨N, 3, none⟩ = some (.slice ca c.length cc)) ∧ Ext w0 v) 12 [(0, true), (1, true), (2, true), (4, true), (3, false), (5, false), (6, true), (7, true), (8, true), (9, true), (10, true), (11, true), (12, false)] (by kernel_rfl) (by kernel_rfl) (by intro c a d v w h; cases d <;> exact h) ?_
    intro ops hops
    have HS := keep0 H.out
    iterate 4
      refine wpT_take (v := ?_) (by rw [hops, List.getElem?_toArray]; rfl) (by first | rfl | (rw [hops]; rfl)) ?_ HS ?_
      rotate_left
      · intro v h; go_simp; with_reducible rfl
      simp only [Act.put, List.getElem_toArray, List.getElem_cons_zero, List.getElem_cons_succ, List.setIfInBounds_toArray, List.set_cons_zero, List.set_cons_succ]
    refine wpT_step (by rw [hops, List.getElem?_toArray]; rfl) (by first | rfl | (rw [hops]; rfl)) ?_
    intro K hK
    go_wp2_with fail
    refine (HV.out _).mono ?_
    rintro e w1 ⟨rfl, hx⟩
    have HS1 := keepE H.out HS hx
    clear HS hx
    refine hK _ _ ⟨fun _ => HS1, ?_⟩
    clear hK K
    refine wpT_step (by rw [hops, List.getElem?_toArray]; rfl) (by first | rfl | (rw [hops]; rfl)) ?_
    intro K hK
    go_wp2_with fail
    refine (HO.out _ (HX0.out.trans HS1.2)).mono ?_
    rintro e w2 ⟨rfl, hx⟩
    have HS2 := keepE H.out HS1 hx
    have HX2 := hid HS2.2
    clear HS1 hx
    refine hK _ _ ⟨fun _ => HS2, ?_⟩
    clear hK K
    iterate 6
      refine wpT_take (v := ?_) (by rw [hops, List.getElem?_toArray]; rfl) (by first | rfl | (rw [hops]; rfl)) ?_ HS2 ?_
      rotate_left
      · intro v h; go_simp; with_reducible rfl
      simp only [Act.put, List.getElem_toArray, List.getElem_cons_zero, List.getElem_cons_succ, List.setIfInBounds_toArray, List.set_cons_zero, List.set_cons_succ]
    clear HS2
    refine wpT_step (by rw [hops, List.getElem?_toArray]; rfl) (by first | rfl | (rw [hops]; rfl)) ?_
    intro K hK
    go_wp2_with fail
    try (with_reducible refine ⟨fun h => absurd h (by decide), ?_⟩)
    try rw [wpT_nil]
    try clear hops ops
    cases o3 with
    | false =>
      have hr : res = (zeroN, false) := by rw [HRES.out.1]; exact tryR_shut
      subst hr
      obtain ⟨z0, z1, z2, z3⟩ := four_cells (HX2.out.heap_some HB1.out)
      have zf := frozen_of (HX2.out.heap_some HB1.out)
      have HE := hid (HEND.out w2 (.int .u64 0) (.int .u64 0) (.int .u64 0) (.int .u64 0) HX2.out)
      clear HO HK HV HSP HOW HRES HEND
      go_wp2_with fail
      obtain ⟨hE1, hE2⟩ := HE.out
      obtain ⟨r0, r1, r2, r3⟩ := four_cells hE1
      generalize (((w2.setCell ⟨N + 1, 0, none⟩ (.int .u64 0)).setCell ⟨N + 1, 1, none⟩ (.int .u64 0)).setCell ⟨N + 1, 2, none⟩ (.int .u64 0)).setCell ⟨N + 1, 3, none⟩ (.int .u64 0) = W at *
      exact bodyPost_ret (v := .tuple #[.agg #[.int .u64 0, .int .u64 0, .int .u64 0, .int .u64 0], .bool false]) (by simp [results, Tryz.results121, go_sem, r0, r1, r2, r3]) rfl ⟨rfl, hE2⟩
    | true =>
      obtain ⟨cc1, cc2⟩ : ∃ x, x = ck ⟨o1, own, rho, o2⟩ := ⟨_, rfl⟩
      obtain ⟨k1, k2⟩ := cc1
      have hr := HRES.out.1
      rw [tryR_open HI.out HRES.out.2 cc2.symm] at hr
      have HK1 : Hid (∀ v, Ext w v → Calls Tryz.prog 144 #[.pointer (some ⟨b, 0, none⟩), .agg #[uv o1, uv own, uv rho, uv o2]] v fun e w' => e = .returned (.tuple #[uv k1, .bool k2]) ∧ Ext v w') := hid fun v k => by
        have := HK.out ⟨o1, own, rho, o2⟩ v k
        rw [← cc2] at this
        exact this
      have HR := hid hr
      clear HO HK HV HRES hr cc2
      go_wp2_with fail
      refine (HSP.out _).mono ?_
      rintro e w3 ⟨rfl, hx⟩
      have HX3 := hid (HX2.out.trans hx)
      clear hx
      go_wp2_with fail
      refine (HOW.out _).mono ?_
      rintro e w4 ⟨rfl, hx⟩
      have HX4 := hid (HX3.out.trans hx)
      clear hx
      go_wp2_with fail
      refine (HK1.out _ (HX0.out.trans (HX4.out.alloc _))).mono ?_
      rintro e w5 ⟨rfl, hx⟩
      have hb5 := hx.heap_some (heap_new w4 (.cells #[uv o1, uv own, uv rho, uv o2] 37))
      obtain ⟨P, hP⟩ : ∃ P, P = w4.heap.size := ⟨_, rfl⟩
      rw [← hP] at hb5 ⊢
      have HX5 := hid ((HX4.out.alloc _).trans hx)
      obtain ⟨p0, p1, p2, p3⟩ := four_cells hb5
      obtain ⟨c0, c1, c2, c3⟩ := H.out w5 HX5.out
      obtain ⟨z0, z1, z2, z3⟩ := four_cells (HX5.out.heap_some HB1.out)
      have zf := frozen_of (HX5.out.heap_some HB1.out)
      clear hx hb5 hP HK1
      cases k2 with
      | false =>
        have hr : res = (zeroN, false) := by rw [HR.out, Bool.false_and, if_neg (by simp)]
        subst hr
        have HE := hid (HEND.out w5 (.int .u64 0) (.int .u64 0) (.int .u64 0) (.int .u64 0) HX5.out)
        clear HEND HR HSP HOW
        go_wp2_with fail
        obtain ⟨hE1, hE2⟩ := HE.out
        obtain ⟨r0, r1, r2, r3⟩ := four_cells hE1
        generalize (((w5.setCell ⟨N + 1, 0, none⟩ (.int .u64 0)).setCell ⟨N + 1, 1, none⟩ (.int .u64 0)).setCell ⟨N + 1, 2, none⟩ (.int .u64 0)).setCell ⟨N + 1, 3, none⟩ (.int .u64 0) = W at *
        exact bodyPost_ret (v := .tuple #[.agg #[.int .u64 0, .int .u64 0, .int .u64 0, .int .u64 0], .bool false]) (by simp [results, Tryz.results121, go_sem, r0, r1, r2, r3]) rfl ⟨rfl, hE2⟩
      | true =>
        by_cases hk : k1 = commit
        case neg =>
          have hr : res = (zeroN, false) := by rw [HR.out, Bool.true_and, if_neg (by simpa using hk)]
          have hne : ((k1.toNat : Int) != (commit.toNat : Int)) = true := by
            have : k1.toNat ≠ commit.toNat := fun h => hk (UInt64.toNat_inj.1 h)
            simp; omega
          subst hr
          have HE := hid (HEND.out w5 (.int .u64 0) (.int .u64 0) (.int .u64 0) (.int .u64 0) HX5.out)
          clear HEND HR HSP HOW hk
          go_wp2_with fail
          obtain ⟨hE1, hE2⟩ := HE.out
          obtain ⟨r0, r1, r2, r3⟩ := four_cells hE1
          generalize (((w5.setCell ⟨N + 1, 0, none⟩ (.int .u64 0)).setCell ⟨N + 1, 1, none⟩ (.int .u64 0)).setCell ⟨N + 1, 2, none⟩ (.int .u64 0)).setCell ⟨N + 1, 3, none⟩ (.int .u64 0) = W at *
          exact bodyPost_ret (v := .tuple #[.agg #[.int .u64 0, .int .u64 0, .int .u64 0, .int .u64 0], .bool false]) (by simp [results, Tryz.results121, go_sem, r0, r1, r2, r3]) rfl ⟨rfl, hE2⟩
        subst hk
        have hr : res = (⟨o1, own, rho, o2⟩, true) := by rw [HR.out, Bool.true_and, if_pos (by simp)]
        have hne : ((k1.toNat : Int) != (k1.toNat : Int)) = false := by simp
        subst hr
        have HE := hid (HEND.out w5 (uv o1) (uv own) (uv rho) (uv o2) HX5.out)
        clear HEND HR HSP HOW
        go_wp2_with fail
        obtain ⟨hE1, hE2⟩ := HE.out
        obtain ⟨r0, r1, r2, r3⟩ := four_cells hE1
        generalize (((w5.setCell ⟨N + 1, 0, none⟩ (uv o1)).setCell ⟨N + 1, 1, none⟩ (uv own)).setCell ⟨N + 1, 2, none⟩ (uv rho)).setCell ⟨N + 1, 3, none⟩ (uv o2) = W at *
        exact bodyPost_ret (v := .tuple #[.agg #[uv o1, uv own, uv rho, uv o2], .bool true]) (by simp [results, Tryz.results121, go_sem, r0, r1, r2, r3]) rfl ⟨rfl, hE2⟩
end Go.Proofs.YtcikjcjfcanloaaGreat
namespace Go.Proofs.YtcikjcjfcanloaaGreat
open Go.RowKit
structure OutT where
  commit : UInt64
  p : E2
  cipher : List UInt64
structure TxT where
  anchor : UInt64
  marks : List UInt64
  outs : List OutT
  deposit : UInt64
  withdraw : UInt64
  fee : UInt64
  account : UInt64
  nonce : UInt64
  expiry : Int
  proof : List UInt8
structure BlkT where
  parent : UInt64
  height : Int
  miner : UInt64
  work : UInt64
  nonce : UInt64
  txs : List TxT
def lenB (n : Int) : List UInt8 := leB 4 (UInt64.ofNat (if 0 ≤ n ∧ n ≤ 4294967295 then n.toNat else 0))
def listB (l : List UInt64) : List UInt8 := lenB l.length ++ cat l
def bytesB (c : List UInt8) : List UInt8 := lenB c.length ++ c
def outB (o : OutT) : List UInt8 := leB 8 o.commit ++ (leB 8 o.p.a ++ (leB 8 o.p.b ++ listB o.cipher))
def outsB (l : List OutT) : List UInt8 := l.flatMap outB
def txTail (t : TxT) : List UInt8 := leB 8 t.deposit ++ (leB 8 t.withdraw ++ (leB 8 t.fee ++ (leB 8 t.account ++ (leB 8 t.nonce ++ (lenB t.expiry ++ bytesB t.proof)))))
def txB (t : TxT) : List UInt8 := leB 8 t.anchor ++ (listB t.marks ++ (lenB t.outs.length ++ (outsB t.outs ++ txTail t)))
def outOk (o : OutT) : Bool := decide (o.commit < big) && validP o.p && decide (o.cipher.length = 3) && allE o.cipher
def amtOk (t : TxT) : Bool :=
  decide (t.deposit.toNat ≤ 4294967295) && decide (t.withdraw.toNat ≤ 4294967295) && decide (t.fee.toNat ≤ 4294967295) && decide (t.account < big) && decide (t.nonce < big) &&
    (if 0 < t.deposit.toNat then decide (t.withdraw.toNat = 0) else decide (t.marks ≠ []) && decide (t.nonce.toNat = 0) && (decide (0 < t.withdraw.toNat) || decide (t.account.toNat = 0)))
def txOk (t : TxT) : Bool :=
  decide (t.marks.length ≤ 4) && allE t.marks && decide t.marks.Nodup && decide (t.outs.length ≤ 4) && t.outs.all outOk && amtOk t && decide (t.anchor < big) && decide (0 ≤ t.expiry) && decide (t.expiry ≤ 1048576)
def txV (t : TxT) : Int := if txOk t then (if t.proof.length ≤ 1048576 then 0 else 3) else 1
def sameCi : List OutT → List OutT → Bool
  | a :: r, b :: s => decide (a.cipher.length = b.cipher.length) && sameCi r s
  | _, _ => true
def sameTx (a b : TxT) : Bool := decide (a.outs.length = b.outs.length) && decide (a.expiry = b.expiry) && sameCi a.outs b.outs && decide (txB a = txB b)
def sameTxs : List TxT → List TxT → Bool
  | a :: r, b :: s => sameTx a b && sameTxs r s
  | _, _ => true
def sameHd (a b : BlkT) : Bool := decide (a.parent = b.parent) && decide (a.height = b.height) && decide (a.miner = b.miner) && decide (a.work = b.work) && decide (a.nonce = b.nonce) && decide (a.txs.length = b.txs.length)
def sameBlk (a b : BlkT) : Bool := sameHd a b && sameTxs a.txs b.txs
theorem lenB_length (n : Int) : (lenB n).length = 4 := leB_length _ _
theorem lenB_inj {m n : Int} (hm : 0 ≤ m ∧ m ≤ 4294967295) (hn : 0 ≤ n ∧ n ≤ 4294967295) (h : lenB m = lenB n) : m = n := by
  unfold lenB at h
  rw [if_pos hm, if_pos hn] at h
  have h1 := leB_small 4 _ _ (by rw [UInt64.toNat_ofNat']; omega) (by rw [UInt64.toNat_ofNat']; omega) h
  have h2 := congrArg UInt64.toNat h1
  rw [UInt64.toNat_ofNat', UInt64.toNat_ofNat'] at h2
  omega
theorem outB_length {o : OutT} (h : outOk o = true) : (outB o).length = 52 := by
  unfold outOk at h
  simp only [Bool.and_eq_true, decide_eq_true_eq] at h
  unfold outB listB
  simp only [List.length_append, leB_length, lenB_length, cat_length, h.1.2]
theorem outsB_length {l : List OutT} (h : l.all outOk = true) : (outsB l).length = 52 * l.length := by
  induction l with
  | nil => rfl
  | cons o r ih =>
    rw [List.all_cons, Bool.and_eq_true] at h
    unfold outsB at ih ⊢
    rw [List.flatMap_cons, List.length_append, outB_length h.1, ih h.2, List.length_cons]
    omega
theorem sameCi_ok : ∀ {a b : List OutT}, a.all outOk = true → b.all outOk = true → sameCi a b = true
  | [], _, _, _ => by unfold sameCi; rfl
  | _ :: _, [], _, _ => by unfold sameCi; rfl
  | x :: r, y :: s, ha, hb => by
    rw [List.all_cons, Bool.and_eq_true] at ha hb
    unfold sameCi
    rw [sameCi_ok ha.2 hb.2, Bool.and_true, decide_eq_true_eq]
    have h1 := ha.1
    have h2 := hb.1
    unfold outOk at h1 h2
    simp only [Bool.and_eq_true, decide_eq_true_eq] at h1 h2
    rw [h1.1.2, h2.1.2]
structure TxParts (t : TxT) : Prop where
  ml : t.marks.length ≤ 4
  ol : t.outs.length ≤ 4
  oo : t.outs.all outOk = true
  ex : 0 ≤ t.expiry ∧ t.expiry ≤ 1048576
  pl : t.proof.length ≤ 1048576
theorem txV_parts {t : TxT} (h : txV t = 0) : TxParts t := by
  unfold txV at h
  split at h
  · next h1 =>
    split at h
    · next h2 =>
      unfold txOk at h1
      simp only [Bool.and_eq_true, decide_eq_true_eq] at h1
      obtain ⟨⟨⟨⟨⟨⟨⟨⟨a1, a2⟩, a3⟩, a4⟩, a5⟩, a6⟩, a7⟩, a8⟩, a9⟩ := h1
      exact ⟨a1, a4, a5, ⟨a8, a9⟩, h2⟩
    · omega
  · omega
theorem txTail_inj {a b : TxT} (ha : TxParts a) (hb : TxParts b) (h : txTail a = txTail b) : a.expiry = b.expiry := by
  unfold txTail at h
  have h1 := (List.append_inj h (by rw [leB_length, leB_length])).2
  have h2 := (List.append_inj h1 (by rw [leB_length, leB_length])).2
  have h3 := (List.append_inj h2 (by rw [leB_length, leB_length])).2
  have h4 := (List.append_inj h3 (by rw [leB_length, leB_length])).2
  have h5 := (List.append_inj h4 (by rw [leB_length, leB_length])).2
  have h6 := (List.append_inj h5 (by rw [lenB_length, lenB_length])).1
  exact lenB_inj (by have := ha.ex; omega) (by have := hb.ex; omega) h6
theorem txB_same {a b : TxT} (ha : txV a = 0) (hb : txV b = 0) (h : txB a = txB b) : sameTx a b = true := by
  have pa := txV_parts ha
  have pb := txV_parts hb
  have h0 := h
  unfold txB listB at h
  have h1 := (List.append_inj h (by rw [leB_length, leB_length])).2
  rw [List.append_assoc, List.append_assoc] at h1
  have h2 := List.append_inj h1 (by rw [lenB_length, lenB_length])
  have hm : a.marks.length = b.marks.length := by
    have := lenB_inj (by have := pa.ml; omega) (by have := pb.ml; omega) h2.1
    omega
  have h3 := (List.append_inj h2.2 (by rw [cat_length, cat_length, hm])).2
  have h4 := List.append_inj h3 (by rw [lenB_length, lenB_length])
  have ho : a.outs.length = b.outs.length := by
    have := lenB_inj (by have := pa.ol; omega) (by have := pb.ol; omega) h4.1
    omega
  have h5 := (List.append_inj h4.2 (by rw [outsB_length pa.oo, outsB_length pb.oo, ho])).2
  have he := txTail_inj pa pb h5
  unfold sameTx
  simp [ho, he, sameCi_ok pa.oo pb.oo, h0]
theorem sameTx_bytes {a b : TxT} (h : sameTx a b = true) : txB a = txB b := by
  unfold sameTx at h
  simp only [Bool.and_eq_true, decide_eq_true_eq] at h
  exact h.2
end Go.Proofs.YtcikjcjfcanloaaGreat
