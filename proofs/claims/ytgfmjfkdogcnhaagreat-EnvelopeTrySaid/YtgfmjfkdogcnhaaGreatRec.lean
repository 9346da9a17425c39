/- record: a question that was not known is written down. -/
import Derived.Test.YtgfmjfkdogcnhaaGreatOrc
import Derived.Deep.Heap
set_option linter.unusedSimpArgs false
namespace Go.Proofs.YtgfmjfkdogcnhaaGreat
open Go.RowKit
attribute [local irreducible] perm fAdd fMul fPow fSub fNeg fRed

section
variable {P : Program}
theorem eqIn_map_nil (w : World) (d : Nat) (t k e : TypeId) (p : Option Nat) (h : P.underlying t = some (.map k e)) : (Op.equalIn (d + 1) t (.map p) (.map none)).run P w = .ok p.isNone w := by
  cases p <;> simp [Op.equalIn, run_underlying h]
theorem eq_map_nil (w : World) (t k e : TypeId) (p : Option Nat) (h : P.underlying t = some (.map k e)) : (Op.equal t (.map p) (.map none)).run P w = .ok p.isNone w := eqIn_map_nil w 9999 t k e p h
end
theorem map_there (m : Nat) (w : World) : (binOp .eql 100 (.map (some m)) (.map none)).run Tryz.prog w = .ok (.bool false) w := by
  have h2 := eq_map_nil (P := Tryz.prog) w 100 9 3 (some m) (by kernel_rfl)
  simp [binOp, h2]
theorem Tryz.infoQ : (Tryz.prog.info? 111).map (fun i => (i.zero, i.size, i.bytes)) = some (some (.agg #[.int .u64 0, .slice none 0 0, .int .u64 0]), 3, 40) := by kernel_rfl

theorem RdC.block {w : World} {g n : Nat} {cs : Array Value} {T : TypeId} (h : w.heap[g]? = some (.cells cs T (0, 0))) (hn : n ≤ maxLen) : RdC w (.slice (some ⟨g, 0, none⟩) n n) n cs.toList := by
  refine ⟨_, n, rfl, Nat.le_refl _, hn, (fun h => by cases h), fun ad ha => ?_⟩
  obtain rfl := Option.some.inj ha
  refine ⟨rfl, fun j u hu => ?_⟩
  rw [cell_of h]
  simpa using hu
/-- The block of a slice of one's own. -/
theorem ownsRow_block {w : World} {e : TypeId} {size n : Nat} {v : Value} {xs : List Value} (h : w.ownsRow 0 e size v n xs) {k : Nat} (hk : blk v = some k) : ∃ cs, w.heap[k]? = some (.cells cs e (0, 0)) := by
  rcases h.2 with ⟨rfl, _⟩ | ⟨g, cap, cur, rfl, _, hg, _⟩
  · simp [Value.ownBlock] at hk
  · simp only [Value.ownBlock, Option.some.injEq] at hk
    subst hk; exact ⟨cur, hg⟩
theorem KMap.block {κ : Type} {key : κ → Value} {w : World} {m : Nat} {L : List (κ × Value)} (h : KMap key w m L) : ∃ es c, w.heap[m]? = some (.map es c) := by
  obtain ⟨es, c, h1, _⟩ := h; exact ⟨es, c, h1⟩
/-- Blocks of different kinds are different blocks. -/
theorem OrcIn.q_ne {w : World} {b : Nat} {M : Orc} {F : Nat → Prop} {qv : Value} {mk ms mp : Nat} {Q : List (Qn × Value)} {S : List (Sl × Value)} (h : OrcIn w b M F qv mk ms mp Q S) {k : Nat} (hk : blk qv = some k) : k ≠ b ∧ k ≠ mk ∧ k ≠ ms ∧ k ≠ mp := by
  obtain ⟨cs, h1⟩ := ownsRow_block h.qown hk
  have hm : ∀ {κ : Type} {key : κ → Value} {m : Nat} {L : List (κ × Value)}, KMap key w m L → k ≠ m := by
    intro κ key m L hm he
    obtain ⟨es, c, h2⟩ := hm.block
    rw [← he, h1] at h2; cases h2
  refine ⟨?_, hm h.known, hm h.seals, hm h.proofs⟩
  rintro rfl
  have := h.self
  rw [h1] at this
  injection this with this
  injection this with _ h2
  exact absurd h2 (by decide)
theorem OrcIn.b_ne {w : World} {b : Nat} {M : Orc} {F : Nat → Prop} {qv : Value} {mk ms mp : Nat} {Q : List (Qn × Value)} {S : List (Sl × Value)} (h : OrcIn w b M F qv mk ms mp Q S) : b ≠ mk ∧ b ≠ ms ∧ b ≠ mp := by
  have hm : ∀ {κ : Type} {key : κ → Value} {m : Nat} {L : List (κ × Value)}, KMap key w m L → b ≠ m := by
    intro κ key m L hm he
    obtain ⟨es, c, h2⟩ := hm.block
    rw [← he, h.self] at h2; cases h2
  exact ⟨hm h.known, hm h.seals, hm h.proofs⟩
theorem OrcIn.u_ne {w : World} {b : Nat} {M : Orc} {F : Nat → Prop} {qv : Value} {mk ms mp : Nat} {Q : List (Qn × Value)} {S : List (Sl × Value)} (h : OrcIn w b M F qv mk ms mp Q S) {v : Value} {l : List UInt64} (hv : OwnU w v l) {k : Nat} (hk : blk v = some k) :
    k ≠ b ∧ k ≠ mk ∧ k ≠ ms ∧ k ≠ mp ∧ blk qv ≠ some k := by
  obtain ⟨cs, h1⟩ := ownsRow_block hv hk
  have hm : ∀ {κ : Type} {key : κ → Value} {m : Nat} {L : List (κ × Value)}, KMap key w m L → k ≠ m := by
    intro κ key m L hm he
    obtain ⟨es, c, h2⟩ := hm.block
    rw [← he, h1] at h2; cases h2
  refine ⟨?_, hm h.known, hm h.seals, hm h.proofs, ?_⟩
  · rintro rfl
    have := h.self
    rw [h1] at this
    injection this with this
    injection this with _ h2
    exact absurd h2 (by decide)
  · intro hq
    obtain ⟨cs', h2⟩ := ownsRow_block h.qown hq
    rw [h1] at h2
    injection h2 with h2
    injection h2 with _ h2
    exact absurd h2 (by decide)
theorem keepK {G : Nat → Prop} {w0 w w' : World} {C : World → Prop} (H : ∀ v, Kp G w0 v → C v) (h : C w ∧ Kp G w0 w) (k : Ext w w') : C w' ∧ Kp G w0 w' := ⟨H _ (h.2.ext k), h.2.ext k⟩
theorem keepKs {G : Nat → Prop} {w0 w' : World} {C : World → Prop} (H : ∀ v, Kp G w0 v → C v) (k : Kp G w0 w') : C w' ∧ Kp G w0 w' := ⟨H _ k, k⟩

def RecO (w : World) (b : Nat) (M : Orc) (F : Nat → Prop) (e : Ending) (w' : World) : Prop := e = .returned (.tuple #[]) ∧ ∃ F', OrcTo w b F M w' F'

set_option maxRecDepth 100000 in
set_option maxHeartbeats 800000 in
theorem record_any {w : World} {b : Nat} {M : Orc} {F : Nat → Prop} {label a : UInt64} {lv : Value} {l : List UInt64} (h : OrcAt w b M F) (hl : RdU w lv l) (hlf : ∀ k, blk lv = some k → ¬ F k)
    (hL : l.length ≤ 1000000000000) (hq : M.qs.length ≤ 1000000000) (hnew : assoc (knownL M.qs) (keyS [label] l) = none) :
    Calls Tryz.prog 73 #[.pointer (some ⟨b, 0, none⟩), .string (keyS [label] l), uv label, lv, uv a] w (RecO w b (M.add label l a) F) := by
  obtain ⟨qv, mk, ms, mp, Q, S, hin⟩ := h
  obtain ⟨qa, qc, rfl, -⟩ := ownsRow_rd hin.qown
  obtain ⟨-, -, -, c3, c4, -⟩ := self_cells hin.self
  have H : ∀ v, Ext w v → v.cell? ⟨b, 3, none⟩ = some (.slice qa Q.length qc) ∧ v.cell? ⟨b, 4, none⟩ = some (.map (some mk)) := fun v k => ⟨k.cell_some c3, k.cell_some c4⟩
  have HH := hid H
  have HIN := hid hin
  have HL := hid hl
  have HLF := hid hlf
  have HLL := hid hL
  have HQ := hid hq
  have HN := hid hnew
  clear H hin hl hlf hL hq hnew
  have hcmp := map_there mk
  go_enter Tryz.func73, Tryz.ntmps73
  go_wp2_with fail
  refine wp_region_T (fun v => (v.cell? ⟨b, 3, none⟩ = some (.slice qa Q.length qc) ∧ v.cell? ⟨b, 4, none⟩ = some (.map (some mk))) ∧ Ext w v) 10 [(0, true), (1, true), (2, true), (3, true), (4, true), (5, true), (6, true), (7, true), (8, true), (9, true), (10, false)] (by kernel_rfl) (by kernel_rfl) (by intro c a d v w h; cases d <;> exact h) ?_
  intro ops hops
  have HS := keep0 HH.out
  iterate 10
    refine wpT_take (v := ?_) (by rw [hops, List.getElem?_toArray]; rfl) (by first | rfl | (rw [hops]; rfl)) ?_ HS ?_
    rotate_left
    · intro v h; go_simp; with_reducible rfl
    simp only [Act.put, List.getElem_toArray, List.getElem_cons_zero, List.getElem_cons_succ, List.setIfInBounds_toArray, List.set_cons_zero, List.set_cons_succ]
  refine wpT_step (by rw [hops, List.getElem?_toArray]; rfl) (by first | rfl | (rw [hops]; rfl)) ?_
  intro K hK
  go_wp2_with fail
  obtain ⟨w1, hr, hkm, hkp⟩ := run_update (P := Tryz.prog) keyStr w.drew 100 9 3 (by kernel_rfl) (by kernel_rfl) mk (knownL M.qs) (HIN.out.ext (Ext.refl _).drew).known (keyS [label] l) (.int .i64 (Q.length : Int))
  rw [hr]
  have HKM := hid hkm
  have HKP := hid hkp
  clear hkm hkp hr
  go_wp2_with fail
  refine ⟨fun h => absurd h (by decide), ?_⟩
  rw [wpT_nil]
  clear hops ops
  have c3' := HKP.out.cell_some (HIN.out.b_ne.1) ((Ext.refl w).drew.cell_some c3)
  have H3 : ∀ v, Kp (fun k => some k = blk (.slice qa Q.length qc)) w1 v → v.cell? ⟨b, 3, none⟩ = some (.slice qa Q.length qc) := fun v k => k.cell_some (fun h => (HIN.out.q_ne h.symm).1 rfl) c3'
  have HH3 := hid H3
  have HC3 := hid c3'
  clear H3 c3 c4 c3'
  go_wp2_with fail
  refine wp_region_T (fun v => v.cell? ⟨b, 3, none⟩ = some (.slice qa Q.length qc) ∧ Kp (fun k => some k = blk (.slice qa Q.length qc)) w1 v) 12 [(0, true), (1, true), (2, true), (3, true), (4, true), (5, true), (6, true), (8, true), (7, false), (9, true), (10, false), (11, false), (12, false), (13, false), (14, false)] (by kernel_rfl) (by kernel_rfl) (by intro c a d v w h; cases d <;> exact h) ?_
  intro ops hops
  have HS := keepKs HH3.out (Kp.refl _ w1).drew
  iterate 8
    refine wpT_take (v := ?_) (by rw [hops, List.getElem?_toArray]; rfl) (by first | rfl | (rw [hops]; rfl)) ?_ HS ?_
    rotate_left
    · intro v h; go_simp; with_reducible rfl
    simp only [Act.put, List.getElem_toArray, List.getElem_cons_zero, List.getElem_cons_succ, List.setIfInBounds_toArray, List.set_cons_zero, List.set_cons_succ]
  refine wpT_step (by rw [hops, List.getElem?_toArray]; rfl) (by first | rfl | (rw [hops]; rfl)) ?_
  intro K hK
  go_wp2_with fail
  have hl1 : RdU w1.drew lv l := ((HL.out.ext (Ext.refl _).drew).kp HKP.out (by rintro k hk rfl; exact HLF.out _ hk HIN.out.foot.2.1)).ext (Ext.refl _).drew
  refine (copied_any lv l _ hl1 HLL.out).mono ?_
  rintro e w2 ⟨ev, rfl, hev, hE2, hnb⟩
  obtain ⟨ea, ec, rfl, -⟩ := ownsRow_rd hev
  have HS2 := keepK HH3.out HS hE2
  have HEV := hid hev
  have HE2 := hid hE2
  have HNB := hid hnb
  clear hev hE2 hnb hl1
  refine hK _ _ ⟨fun _ => HS2, ?_⟩
  clear hK K
  iterate 1
    refine wpT_take (v := ?_) (by rw [hops, List.getElem?_toArray]; rfl) (by first | rfl | (rw [hops]; rfl)) ?_ HS2 ?_
    rotate_left
    · intro v h; go_simp; with_reducible rfl
    simp only [Act.put, List.getElem_toArray, List.getElem_cons_zero, List.getElem_cons_succ, List.setIfInBounds_toArray, List.set_cons_zero, List.set_cons_succ]
  refine wpT_step (by rw [hops, List.getElem?_toArray]; rfl) (by first | rfl | (rw [hops]; rfl)) ?_
  intro K hK
  go_wp2_with fail
  have HS3 := keepK HH3.out HS2 ((Ext.refl _).alloc (.cells #[uv label, .slice ea l.length ec, uv a] 111))
  refine ⟨fun _ => HS3, ?_⟩
  obtain ⟨i0, hi, hz0, hz1, hz2⟩ := info_parts Tryz.infoQ
  have hrd : RdC (w2.alloc (.cells #[uv label, .slice ea l.length ec, uv a] 111)) (.slice (some ⟨w2.heap.size, 0, none⟩) 1 1) 1 [uv label, .slice ea l.length ec, uv a] :=
    RdC.block (heap_new _ _) (by unfold maxLen; omega)
  have hownq := ownsRow_kp ((ownsRow_kp HIN.out.qown ((Kp.refl _ w).drew.trans HKP.out) (fun k hk h => (HIN.out.q_ne hk).2.1 h))) (Kp.of_ext (F := fun _ => False) (((Ext.refl w1).drew.trans HE2.out).alloc (.cells #[uv label, .slice ea l.length ec, uv a] 111))) (fun _ _ h => h)
  have hlen : Q.length = M.qs.length := by rw [← HIN.out.qs, List.length_map]
  refine wpT_step (by rw [hops, List.getElem?_toArray]; rfl) (by first | rfl | (rw [hops]; rfl)) ?_
  intro K hK
  refine wp_app (P := Tryz.prog) _ _ 33 rfl 111 i0 (.agg #[.int .u64 0, .slice none 0 0, .int .u64 0]) 3 40 (by kernel_rfl) hi hz0 hz1 hz2 rfl (by decide) (.slice qa Q.length qc) Q.length (qCells Q) rfl hownq _ 1 [uv label, .slice ea l.length ec, uv a] rfl hrd rfl ?_ ?_ ?_ ?_
  · intro u hu; simp only [List.mem_cons, List.not_mem_nil, or_false] at hu; rcases hu with rfl | rfl | rfl <;> rfl
  · have := HQ.out; unfold maxLen; omega
  · have := HQ.out; omega
  intro v3 w3 hown3 hk3 hb3
  obtain ⟨va, vc, rfl, -⟩ := ownsRow_rd hown3
  have HOWN3 := hid hown3
  have HK3 := hid hk3
  have HB3 := hid hb3
  have HLEN := hid hlen
  have HOWNQ := hid hownq
  clear hown3 hb3 hlen hownq hrd
  have HS4 := keepKs HH3.out (HS3.2.trans hk3)
  clear hk3
  refine hK _ _ ⟨fun _ => HS4, ?_⟩
  clear hK K
  have hself3 := HS4.2.heap_some (fun h => (HIN.out.q_ne h.symm).1 rfl) (HKP.out.heap_some HIN.out.b_ne.1 ((Ext.refl w).drew.heap_some HIN.out.self))
  have hfz := frozen_of hself3
  have HSELF3 := hid hself3
  have hc3 := HS4.1
  have HS4' := hid HS4
  clear HS HS2 HS3 HS4 hself3
  refine wpT_step (by rw [hops, List.getElem?_toArray]; rfl) (by first | rfl | (rw [hops]; rfl)) ?_
  intro K hK
  go_wp2_with fail
  refine ⟨fun h => absurd h (by decide), ?_⟩
  refine wpT_step (by rw [hops, List.getElem?_toArray]; rfl) (by first | rfl | (rw [hops]; rfl)) ?_
  intro K hK
  go_wp2_with fail
  refine ⟨fun h => absurd h (by decide), ?_⟩
  refine wpT_step (by rw [hops, List.getElem?_toArray]; rfl) (by first | rfl | (rw [hops]; rfl)) ?_
  intro K hK
  go_wp2_with fail
  refine ⟨fun h => absurd h (by decide), ?_⟩
  rw [wpT_nil]
  clear hops ops
  go_wp2
  have HIN := HIN.out
  -- what is untouched
  have hkk : ∀ k, k < w.heap.size → k ≠ b → k ≠ mk → some k ≠ blk (.slice qa Q.length qc) → (w3.setCell ⟨b, 3, none⟩ (.slice va (Q.length + 1) vc)).heap[k]? = w.heap[k]? := by
    intro k hk hkb hkm hkq
    rw [heap_setCell_ne hkb, HS4'.out.2.block k (Nat.lt_of_lt_of_le hk HKP.out.size) hkq, HKP.out.block k hk hkm]
    rfl
  have hsz : w.heap.size ≤ (w3.setCell ⟨b, 3, none⟩ (.slice va (Q.length + 1) vc)).heap.size := by
    simp only [World.setCell, Array.size_modify]
    exact Nat.le_trans HKP.out.size HS4'.out.2.size
  have hw1 : w.heap.size ≤ w1.heap.size := HKP.out.size
  have hbq : blk (.slice qa Q.length qc) ≠ some b := fun h => (HIN.q_ne h).1 rfl
  have hmq : blk (.slice qa Q.length qc) ≠ some mk := fun h => (HIN.q_ne h).2.1 rfl
  -- the slice of questions
  have hvb : ∀ k, blk (.slice va (Q.length + 1) vc) = some k → F k ∨ w.heap.size ≤ k := by
    intro k hk
    rcases HB3.out with h | h
    · rw [h] at hk; exact .inl (HIN.foot.2.2.2.2.1 k hk)
    · rw [h] at hk
      right
      have h1 : w1.heap.size ≤ w2.heap.size := HE2.out.size
      have h2 : k = (w2.alloc (.cells #[uv label, .slice ea l.length ec, uv a] 111)).heap.size := (Option.some.inj hk).symm
      rw [World.size_alloc] at h2
      omega
  have hown : (w3.setCell ⟨b, 3, none⟩ (.slice va (Q.length + 1) vc)).ownsRow 0 111 3 (.slice va (Q.length + 1) vc) (Q.length + 1) (qCells (Q ++ [(⟨label, l, a⟩, .slice ea l.length ec)])) := by
    have := ownsRow_kp HOWN3.out ((Kp.refl (fun k => k = b) w3).setCell (p := ⟨b, 3, none⟩) (.inl rfl) (.slice va (Q.length + 1) vc)) (by
      rintro k hk rfl
      obtain ⟨cs, h1⟩ := ownsRow_block HOWN3.out hk
      rw [HSELF3.out] at h1
      injection h1 with h1
      injection h1 with _ h1
      exact absurd h1 (by decide))
    simpa [qCells] using this
  -- the elements of the new question
  have hevo : OwnU (w3.setCell ⟨b, 3, none⟩ (.slice va (Q.length + 1) vc)) (.slice ea l.length ec) l := by
    have h1 : OwnU (w2.alloc (.cells #[uv label, .slice ea l.length ec, uv a] 111)) (.slice ea l.length ec) l := ownsRow_ext HEV.out ((Ext.refl _).alloc _)
    refine ownsRow_kp (ownsRow_kp h1 HK3.out ?_) ((Kp.refl (fun k => k = b) w3).setCell (p := ⟨b, 3, none⟩) (.inl rfl) (.slice va (Q.length + 1) vc)) ?_
    · intro k hk hq
      have h2 : w1.heap.size ≤ k := HNB.out k hk
      obtain ⟨cs, h3⟩ := ownsRow_block HIN.qown hq.symm
      have h4 := heap_lt h3
      omega
    · rintro k hk rfl
      have h2 : w1.heap.size ≤ k := HNB.out _ hk
      have h4 := heap_lt HIN.self
      omega
  have hevb : ∀ k, blk (.slice ea l.length ec) = some k → w.heap.size ≤ k := by
    intro k hk
    have h2 : w1.heap.size ≤ k := HNB.out k hk
    omega
  have hkn : KMap Value.string (w3.setCell ⟨b, 3, none⟩ (.slice va (Q.length + 1) vc)) mk (knownL (M.add label l a).qs) := by
    have h1 := HKM.out
    rw [assocSet_new _ _ _ HN.out] at h1
    have h2 : knownL (M.add label l a).qs = knownL M.qs ++ [(keyS [label] l, .int .i64 (Q.length : Int))] := by
      rw [HLEN.out]; exact knownL_snoc _ _
    rw [h2]
    refine h1.of_heap ?_
    rw [heap_setCell_ne (fun h => HIN.b_ne.1 h.symm)]
    exact HS4'.out.2.block mk h1.lt (fun h => hmq h.symm)
  refine bodyPost_ret (v := .tuple #[]) (by simp [results, Tryz.results73, go_sem]) rfl ⟨rfl, fun k => F k ∨ (w.heap.size ≤ k ∧ k < (w3.setCell ⟨b, 3, none⟩ (.slice va (Q.length + 1) vc)).heap.size), ?_, ?_, ?_, fun k h => .inl h⟩
  · refine ⟨.slice va (Q.length + 1) vc, mk, ms, mp, Q ++ [(⟨label, l, a⟩, .slice ea l.length ec)], S, ?_⟩
    exact {
      self := heap_setCell_same HSELF3.out 3 _
      qown := by simpa using hown
      qs := by simp [HIN.qs, Orc.add]
      elems := by
        intro x hx
        rcases List.mem_append.1 hx with hx | hx
        · have h1 := HIN.elems x hx
          refine ⟨ownsRow_of h1.1 fun k hk => ?_, fun k hk => .inl (h1.2 k hk)⟩
          have hne := HIN.u_ne h1.1 hk
          exact hkk k (ownsRow_lt h1.1 hk) hne.1 hne.2.1 (fun h => hne.2.2.2.2 h.symm)
        · rw [List.mem_singleton] at hx
          subst hx
          exact ⟨hevo, fun k hk => .inr ⟨hevb k hk, ownsRow_lt hevo hk⟩⟩
      known := hkn
      seals := HIN.seals.of_heap (hkk ms HIN.seals.lt (fun h => HIN.b_ne.2.1 h.symm) (fun h => HIN.apart.1 h.symm) (fun h => (HIN.q_ne h.symm).2.2.1 rfl))
      ss := HIN.ss
      plains := by
        intro x hx
        have h1 := HIN.plains x hx
        refine ⟨ownsRow_of h1.1 fun k hk => ?_, fun k hk => .inl (h1.2 k hk)⟩
        have hne := HIN.u_ne h1.1 hk
        exact hkk k (ownsRow_lt h1.1 hk) hne.1 hne.2.1 (fun h => hne.2.2.2.2 h.symm)
      proofs := HIN.proofs.of_heap (hkk mp HIN.proofs.lt (fun h => HIN.b_ne.2.2 h.symm) (fun h => HIN.apart.2.1 h.symm) (fun h => (HIN.q_ne h.symm).2.2.2 rfl))
      apart := HIN.apart
      foot := by
        refine ⟨.inl HIN.foot.1, .inl HIN.foot.2.1, .inl HIN.foot.2.2.1, .inl HIN.foot.2.2.2.1, ?_, ?_⟩
        · intro k hk
          rcases hvb k hk with h | h
          · exact .inl h
          · exact .inr ⟨h, ownsRow_lt hown hk⟩
        · rintro k (h | h)
          · exact Nat.lt_of_lt_of_le (HIN.foot.2.2.2.2.2 k h) hsz
          · exact h.2 }
  · refine ⟨?_, ?_, ?_, hsz, fun k hk hF => hkk k hk (fun h => hF (h ▸ HIN.foot.1)) (fun h => hF (h ▸ HIN.foot.2.1)) (fun h => hF (HIN.foot.2.2.2.2.1 k h.symm))⟩
    · exact HS4'.out.2.os.trans HKP.out.os
    · exact HS4'.out.2.tape.trans (HKP.out.tape)
    · exact HS4'.out.2.output.trans HKP.out.output
  · rintro k (h | h)
    · exact .inl h
    · exact .inr h.1
end Go.Proofs.YtgfmjfkdogcnhaaGreat
