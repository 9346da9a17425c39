/- Prove and Proved of an ideal oracle. -/
import Derived.Test.YtdkilbnocmnekaaTake
set_option linter.unusedSimpArgs false
namespace Go.Proofs.Ytdkilbnocmnekaa
open Go.RowKit
attribute [local irreducible] perm fAdd fMul fPow fSub fNeg fRed drawOf nextState
section
variable {κ : Type} [BEq κ] [LawfulBEq κ] {P : Program} {key : κ → Value} {d : TypeDesc}
end
theorem zero_bool (w : World) : (zeroValue 4).run Try.prog w = .ok (.bool false) w := by
  have h : (Try.prog.info? 4).map (fun i => i.zero) = some (some (.bool false)) := by kernel_rfl
  obtain ⟨i, hi, hz⟩ := Option.map_eq_some_iff.1 h
  simp [zeroValue, typeInfo, Sem.run_bind, hi, hz, go_sem]
theorem run_lookup1 {P : Program} (w : World) (t tk te : TypeId) (z : Value) (ht : P.underlying t = some (.map tk te)) (htk : P.underlying tk = some .string) (hz : (zeroValue te).run P w = .ok z w)
    (m : Nat) (L : List (ByteArray × Value)) (hm : KMap Value.string w m L) (k : ByteArray) :
    (Instr.lookup t (.map (some m)) (.string k) false).run P w = .ok ((assoc L k).getD z) w := by
  obtain ⟨es, c, h1, h2⟩ := hm
  have hc := keyStr.check P tk w es.isEmpty k htk
  cases ha : assoc L k with
  | none => simp [Instr.lookup, run_underlying ht, MapKept.run_getObj_map h1, hc, Instr.findKey, run_underlying htk, findNow_none keyStr k es.toList L 0 h2 ha, hz, Result.andThen]
  | some v =>
    obtain ⟨j, g1, _⟩ := findNow_some keyStr k v es.toList L 0 h2 ha
    simp [Instr.lookup, run_underlying ht, MapKept.run_getObj_map h1, hc, Instr.findKey, run_underlying htk, g1, Result.andThen]
def provedIn (ps : List (UInt64 × List UInt64)) (s : UInt64) (l : List UInt64) : Bool := ps.any fun x => x.1 == s && x.2 == l
def Orc.addProof (M : Orc) (x : UInt64 × List UInt64) : Orc := { M with proofs := M.proofs ++ [x] }
theorem assoc_proofL (ps : List (UInt64 × List UInt64)) (s : UInt64) (l : List UInt64) : assoc (proofL ps) (keyS [s] l) = if provedIn ps s l then some (.bool true) else none := by
  induction ps with
  | nil => rfl
  | cons x r ih =>
    have hk : (keyS [x.1] x.2 == keyS [s] l) = (x.1 == s && x.2 == l) := by
      rw [Bool.eq_iff_iff]
      simp only [beq_iff_eq, Bool.and_eq_true]
      constructor
      · intro h; have := keyS_inj (ns := [x.1]) (ms := [s]) rfl h; exact ⟨by simpa using this.1, this.2⟩
      · rintro ⟨h1, h2⟩; rw [h1, h2]
    unfold proofL at ih ⊢
    rw [List.map_cons, assoc, hk, ih]
    unfold provedIn
    rw [List.any_cons]
    cases x.1 == s && x.2 == l <;> simp
theorem assocSet_proofL (ps : List (UInt64 × List UInt64)) (s : UInt64) (l : List UInt64) : assocSet (proofL ps) (keyS [s] l) (.bool true) = proofL (if provedIn ps s l then ps else ps ++ [(s, l)]) := by
  cases h : provedIn ps s l with
  | false =>
    rw [assocSet_new _ _ _ (by rw [assoc_proofL, h]; rfl)]
    simp [proofL]
  | true =>
    simp only [if_true]
    induction ps with
    | nil => cases h
    | cons x r ih =>
      have hk : (keyS [x.1] x.2 == keyS [s] l) = (x.1 == s && x.2 == l) := by
        rw [Bool.eq_iff_iff]
        simp only [beq_iff_eq, Bool.and_eq_true]
        constructor
        · intro h; have := keyS_inj (ns := [x.1]) (ms := [s]) rfl h; exact ⟨by simpa using this.1, this.2⟩
        · rintro ⟨h1, h2⟩; rw [h1, h2]
      unfold proofL at ih ⊢
      rw [List.map_cons, assocSet, hk]
      unfold provedIn at h
      rw [List.any_cons] at h
      cases hx : (x.1 == s && x.2 == l) with
      | true => simp
      | false =>
        rw [hx, Bool.false_or] at h
        simp only [Bool.false_eq_true, if_false]
        rw [ih h]

def provedL (ps : List (UInt64 × List UInt64)) (s : UInt64) (l : List UInt64) : List (UInt64 × List UInt64) := if provedIn ps s l then ps else ps ++ [(s, l)]
def Orc.withProofs (M : Orc) (ps : List (UInt64 × List UInt64)) : Orc := { M with proofs := ps }
theorem provedL_in (ps : List (UInt64 × List UInt64)) (s : UInt64) (l : List UInt64) : provedIn (provedL ps s l) s l = true := by
  unfold provedL
  cases h : provedIn ps s l with
  | true => simpa using h
  | false => simp [provedIn]
theorem OrcIn.proved_more {w w' : World} {b : Nat} {M : Orc} {F : Nat → Prop} {qv : Value} {mk ms mp : Nat} {Q : List (Qn × Value)} {S : List (Sl × Value)} (h : OrcIn w b M F qv mk ms mp Q S) {ps : List (UInt64 × List UInt64)}
    (hk : Kp (fun k => k = mp) w w') (hm : KMap Value.string w' mp (proofL ps)) : OrcIn w' b (M.withProofs ps) F qv mk ms mp Q S where
  self := hk.heap_some h.b_ne.2.2 h.self
  qown := ownsRow_kp h.qown hk fun _ hq => (h.q_ne hq).2.2.2
  qs := h.qs
  elems x hx := ⟨ownsRow_kp (h.elems x hx).1 hk fun _ hq => (h.u_ne (h.elems x hx).1 hq).2.2.2.1, (h.elems x hx).2⟩
  known := h.known.of_heap (hk.block mk h.known.lt (fun e => h.apart.2.1 e))
  seals := h.seals.of_heap (hk.block ms h.seals.lt (fun e => h.apart.2.2 e))
  ss := h.ss
  plains x hx := ⟨ownsRow_kp (h.plains x hx).1 hk fun _ hq => (h.u_ne (h.plains x hx).1 hq).2.2.2.1, (h.plains x hx).2⟩
  proofs := hm
  apart := h.apart
  foot := ⟨h.foot.1, h.foot.2.1, h.foot.2.2.1, h.foot.2.2.2.1, h.foot.2.2.2.2.1, fun k hf => Nat.lt_of_lt_of_le (h.foot.2.2.2.2.2 k hf) hk.size⟩

def Orc.prove (M : Orc) (s : UInt64) (n : Nat) : List UInt64 × Orc := (takeL M n, (M.steps n).withProofs (provedL M.proofs s (takeL M n)))
def ProveO (w : World) (b : Nat) (F : Nat → Prop) (r : List UInt64 × Orc) (e : Ending) (w' : World) : Prop :=
  ∃ v, e = .returned v ∧ OwnU w' v r.1 ∧ OrcTo w b F r.2 w' F ∧ ∀ k, blk v = some k → w.heap.size ≤ k

set_option maxRecDepth 100000 in
set_option maxHeartbeats 1600000 in
theorem Prove_ideal {w : World} {b : Nat} {M : Orc} {F : Nat → Prop} {s : UInt64} {n : Nat} (h : OrcAt w b M F) (hI : M.ideal = true) (hn : n ≤ 65536) (hd : M.draws + n ≤ 1000000000000) :
    Calls Try.prog 40 #[.pointer (some ⟨b, 0, none⟩), uv s, .int .i64 (n : Int)] w (ProveO w b F (M.prove s n)) := by
  have HH := hid h
  have hself : ∃ st n q k s p, Own w b true st n q k s p := by
    obtain ⟨qv, mk, ms, mp, Q, S, hin⟩ := h
    have := hin.self
    rw [hI] at this
    exact ⟨_, _, _, _, _, _, this⟩
  obtain ⟨st, dn, q, k, s', p, hself⟩ := hself
  obtain ⟨c0, -⟩ := self_cells hself
  have CT : Hid (∀ v, OrcAt v b M F → Calls Try.prog 53 #[.pointer (some ⟨b, 0, none⟩), .int .i64 (n : Int)] v (TakeO v b M F n)) := hid fun v hv => take_any hv hI (by omega) (by omega)
  have d1 : decide ((n : Int) < 0) = false := by simp
  have d2 : decide ((65536 : Int) < (n : Int)) = false := by simp; omega
  have HN := hid hn
  clear h hself hd hn
  go_enter Try.func40, Try.ntmps40
  go_wp2_with fail
  refine (CT.out _ HH.out).mono ?_
  rintro e w1 ⟨rv, rfl, hown, hto, hfr⟩
  obtain ⟨ra, rc, rfl, -⟩ := ownsRow_rd hown
  obtain ⟨rl, hrl⟩ : ∃ rl, rl = takeL M n := ⟨_, rfl⟩
  have hlen : rl.length = n := by rw [hrl, takeL_length]
  rw [← hrl] at hown hfr ⊢
  obtain ⟨qv, mk, ms, mp, Q, S, hin⟩ := hto.at'
  obtain ⟨-, -, -, -, -, -, c6⟩ := self_cells hin.self
  have H6 : Hid (∀ v, Ext w1 v → v.cell? ⟨b, 6, none⟩ = some (.map (some mp))) := by
    have c6' := c6
    exact hid fun v k => k.cell_some c6'
  have HRL := hid hrl
  have HLEN := hid hlen
  have HOWN := hid hown
  have HTO := hid hto
  have HFR := hid hfr
  have HIN := hid hin
  clear hown hto hfr hrl hlen CT c0 c6 hin
  go_wp2_with fail
  refine wp_region_T (fun v => v.cell? ⟨b, 6, none⟩ = some (.map (some mp)) ∧ Ext w1 v) 8 [(0, true), (1, true), (2, true), (3, true), (4, true), (5, true), (6, false), (7, false), (8, false)] (by kernel_rfl) (by kernel_rfl) (by intro c a d v w h; cases d <;> exact h) ?_
  intro ops hops
  have HS : _ ∧ Ext w1 w1.drew := ⟨H6.out _ (Ext.refl w1).drew, (Ext.refl w1).drew⟩
  iterate 6
    refine wpT_take (v := ?_) (by rw [hops, List.getElem?_toArray]; rfl) (by first | rfl | (rw [hops]; rfl)) ?_ HS ?_
    rotate_left
    · intro v h; go_simp; with_reducible rfl
    simp only [Act.put, List.getElem_toArray, List.getElem_cons_zero, List.getElem_cons_succ, List.setIfInBounds_toArray, List.set_cons_zero, List.set_cons_succ]
  refine wpT_step (by rw [hops, List.getElem?_toArray]; rfl) (by first | rfl | (rw [hops]; rfl)) ?_
  intro K hK
  go_wp2_with fail
  have hx2 := (Ext.refl w1).drew.alloc (.cells #[uv s] 22)
  have HS1 : _ ∧ Ext w1 (w1.drew.alloc (.cells #[uv s] 22)) := ⟨H6.out _ hx2, hx2⟩
  refine ⟨fun _ => HS1, ?_⟩
  have hk1 : RdU (w1.drew.alloc (.cells #[uv s] 22)) (.slice (some ⟨w1.drew.heap.size, 0, none⟩) 1 1) [s] := (RdC.new1 w1.drew (uv s) 22).rdu rfl
  have HX2 := hid hx2
  refine wpT_step (by rw [hops, List.getElem?_toArray]; rfl) (by first | rfl | (rw [hops]; rfl)) ?_
  intro K hK
  go_wp2_with fail
  refine (key_any _ _ rl [s] _ (HOWN.out.rdu.ext HX2.out) hk1 (by have := HLEN.out; have := HN.out; omega) (by simp)).mono ?_
  rintro e w3 ⟨rfl, hx3⟩
  have hx3' := HX2.out.trans hx3
  have HX3 := hid hx3'
  have HS3 : _ ∧ Ext w1 w3 := ⟨H6.out _ hx3', hx3'⟩
  clear hx3 hx3' hx2 hk1 HS HS1
  refine hK _ _ ⟨fun _ => HS3, ?_⟩
  clear hK K
  refine wpT_step (by rw [hops, List.getElem?_toArray]; rfl) (by first | rfl | (rw [hops]; rfl)) ?_
  intro K hK
  go_wp2_with fail
  obtain ⟨w4, hr, hkm, hkp⟩ := run_update (P := Try.prog) keyStr w3 80 9 4 (by kernel_rfl) (by kernel_rfl) mp (proofL (M.steps n).proofs) (HIN.out.ext HX3.out).proofs (keyS [s] rl) (.bool true)
  rw [hr]
  rw [assocSet_proofL, steps_proofs] at hkm
  have HKM := hid hkm
  have HKP := hid hkp
  clear hkm hkp hr HS3
  go_wp2_with fail
  refine ⟨fun h => absurd h (by decide), ?_⟩
  rw [wpT_nil]
  clear hops ops
  go_wp2_with fail
  go_ret
  have hin3 := HIN.out.ext HX3.out
  have hnew := hin3.proved_more HKP.out HKM.out
  have hmpF : F mp := hin3.foot.2.2.2.1
  have hrl4 : OwnU w4 (.slice ra rl.length rc) rl := ownsRow_kp (ownsRow_ext HOWN.out HX3.out) HKP.out (fun k hk e => by have h1 := HFR.out k hk; have h2 := HH.out.foot_lt mp hmpF; omega)
  unfold ProveO Orc.prove
  rw [← HRL.out]
  refine ⟨_, rfl, hrl4, ⟨⟨qv, mk, ms, mp, Q, S, hnew⟩, ?_, HTO.out.new, HTO.out.old⟩, HFR.out⟩
  exact ((HTO.out.kp).ext HX3.out).trans (HKP.out.mono fun k _ e => e ▸ hmpF)

set_option maxRecDepth 100000 in
set_option maxHeartbeats 1600000 in
theorem Proved_ideal {w : World} {b : Nat} {M : Orc} {F : Nat → Prop} {s : UInt64} {lv : Value} {l : List UInt64} (h : OrcAt w b M F) (hI : M.ideal = true) (hl : RdU w lv l) (hL : l.length ≤ 1000000000000) :
    Calls Try.prog 41 #[.pointer (some ⟨b, 0, none⟩), uv s, lv] w fun e w' => e = .returned (.bool (provedIn M.proofs s l)) ∧ Ext w w' := by
  obtain ⟨qv, mk, ms, mp, Q, S, hin⟩ := h
  have hself := hin.self
  rw [hI] at hself
  obtain ⟨c0, -, -, -, -, -, c6⟩ := self_cells hself
  have HLK : Hid (∀ v, Ext w v → (Instr.lookup 80 (.map (some mp)) (.string (keyS [s] l)) false).run Try.prog v = .ok (.bool (provedIn M.proofs s l)) v) := hid fun v k => by
    rw [run_lookup1 (P := Try.prog) v 80 9 4 (.bool false) (by kernel_rfl) (by kernel_rfl) (zero_bool v) mp _ (hin.ext k).proofs (keyS [s] l), assoc_proofL]
    cases provedIn M.proofs s l <;> rfl
  have H6 : Hid (∀ v, Ext w v → v.cell? ⟨b, 0, none⟩ = some (.bool true) ∧ v.cell? ⟨b, 6, none⟩ = some (.map (some mp))) := hid fun v k => ⟨k.cell_some c0, k.cell_some c6⟩
  have HL := hid hl
  have HLL := hid hL
  clear c0 c6 hl hL hin hself hI
  obtain ⟨fnd, hfnd⟩ : ∃ fnd, fnd = provedIn M.proofs s l := ⟨_, rfl⟩
  rw [← hfnd] at HLK ⊢
  clear hfnd
  go_enter Try.func41, Try.ntmps41
  go_wp2_with fail
  refine wp_region_T (fun v => (v.cell? ⟨b, 0, none⟩ = some (.bool true) ∧ v.cell? ⟨b, 6, none⟩ = some (.map (some mp))) ∧ Ext w v) 13 [(0, true), (1, true), (2, true), (3, true), (4, true), (5, true), (6, true), (7, true), (8, true), (9, true), (10, true), (11, false), (12, false), (13, false), (14, false), (15, false)] (by kernel_rfl) (by kernel_rfl) (by intro c a d v w h; cases d <;> exact h) ?_
  intro ops hops
  have HS : _ ∧ Ext w w.drew := ⟨H6.out _ (Ext.refl w).drew, (Ext.refl w).drew⟩
  iterate 11
    refine wpT_take (v := ?_) (by rw [hops, List.getElem?_toArray]; rfl) (by first | rfl | (rw [hops]; rfl)) ?_ HS ?_
    rotate_left
    · intro v h; go_simp; with_reducible rfl
    simp only [Act.put, List.getElem_toArray, List.getElem_cons_zero, List.getElem_cons_succ, List.setIfInBounds_toArray, List.set_cons_zero, List.set_cons_succ]
  refine wpT_step (by rw [hops, List.getElem?_toArray]; rfl) (by first | rfl | (rw [hops]; rfl)) ?_
  intro K hK
  go_wp2_with fail
  have hx2 := (Ext.refl w).drew.alloc (.cells #[uv s] 22)
  have HS1 : _ ∧ Ext w (w.drew.alloc (.cells #[uv s] 22)) := ⟨H6.out _ hx2, hx2⟩
  refine ⟨fun _ => HS1, ?_⟩
  have hk1 : RdU (w.drew.alloc (.cells #[uv s] 22)) (.slice (some ⟨w.drew.heap.size, 0, none⟩) 1 1) [s] := (RdC.new1 w.drew (uv s) 22).rdu rfl
  have HX2 := hid hx2
  refine wpT_step (by rw [hops, List.getElem?_toArray]; rfl) (by first | rfl | (rw [hops]; rfl)) ?_
  intro K hK
  go_wp2_with fail
  refine (key_any _ _ l [s] _ (HL.out.ext HX2.out) hk1 HLL.out (by simp)).mono ?_
  rintro e w3 ⟨rfl, hx3⟩
  have hx3' := HX2.out.trans hx3
  have HX3 := hid hx3'
  have HS3 : _ ∧ Ext w w3 := ⟨H6.out _ hx3', hx3'⟩
  clear hx3 hx3' hx2 hk1 HS HS1
  refine hK _ _ ⟨fun _ => HS3, ?_⟩
  clear hK K
  refine wpT_step (by rw [hops, List.getElem?_toArray]; rfl) (by first | rfl | (rw [hops]; rfl)) ?_
  intro K hK
  go_wp2_with fail
  rw [HLK.out _ HX3.out]
  go_wp2_with fail
  refine ⟨fun h => absurd h (by decide), ?_⟩
  refine wpT_step (by rw [hops, List.getElem?_toArray]; rfl) (by first | rfl | (rw [hops]; rfl)) ?_
  intro K hK
  go_wp2_with fail
  refine ⟨fun h => absurd h (by decide), ?_⟩
  refine wpT_step (by rw [hops, List.getElem?_toArray]; rfl) (by first | rfl | (rw [hops]; rfl)) ?_
  intro K hK
  go_wp2_with fail
  refine ⟨fun h => absurd h (by decide), ?_⟩
  rw [wpT_nil]
  clear hops ops
  go_wp2_with fail
  go_ret
  exact ⟨rfl, HX3.out⟩
end Go.Proofs.Ytdkilbnocmnekaa
