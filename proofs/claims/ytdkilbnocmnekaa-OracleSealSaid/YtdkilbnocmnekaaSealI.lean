/- Seal and Open of an ideal oracle. -/
import Derived.Test.YtdkilbnocmnekaaTake
import Derived.Test.YtdkilbnocmnekaaMark
set_option linter.unusedSimpArgs false
namespace Go.Proofs.Ytdkilbnocmnekaa
open Go.RowKit
attribute [local irreducible] perm fAdd fMul fPow fSub fNeg fRed drawOf nextState

def isSeal (s : Sl) (key nonce : UInt64) (l : List UInt64) : Bool := s.key == key && s.nonce == nonce && s.sealed == l
def findS (ss : List Sl) (key nonce : UInt64) (l : List UInt64) : Option Sl := ss.find? fun s => isSeal s key nonce l
def Orc.addSeal (M : Orc) (s : Sl) : Orc := { M with seals := M.seals ++ [s] }
theorem isSeal_iff {s : Sl} {key nonce : UInt64} {l : List UInt64} : isSeal s key nonce l = true ↔ s.key = key ∧ s.nonce = nonce ∧ s.sealed = l := by
  simp [isSeal, and_assoc]
theorem assoc_sealL (S : List (Sl × Value)) (key nonce : UInt64) (l : List UInt64) : assoc (sealL S) (keyS [key, nonce] l) = (S.find? fun x => isSeal x.1 key nonce l).map (·.2) := by
  induction S with
  | nil => rfl
  | cons x r ih =>
    have hk : (keyS [x.1.key, x.1.nonce] x.1.sealed == keyS [key, nonce] l) = isSeal x.1 key nonce l := by
      rw [Bool.eq_iff_iff, isSeal_iff, beq_iff_eq]
      constructor
      · intro h
        have := keyS_inj (ns := [x.1.key, x.1.nonce]) (ms := [key, nonce]) rfl h
        have h1 := this.1
        injection h1 with h1 h2
        injection h2 with h2 _
        exact ⟨h1, h2, this.2⟩
      · rintro ⟨h1, h2, h3⟩; rw [h1, h2, h3]
    unfold sealL at ih ⊢
    rw [List.map_cons, assoc, hk, List.find?_cons]
    cases isSeal x.1 key nonce l with
    | true => simp
    | false => simpa using ih
theorem find_fst (S : List (Sl × Value)) (key nonce : UInt64) (l : List UInt64) : (S.find? fun x => isSeal x.1 key nonce l).map (·.1) = findS (S.map (·.1)) key nonce l := by
  induction S with
  | nil => rfl
  | cons x r ih =>
    unfold findS at ih ⊢
    rw [List.map_cons, List.find?_cons, List.find?_cons]
    cases isSeal x.1 key nonce l with
    | true => simp
    | false => simpa using ih
theorem zero_us (w : World) : (zeroValue 28).run Try.prog w = .ok (.slice none 0 0) w := by
  have h : (Try.prog.info? 28).map (fun i => i.zero) = some (some (.slice none 0 0)) := by kernel_rfl
  obtain ⟨i, hi, hz⟩ := Option.map_eq_some_iff.1 h
  simp [zeroValue, typeInfo, Sem.run_bind, hi, hz, go_sem]

set_option maxRecDepth 100000 in
set_option maxHeartbeats 800000 in
theorem sealedName_any (k n : UInt64) (lv : Value) (l : List UInt64) (w : World) (hl : RdU w lv l) (hL : l.length ≤ 1000000000000) :
    Calls Try.prog 54 #[uv k, uv n, lv] w fun e w' => e = .returned (.string (keyS [k, n] l)) ∧ Ext w w' := by
  have HL := hid hl
  have HLL := hid hL
  clear hl hL
  go_enter Try.func54, Try.ntmps54
  go_wp2_with fail
  have hx := (Ext.refl w).alloc (.cells #[uv k, uv n] 22)
  have hr : RdU (w.alloc (.cells #[uv k, uv n] 22)) (.slice (some ⟨w.heap.size, 0, none⟩) 2 2) [k, n] := (RdC.block (heap_new w (.cells #[uv k, uv n] 22)) (n := 2) (by unfold maxLen; omega)).rdu rfl
  refine (key_any _ _ l [k, n] _ (HL.out.ext hx) hr HLL.out (by simp)).mono ?_
  rintro e w1 ⟨rfl, hx1⟩
  have HX := hid (hx.trans hx1)
  clear hx hr hx1
  go_wp2_with fail
  go_ret
  exact ⟨rfl, HX.out⟩

def OpenO (w : World) (M : Orc) (key nonce : UInt64) (l : List UInt64) (e : Ending) (w' : World) : Prop :=
  ∃ v, e = .returned (.tuple #[v, .bool (findS M.seals key nonce l).isSome]) ∧ OwnU w' v (((findS M.seals key nonce l).map (·.plain)).getD []) ∧ Ext w w' ∧ ∀ k, blk v = some k → w.heap.size ≤ k

set_option maxRecDepth 100000 in
set_option maxHeartbeats 1600000 in
theorem Open_ideal {w : World} {b : Nat} {M : Orc} {F : Nat → Prop} {key nonce : UInt64} {lv : Value} {l : List UInt64} (h : OrcAt w b M F) (hI : M.ideal = true) (hl : RdU w lv l) (hL : l.length ≤ 1000000000000)
    (hP : ∀ s ∈ M.seals, s.plain.length ≤ 1000000000000) :
    Calls Try.prog 38 #[.pointer (some ⟨b, 0, none⟩), uv key, uv nonce, lv] w (OpenO w M key nonce l) := by
  obtain ⟨qv, mk, ms, mp, Q, S, hin⟩ := h
  have hself := hin.self
  rw [hI] at hself
  obtain ⟨c0, -, -, -, -, c5, -⟩ := self_cells hself
  have hlk : ∀ v, Ext w v → (Instr.lookup 79 (.map (some ms)) (.string (keyS [key, nonce] l)) true).run Try.prog v = .ok (.tuple #[(assoc (sealL S) (keyS [key, nonce] l)).getD (.slice none 0 0), .bool (assoc (sealL S) (keyS [key, nonce] l)).isSome]) v := fun v k =>
    run_lookup (P := Try.prog) keyStr v 79 9 28 (.slice none 0 0) (by kernel_rfl) (by kernel_rfl) (zero_us v) ms _ (hin.ext k).seals (keyS [key, nonce] l)
  have H5 : Hid (∀ v, Ext w v → v.cell? ⟨b, 5, none⟩ = some (.map (some ms))) := hid fun v k => k.cell_some c5
  have HL := hid hl
  have HLL := hid hL
  have hpl : ∃ pv pl, (assoc (sealL S) (keyS [key, nonce] l)).getD (.slice none 0 0) = pv ∧ (assoc (sealL S) (keyS [key, nonce] l)).isSome = (findS M.seals key nonce l).isSome ∧ RdU w pv pl ∧ pl = ((findS M.seals key nonce l).map (·.plain)).getD [] ∧ pl.length ≤ 1000000000000 := by
    have hf := find_fst S key nonce l
    rw [hin.ss] at hf
    rw [assoc_sealL, ← hf]
    cases hx : S.find? (fun x => isSeal x.1 key nonce l) with
    | none => exact ⟨_, [], rfl, rfl, (RdC.nil w).rdu rfl, rfl, by simp⟩
    | some x =>
      have hm := List.mem_of_find?_eq_some hx
      exact ⟨_, x.1.plain, rfl, rfl, (hin.plains x hm).1.rdu, rfl, hP x.1 (by rw [← hin.ss]; exact List.mem_map.2 ⟨x, hm, rfl⟩)⟩
  obtain ⟨pv, pl, h1, h2, h3, h4, h5⟩ := hpl
  rw [h1, h2] at hlk
  have HLK := hid hlk
  have HP3 := hid h3
  have HP4 := hid h4
  have HP5 := hid h5
  clear hlk c5 hl hL hP hin hself h1 h2 h3 h4 h5 hI
  obtain ⟨fnd, hfnd⟩ : ∃ fnd, fnd = (findS M.seals key nonce l).isSome := ⟨_, rfl⟩
  rw [← hfnd] at HLK
  have HF := hid hfnd
  clear hfnd
  go_enter Try.func38, Try.ntmps38
  go_wp2_with fail
  refine wp_region_T (fun v => v.cell? ⟨b, 5, none⟩ = some (.map (some ms)) ∧ Ext w v) 13 [(0, true), (1, true), (2, true), (3, true), (4, true), (5, true), (6, true), (7, false), (8, true), (9, true), (10, true), (11, true), (12, true), (13, false)] (by kernel_rfl) (by kernel_rfl) (by intro c a d v w h; cases d <;> exact h) ?_
  intro ops hops
  have HS : _ ∧ Ext w w.drew := ⟨H5.out _ (Ext.refl w).drew, (Ext.refl w).drew⟩
  iterate 7
    refine wpT_take (v := ?_) (by rw [hops, List.getElem?_toArray]; rfl) (by first | rfl | (rw [hops]; rfl)) ?_ HS ?_
    rotate_left
    · intro v h; go_simp; with_reducible rfl
    simp only [Act.put, List.getElem_toArray, List.getElem_cons_zero, List.getElem_cons_succ, List.setIfInBounds_toArray, List.set_cons_zero, List.set_cons_succ]
  refine wpT_step (by rw [hops, List.getElem?_toArray]; rfl) (by first | rfl | (rw [hops]; rfl)) ?_
  intro K hK
  go_wp2_with fail
  refine (sealedName_any key nonce lv l _ (HL.out.ext (Ext.refl w).drew) HLL.out).mono ?_
  rintro e w1 ⟨rfl, hx1⟩
  have hx1' := (Ext.refl w).drew.trans hx1
  have HX1 := hid hx1'
  have HS1 : _ ∧ Ext w w1 := ⟨H5.out _ hx1', hx1'⟩
  clear hx1 hx1' HS
  refine hK _ _ ⟨fun _ => HS1, ?_⟩
  clear hK K
  refine wpT_take (v := .tuple #[pv, .bool fnd]) (by rw [hops, List.getElem?_toArray]; rfl) (by first | rfl | (rw [hops]; rfl)) ?_ HS1 ?_
  · intro v h; go_simp; (rw [HLK.out _ h.2]; rfl)
  simp only [Act.put, List.getElem_toArray, List.getElem_cons_zero, List.getElem_cons_succ, List.setIfInBounds_toArray, List.set_cons_zero, List.set_cons_succ]
  iterate 4
    refine wpT_take (v := ?_) (by rw [hops, List.getElem?_toArray]; rfl) (by first | rfl | (rw [hops]; rfl)) ?_ HS1 ?_
    rotate_left
    · intro v h; go_simp; with_reducible rfl
    simp only [Act.put, List.getElem_toArray, List.getElem_cons_zero, List.getElem_cons_succ, List.setIfInBounds_toArray, List.set_cons_zero, List.set_cons_succ]
  refine wpT_step (by rw [hops, List.getElem?_toArray]; rfl) (by first | rfl | (rw [hops]; rfl)) ?_
  intro K hK
  go_wp2_with fail
  refine ⟨fun h => absurd h (by decide), ?_⟩
  rw [wpT_nil]
  clear hops ops
  clear HS1 c0
  go_wp2_with fail
  refine (copied_any pv pl _ (HP3.out.ext HX1.out) HP5.out).mono ?_
  rintro e w2 ⟨v, rfl, hown, hx2, hnb⟩
  obtain ⟨va, vc, rfl, -⟩ := ownsRow_rd hown
  have HOWN := hid hown
  have HX2 := hid (HX1.out.trans hx2)
  have HNB : Hid (∀ k, blk (.slice va pl.length vc) = some k → w.heap.size ≤ k) := hid fun k hk => Nat.le_trans HX1.out.size (hnb k hk)
  clear hown hx2 hnb
  go_wp2_with fail
  exact bodyPost_ret (v := .tuple #[.slice va pl.length vc, .bool fnd]) (by simp [results, Try.results38, go_sem]) rfl ⟨_, by rw [← HF.out], by rw [← HP4.out]; exact HOWN.out, HX2.out, HNB.out⟩
end Go.Proofs.Ytdkilbnocmnekaa
