/- Seal and Open of an ideal oracle. Seal of an ideal oracle. -/
import Derived.Test.YtgfmjfkdogcnhaaGreatTake
import Derived.Test.YtgfmjfkdogcnhaaGreatSame
set_option linter.unusedSimpArgs false
namespace Go.Proofs.YtgfmjfkdogcnhaaGreat
open Go.RowKit
attribute [local irreducible] perm fAdd fMul fPow fSub fNeg fRed drawOf nextState

def isSeal (s : Sl) (key nonce : UInt64) (l : List UInt64) : Bool := s.key == key && s.nonce == nonce && s.sealed == l
def findS (ss : List Sl) (key nonce : UInt64) (l : List UInt64) : Option Sl := ss.find? fun s => isSeal s key nonce l
def Orc.addSeal (M : Orc) (s : Sl) : Orc := { M with seals := M.seals ++ [s] }
theorem isSeal_iff {s : Sl} {key nonce : UInt64} {l : List UInt64} : isSeal s key nonce l = true ↔ s.key = key ∧ s.nonce = nonce ∧ s.sealed = l := by
  simp [isSeal, and_assoc]
theorem assoc_sealL (S : List (Sl × Value)) (key nonce : UInt64) (l : List UInt64) : assoc (sealL S) (keyS [key, nonce] l) = (S.find? fun x => isSeal x.1 key nonce l).map (·.2) := by
  induction S with
  | nil => rfl
  | cons x r ih =>
    have hk : (keyS [x.1.key, x.1.nonce] x.1.sealed == keyS [key, nonce] l) = isSeal x.1 key nonce l := by
      rw [Bool.eq_iff_iff, isSeal_iff, beq_iff_eq]
      constructor
      · intro h
        have := keyS_inj (ns := [x.1.key, x.1.nonce]) (ms := [key, nonce]) rfl h
        have h1 := this.1
        injection h1 with h1 h2
        injection h2 with h2 _
        exact ⟨h1, h2, this.2⟩
      · rintro ⟨h1, h2, h3⟩; rw [h1, h2, h3]
    unfold sealL at ih ⊢
    rw [List.map_cons, assoc, hk, List.find?_cons]
    cases isSeal x.1 key nonce l with
    | true => simp
    | false => simpa using ih
theorem find_fst (S : List (Sl × Value)) (key nonce : UInt64) (l : List UInt64) : (S.find? fun x => isSeal x.1 key nonce l).map (·.1) = findS (S.map (·.1)) key nonce l := by
  induction S with
  | nil => rfl
  | cons x r ih =>
    unfold findS at ih ⊢
    rw [List.map_cons, List.find?_cons, List.find?_cons]
    cases isSeal x.1 key nonce l with
    | true => simp
    | false => simpa using ih
theorem zero_us (w : World) : (zeroValue 26).run Tryz.prog w = .ok (.slice none 0 0) w := by
  have h : (Tryz.prog.info? 26).map (fun i => i.zero) = some (some (.slice none 0 0)) := by kernel_rfl
  obtain ⟨i, hi, hz⟩ := Option.map_eq_some_iff.1 h
  simp [zeroValue, typeInfo, Sem.run_bind, hi, hz, go_sem]

set_option maxRecDepth 100000 in
set_option maxHeartbeats 800000 in
theorem sealedName_any (k n : UInt64) (lv : Value) (l : List UInt64) (w : World) (hl : RdU w lv l) (hL : l.length ≤ 1000000000000) :
    Calls Tryz.prog 56 #[uv k, uv n, lv] w fun e w' => e = .returned (.string (keyS [k, n] l)) ∧ Ext w w' := by
  have HL := hid hl
  have HLL := hid hL
  clear hl hL
  go_enter Tryz.func56, Tryz.ntmps56
  go_wp2_with fail
  have hx := (Ext.refl w).alloc (.cells #[uv k, uv n] 22)
  have hr : RdU (w.alloc (.cells #[uv k, uv n] 22)) (.slice (some ⟨w.heap.size, 0, none⟩) 2 2) [k, n] := (RdC.block (heap_new w (.cells #[uv k, uv n] 22)) (n := 2) (by unfold maxLen; omega)).rdu rfl
  refine (key_any _ _ l [k, n] _ (HL.out.ext hx) hr HLL.out (by simp)).mono ?_
  rintro e w1 ⟨rfl, hx1⟩
  have HX := hid (hx.trans hx1)
  clear hx hr hx1
  go_wp2_with fail
  go_ret
  exact ⟨rfl, HX.out⟩

def OpenO (w : World) (M : Orc) (key nonce : UInt64) (l : List UInt64) (e : Ending) (w' : World) : Prop :=
  ∃ v, e = .returned (.tuple #[v, .bool (findS M.seals key nonce l).isSome]) ∧ OwnU w' v (((findS M.seals key nonce l).map (·.plain)).getD []) ∧ Ext w w' ∧ ∀ k, blk v = some k → w.heap.size ≤ k

set_option maxRecDepth 100000 in
set_option maxHeartbeats 1600000 in
theorem Open_ideal {w : World} {b : Nat} {M : Orc} {F : Nat → Prop} {key nonce : UInt64} {lv : Value} {l : List UInt64} (h : OrcAt w b M F) (hI : M.ideal = true) (hl : RdU w lv l) (hL : l.length ≤ 1000000000000)
    (hP : ∀ s ∈ M.seals, s.plain.length ≤ 1000000000000) :
    Calls Tryz.prog 21 #[.pointer (some ⟨b, 0, none⟩), uv key, uv nonce, lv] w (OpenO w M key nonce l) := by
  obtain ⟨qv, mk, ms, mp, Q, S, hin⟩ := h
  have hself := hin.self
  rw [hI] at hself
  obtain ⟨c0, -, -, -, -, c5, -⟩ := self_cells hself
  have hlk : ∀ v, Ext w v → (Instr.lookup 101 (.map (some ms)) (.string (keyS [key, nonce] l)) true).run Tryz.prog v = .ok (.tuple #[(assoc (sealL S) (keyS [key, nonce] l)).getD (.slice none 0 0), .bool (assoc (sealL S) (keyS [key, nonce] l)).isSome]) v := fun v k =>
    run_lookup (P := Tryz.prog) keyStr v 101 9 26 (.slice none 0 0) (by kernel_rfl) (by kernel_rfl) (zero_us v) ms _ (hin.ext k).seals (keyS [key, nonce] l)
  have H5 : Hid (∀ v, Ext w v → v.cell? ⟨b, 5, none⟩ = some (.map (some ms))) := hid fun v k => k.cell_some c5
  have HL := hid hl
  have HLL := hid hL
  have hpl : ∃ pv pl, (assoc (sealL S) (keyS [key, nonce] l)).getD (.slice none 0 0) = pv ∧ (assoc (sealL S) (keyS [key, nonce] l)).isSome = (findS M.seals key nonce l).isSome ∧ RdU w pv pl ∧ pl = ((findS M.seals key nonce l).map (·.plain)).getD [] ∧ pl.length ≤ 1000000000000 := by
    have hf := find_fst S key nonce l
    rw [hin.ss] at hf
    rw [assoc_sealL, ← hf]
    cases hx : S.find? (fun x => isSeal x.1 key nonce l) with
    | none => exact ⟨_, [], rfl, rfl, (RdC.nil w).rdu rfl, rfl, by simp⟩
    | some x =>
      have hm := List.mem_of_find?_eq_some hx
      exact ⟨_, x.1.plain, rfl, rfl, (hin.plains x hm).1.rdu, rfl, hP x.1 (by rw [← hin.ss]; exact List.mem_map.2 ⟨x, hm, rfl⟩)⟩
  obtain ⟨pv, pl, h1, h2, h3, h4, h5⟩ := hpl
  rw [h1, h2] at hlk
  have HLK := hid hlk
  have HP3 := hid h3
  have HP4 := hid h4
  have HP5 := hid h5
  clear hlk c5 hl hL hP hin hself h1 h2 h3 h4 h5 hI
  obtain ⟨fnd, hfnd⟩ : ∃ fnd, fnd = (findS M.seals key nonce l).isSome := ⟨_, rfl⟩
  rw [← hfnd] at HLK
  have HF := hid hfnd
  clear hfnd
  go_enter Tryz.func21, Tryz.ntmps21
  go_wp2_with fail
  refine wp_region_T (fun v => v.cell? ⟨b, 5, none⟩ = some (.map (some ms)) ∧ Ext w v) 13 [(0, true), (1, true), (2, true), (3, true), (4, true), (5, true), (6, true), (7, false), (8, true), (9, true), (10, true), (11, true), (12, true), (13, false)] (by kernel_rfl) (by kernel_rfl) (by intro c a d v w h; cases d <;> exact h) ?_
  intro ops hops
  have HS : _ ∧ Ext w w.drew := ⟨H5.out _ (Ext.refl w).drew, (Ext.refl w).drew⟩
  iterate 7
    refine wpT_take (v := ?_) (by rw [hops, List.getElem?_toArray]; rfl) (by first | rfl | (rw [hops]; rfl)) ?_ HS ?_
    rotate_left
    · intro v h; go_simp; with_reducible rfl
    simp only [Act.put, List.getElem_toArray, List.getElem_cons_zero, List.getElem_cons_succ, List.setIfInBounds_toArray, List.set_cons_zero, List.set_cons_succ]
  refine wpT_step (by rw [hops, List.getElem?_toArray]; rfl) (by first | rfl | (rw [hops]; rfl)) ?_
  intro K hK
  go_wp2_with fail
  refine (sealedName_any key nonce lv l _ (HL.out.ext (Ext.refl w).drew) HLL.out).mono ?_
  rintro e w1 ⟨rfl, hx1⟩
  have hx1' := (Ext.refl w).drew.trans hx1
  have HX1 := hid hx1'
  have HS1 : _ ∧ Ext w w1 := ⟨H5.out _ hx1', hx1'⟩
  clear hx1 hx1' HS
  refine hK _ _ ⟨fun _ => HS1, ?_⟩
  clear hK K
  refine wpT_take (v := .tuple #[pv, .bool fnd]) (by rw [hops, List.getElem?_toArray]; rfl) (by first | rfl | (rw [hops]; rfl)) ?_ HS1 ?_
  · intro v h; go_simp; (rw [HLK.out _ h.2]; rfl)
  simp only [Act.put, List.getElem_toArray, List.getElem_cons_zero, List.getElem_cons_succ, List.setIfInBounds_toArray, List.set_cons_zero, List.set_cons_succ]
  iterate 4
    refine wpT_take (v := ?_) (by rw [hops, List.getElem?_toArray]; rfl) (by first | rfl | (rw [hops]; rfl)) ?_ HS1 ?_
    rotate_left
    · intro v h; go_simp; with_reducible rfl
    simp only [Act.put, List.getElem_toArray, List.getElem_cons_zero, List.getElem_cons_succ, List.setIfInBounds_toArray, List.set_cons_zero, List.set_cons_succ]
  refine wpT_step (by rw [hops, List.getElem?_toArray]; rfl) (by first | rfl | (rw [hops]; rfl)) ?_
  intro K hK
  go_wp2_with fail
  refine ⟨fun h => absurd h (by decide), ?_⟩
  rw [wpT_nil]
  clear hops ops
  clear HS1 c0
  go_wp2_with fail
  refine (copied_any pv pl _ (HP3.out.ext HX1.out) HP5.out).mono ?_
  rintro e w2 ⟨v, rfl, hown, hx2, hnb⟩
  obtain ⟨va, vc, rfl, -⟩ := ownsRow_rd hown
  have HOWN := hid hown
  have HX2 := hid (HX1.out.trans hx2)
  have HNB : Hid (∀ k, blk (.slice va pl.length vc) = some k → w.heap.size ≤ k) := hid fun k hk => Nat.le_trans HX1.out.size (hnb k hk)
  clear hown hx2 hnb
  go_wp2_with fail
  exact bodyPost_ret (v := .tuple #[.slice va pl.length vc, .bool fnd]) (by simp [results, Tryz.results21, go_sem]) rfl ⟨_, by rw [← HF.out], by rw [← HP4.out]; exact HOWN.out, HX2.out, HNB.out⟩
end Go.Proofs.YtgfmjfkdogcnhaaGreat
namespace Go.Proofs.YtgfmjfkdogcnhaaGreat
open Go.RowKit
attribute [local irreducible] perm fAdd fMul fPow fSub fNeg fRed drawOf nextState

/-- One entry more in the map of the sealed lists, and nothing else. -/
theorem OrcIn.sealed_more {w w' : World} {b : Nat} {M : Orc} {F : Nat → Prop} {qv : Value} {mk ms mp : Nat} {Q : List (Qn × Value)} {S : List (Sl × Value)} (h : OrcIn w b M F qv mk ms mp Q S) {s : Sl} {v : Value}
    (hk : Kp (fun k => k = ms) w w') (hm : KMap Value.string w' ms (sealL (S ++ [(s, v)]))) (hv : OwnU w v s.plain) (hvn : blk v ≠ some ms) (hvb : ∀ k, blk v = some k → k < w.heap.size) :
    OrcIn w' b (M.addSeal s) (fun k => F k ∨ blk v = some k) qv mk ms mp (Q) (S ++ [(s, v)]) where
  self := hk.heap_some h.b_ne.2.1 h.self
  qown := ownsRow_kp h.qown hk fun _ hq => (h.q_ne hq).2.2.1
  qs := h.qs
  elems x hx := ⟨ownsRow_kp (h.elems x hx).1 hk fun _ hq => (h.u_ne (h.elems x hx).1 hq).2.2.1, fun k hq => .inl ((h.elems x hx).2 k hq)⟩
  known := h.known.of_heap (hk.block mk h.known.lt (fun e => h.apart.1 e))
  seals := hm
  ss := by rw [List.map_append, h.ss]; rfl
  plains x hx := by
    rcases List.mem_append.1 hx with hx | hx
    · exact ⟨ownsRow_kp (h.plains x hx).1 hk fun _ hq => (h.u_ne (h.plains x hx).1 hq).2.2.1, fun k hq => .inl ((h.plains x hx).2 k hq)⟩
    · rw [List.mem_singleton] at hx; subst hx
      exact ⟨ownsRow_kp hv hk fun k hq e => hvn (e ▸ hq), fun k hq => .inr hq⟩
  proofs := h.proofs.of_heap (hk.block mp h.proofs.lt (fun e => h.apart.2.2 e.symm))
  apart := h.apart
  foot := ⟨.inl h.foot.1, .inl h.foot.2.1, .inl h.foot.2.2.1, .inl h.foot.2.2.2.1, fun k hq => .inl (h.foot.2.2.2.2.1 k hq), by
    rintro k (hf | hf)
    · exact Nat.lt_of_lt_of_le (h.foot.2.2.2.2.2 k hf) hk.size
    · exact Nat.lt_of_lt_of_le (hvb k hf) hk.size⟩

def Orc.sealI (M : Orc) (key nonce : UInt64) (plain : List UInt64) : List UInt64 × Orc :=
  if decide (key < big) && decide (nonce < big) && allE plain then
    (takeL M (plain.length + 1), if (findS M.seals key nonce (takeL M (plain.length + 1))).isSome then M.steps (plain.length + 1) else (M.steps (plain.length + 1)).addSeal ⟨key, nonce, takeL M (plain.length + 1), plain⟩)
  else ([], M)
theorem sealI_no {M : Orc} {key nonce : UInt64} {plain : List UInt64} (h : (decide (key < big) && decide (nonce < big) && allE plain) = false) : M.sealI key nonce plain = ([], M) := by
  unfold Orc.sealI; rw [h]; rfl
theorem sealI_old {M : Orc} {key nonce : UInt64} {plain : List UInt64} (h : (decide (key < big) && decide (nonce < big) && allE plain) = true) (hf : (findS M.seals key nonce (takeL M (plain.length + 1))).isSome = true) :
    M.sealI key nonce plain = (takeL M (plain.length + 1), M.steps (plain.length + 1)) := by
  unfold Orc.sealI; rw [h, if_pos rfl, if_pos hf]
theorem sealI_new {M : Orc} {key nonce : UInt64} {plain : List UInt64} (h : (decide (key < big) && decide (nonce < big) && allE plain) = true) (hf : (findS M.seals key nonce (takeL M (plain.length + 1))).isSome = false) :
    M.sealI key nonce plain = (takeL M (plain.length + 1), (M.steps (plain.length + 1)).addSeal ⟨key, nonce, takeL M (plain.length + 1), plain⟩) := by
  unfold Orc.sealI; rw [h, if_pos rfl, if_neg (by rw [hf]; decide)]

def SealO (w : World) (b : Nat) (F : Nat → Prop) (r : List UInt64 × Orc) (e : Ending) (w' : World) : Prop :=
  ∃ v F', e = .returned v ∧ OwnU w' v r.1 ∧ OrcTo w b F r.2 w' F' ∧ ∀ k, blk v = some k → w.heap.size ≤ k ∧ ¬ F' k
theorem SealO.none {w w' : World} {b : Nat} {M : Orc} {F : Nat → Prop} (h : OrcAt w b M F) (k : Ext w w') : SealO w b F ([], M) (.returned (.slice none 0 0)) w' :=
  ⟨_, F, rfl, World.ownsRow_nil _ _ _ _, .of_ext h k, fun k h => by cases h⟩

theorem RdU.kpw {F : Nat → Prop} {w w' : World} {v : Value} {l : List UInt64} (h : RdU w v l) (k : Kp F w w') (hF : ∀ b, blk v = some b → l ≠ [] → ¬ F b) : RdU w' v l :=
  (h.rdc.of_cells fun b hb hc => k.block b (h.rdc.lt hb hc) (hF b hb (by rintro rfl; exact hc rfl))).rdu rfl
set_option maxRecDepth 100000 in
set_option maxHeartbeats 1600000 in
theorem Seal_ideal_w {w : World} {b : Nat} {M : Orc} {F : Nat → Prop} {key nonce : UInt64} {pv : Value} {plain : List UInt64} (h : OrcAt w b M F) (hI : M.ideal = true) (hl : RdU w pv plain) (hlf : ∀ k, blk pv = some k → plain ≠ [] → ¬ F k)
    (hL : plain.length ≤ 100000000) (hd : M.draws + plain.length + 1 ≤ 1000000000000) :
    Calls Tryz.prog 53 #[.pointer (some ⟨b, 0, none⟩), uv key, uv nonce, pv] w (SealO w b F (M.sealI key nonce plain)) := by
  have HH := hid h
  have hself : ∃ st n q k s p, Own w b true st n q k s p := by
    obtain ⟨qv, mk, ms, mp, Q, S, hin⟩ := h
    have := hin.self
    rw [hI] at this
    exact ⟨_, _, _, _, _, _, this⟩
  obtain ⟨st, dn, q, k, s, p, hself⟩ := hself
  obtain ⟨c0, -⟩ := self_cells hself
  have HL := hid hl
  have HLF := hid hlf
  have HLL := hid hL
  have CE : Hid (∀ v, Ext w v → Calls Tryz.prog 69 #[pv] v fun e w' => e = .returned (.bool (allE plain)) ∧ v = w') := hid fun v k => elements_any pv plain v (hl.ext k) (by omega)
  have CT : Hid (∀ v, OrcAt v b M F → Calls Tryz.prog 82 #[.pointer (some ⟨b, 0, none⟩), .int .i64 ((plain.length : Int) + 1)] v (TakeO v b M F (plain.length + 1))) := hid fun v hv => by
    have := take_any (n := plain.length + 1) hv hI (by omega) (by omega)
    simpa using this
  have hw : IntKind.i64.wrap ((plain.length : Int) + 1) = (plain.length : Int) + 1 := IntWalk.i64_in _ (by omega)
  obtain ⟨pa, pc, rfl, -⟩ := id hl
  clear h hself hl hlf hd
  cases hk : decide (key < big) with
  | false =>
    have d1 : decide ((18446744069414584321 : Int) ≤ (key.toNat : Int)) = true := by rw [ge_big_dec, hk]; rfl
    have HM := hid (sealI_no (M := M) (key := key) (nonce := nonce) (plain := plain) (by rw [hk]; rfl))
    clear hk
    go_enter Tryz.func53, Tryz.ntmps53
    go_wp2_with fail
    go_ret
    rw [HM.out]
    exact .none HH.out (Ext.refl _)
  | true =>
    have d1 : decide ((18446744069414584321 : Int) ≤ (key.toNat : Int)) = false := by rw [ge_big_dec, hk]; rfl
    cases hn : decide (nonce < big) with
    | false =>
      have d2 : decide ((18446744069414584321 : Int) ≤ (nonce.toNat : Int)) = true := by rw [ge_big_dec, hn]; rfl
      have HM := hid (sealI_no (M := M) (key := key) (nonce := nonce) (plain := plain) (by rw [hk, hn]; rfl))
      clear hk hn
      go_enter Tryz.func53, Tryz.ntmps53
      go_wp2_with fail
      go_ret
      rw [HM.out]
      exact .none HH.out (Ext.refl _)
    | true =>
      have d2 : decide ((18446744069414584321 : Int) ≤ (nonce.toNat : Int)) = false := by rw [ge_big_dec, hn]; rfl
      have HKN : Hid (∀ x, allE plain = x → (decide (key < big) && decide (nonce < big) && allE plain) = x) := hid fun x hx => by rw [hk, hn, hx]; rfl
      clear hk hn
      go_enter Tryz.func53, Tryz.ntmps53
      go_wp2_with fail
      refine (CE.out _ (Ext.refl _)).mono ?_
      rintro e w' ⟨rfl, rfl⟩
      cases hE : allE plain with
      | false =>
        have HM := hid (sealI_no (M := M) (HKN.out _ hE))
        clear hE
        go_wp2_with fail
        go_ret
        rw [HM.out]
        exact .none HH.out (Ext.refl _)
      | true =>
        have HK := hid (HKN.out _ hE)
        clear hE HKN CE
        go_wp2_with fail
        refine (CT.out _ HH.out).mono ?_
        rintro e w1 ⟨rv, rfl, hown, hto, hfr⟩
        obtain ⟨ra, rc, rfl, -⟩ := ownsRow_rd hown
        obtain ⟨rl, hrl⟩ : ∃ rl, rl = takeL M (plain.length + 1) := ⟨_, rfl⟩
        have hlen : rl.length = plain.length + 1 := by rw [hrl, takeL_length]
        rw [← hrl] at hown hfr ⊢
        have HRL := hid hrl
        have HLEN := hid hlen
        have HOWN := hid hown
        have HTO := hid hto
        have HFR := hid hfr
        clear hown hto hfr hrl hlen CT c0
        go_wp2_with fail
        refine (sealedName_any key nonce _ rl _ HOWN.out.rdu (by have := HLEN.out; have := HLL.out; omega)).mono ?_
        rintro e w2 ⟨rfl, hx2⟩
        obtain ⟨qv, mk, ms, mp, Q, S, hin⟩ := HTO.out.at'.ext hx2
        obtain ⟨-, -, -, -, -, c5, -⟩ := self_cells hin.self
        have HX2 := hid hx2
        have HIN := hid hin
        clear hx2 hin
        go_wp2_with fail
        have hlk := run_lookup (P := Tryz.prog) keyStr w2 101 9 26 (.slice none 0 0) (by kernel_rfl) (by kernel_rfl) (zero_us w2) ms _ HIN.out.seals (keyS [key, nonce] rl)
        have hfs : (assoc (sealL S) (keyS [key, nonce] rl)).isSome = (findS M.seals key nonce rl).isSome := by
          have hf := find_fst S key nonce rl
          rw [HIN.out.ss, steps_seals] at hf
          rw [assoc_sealL, ← hf, Option.isSome_map, Option.isSome_map]
        obtain ⟨old, hold⟩ : ∃ old, old = (assoc (sealL S) (keyS [key, nonce] rl)).getD (.slice none 0 0) := ⟨_, rfl⟩
        rw [← hold, hfs] at hlk
        have hOK : ∀ v w3, OwnU w3 v rl → True := fun _ _ _ => trivial
        rw [hlk]
        cases hfd : (findS M.seals key nonce rl).isSome with
        | true =>
          have HM := hid (sealI_old HK.out (by rw [← HRL.out]; exact hfd))
          clear hlk hold hfs hfd hOK
          go_wp2_with fail
          go_ret
          rw [HM.out]
          exact ⟨_, F, rfl, by rw [← HRL.out]; exact ownsRow_ext HOWN.out HX2.out, HTO.out.ext HX2.out, fun k hk => ⟨HFR.out k hk, fun hf => by have := HFR.out k hk; have := HH.out.foot_lt k hf; omega⟩⟩
        | false =>
          have HM := hid (sealI_new HK.out (by rw [← HRL.out]; exact hfd))
          have hnone : assoc (sealL S) (keyS [key, nonce] rl) = none := by
            rw [hfd] at hfs
            exact Option.not_isSome_iff_eq_none.1 (by rw [hfs]; decide)
          have HNONE := hid hnone
          have H5 : Hid (∀ v, Ext w2 v → v.cell? ⟨b, 5, none⟩ = some (.map (some ms))) := by
            have c5' := c5
            exact hid fun v k => k.cell_some c5'
          clear hlk hold hfs hfd hOK hnone c5
          go_wp2_with fail
          refine wp_region_T (fun v => v.cell? ⟨b, 5, none⟩ = some (.map (some ms)) ∧ Ext w2 v) 7 [(0, true), (1, true), (2, true), (3, true), (4, true), (5, true), (6, false), (7, false)] (by kernel_rfl) (by kernel_rfl) (by intro c a d v w h; cases d <;> exact h) ?_
          intro ops hops
          have HS : _ ∧ Ext w2 w2.drew := ⟨H5.out _ (Ext.refl w2).drew, (Ext.refl w2).drew⟩
          iterate 6
            refine wpT_take (v := ?_) (by rw [hops, List.getElem?_toArray]; rfl) (by first | rfl | (rw [hops]; rfl)) ?_ HS ?_
            rotate_left
            · intro v h; go_simp; with_reducible rfl
            simp only [Act.put, List.getElem_toArray, List.getElem_cons_zero, List.getElem_cons_succ, List.setIfInBounds_toArray, List.set_cons_zero, List.set_cons_succ]
          refine wpT_step (by rw [hops, List.getElem?_toArray]; rfl) (by first | rfl | (rw [hops]; rfl)) ?_
          intro K hK
          go_wp2_with fail
          have hpl : RdU w2.drew (.slice pa plain.length pc) plain := ((HL.out.kpw HTO.out.kp HLF.out).ext HX2.out).ext (Ext.refl w2).drew
          refine (copied_any _ plain _ hpl (by have := HLL.out; omega)).mono ?_
          rintro e w3 ⟨ev, rfl, hev, hx3, hnb⟩
          have hx3' := (Ext.refl w2).drew.trans hx3
          have HS3 : _ ∧ Ext w2 w3 := ⟨H5.out _ hx3', hx3'⟩
          have HEV := hid hev
          have HX3 := hid hx3'
          have HNB := hid hnb
          clear hev hx3 hx3' hnb hpl HS
          refine hK _ _ ⟨fun _ => HS3, ?_⟩
          clear hK K
          refine wpT_step (by rw [hops, List.getElem?_toArray]; rfl) (by first | rfl | (rw [hops]; rfl)) ?_
          intro K hK
          go_wp2_with fail
          obtain ⟨w4, hr, hkm, hkp⟩ := run_update (P := Tryz.prog) keyStr w3 101 9 26 (by kernel_rfl) (by kernel_rfl) ms (sealL S) (HIN.out.ext HX3.out).seals (keyS [key, nonce] rl) ev
          rw [hr]
          rw [assocSet_new _ _ _ HNONE.out] at hkm
          have HKM : Hid (KMap Value.string w4 ms (sealL (S ++ [(⟨key, nonce, rl, plain⟩, ev)]))) := hid (by unfold sealL at hkm ⊢; rw [List.map_append]; exact hkm)
          have HKP := hid hkp
          clear hkm hkp hr HS3
          go_wp2_with fail
          refine ⟨fun h => absurd h (by decide), ?_⟩
          rw [wpT_nil]
          clear hops ops
          go_wp2_with fail
          go_ret
          rw [HM.out]
          have hin3 := HIN.out.ext HX3.out
          have hms := HIN.out.seals.lt
          have hnew := hin3.sealed_more (s := ⟨key, nonce, rl, plain⟩) HKP.out HKM.out HEV.out (fun h => by have h1 := HNB.out _ h; have : w2.drew.heap.size = w2.heap.size := rfl; omega) (fun k hk => ownsRow_lt HEV.out hk)
          have hmsF : F ms := hin3.foot.2.2.1
          have hrl4 : OwnU w4 (.slice ra rl.length rc) rl := ownsRow_kp (ownsRow_ext (ownsRow_ext HOWN.out HX2.out) HX3.out) HKP.out (fun k hk e => by have h1 := HFR.out k hk; have h2 := HH.out.foot_lt ms hmsF; omega)
          refine ⟨_, fun k => F k ∨ blk ev = some k, rfl, by rw [← HRL.out]; exact hrl4, ⟨⟨qv, mk, ms, mp, Q, _, by rw [← HRL.out]; exact hnew⟩, ?_, ?_, fun k h => Or.inl h⟩, ?_⟩
          · exact (((HTO.out.kp).ext HX2.out).ext HX3.out).trans (HKP.out.mono fun k _ e => e ▸ hmsF)
          · rintro k (h1 | h1)
            · exact .inl h1
            · right
              have h2 := HNB.out k h1
              have h3 := HTO.out.kp.size
              have h4 := HX2.out.size
              have : w2.drew.heap.size = w2.heap.size := rfl
              omega
          · intro k hk
            refine ⟨HFR.out k hk, ?_⟩
            rintro (h1 | h1)
            · have := HFR.out k hk; have := HH.out.foot_lt k h1; omega
            · have h2 := HNB.out k h1
              have h3 := ownsRow_lt HOWN.out hk
              have h4 := HX2.out.size
              have : w2.drew.heap.size = w2.heap.size := rfl
              omega
theorem Seal_ideal {w : World} {b : Nat} {M : Orc} {F : Nat → Prop} {key nonce : UInt64} {pv : Value} {plain : List UInt64} (h : OrcAt w b M F) (hI : M.ideal = true) (hl : RdU w pv plain) (hlf : ∀ k, blk pv = some k → ¬ F k)
    (hL : plain.length ≤ 100000000) (hd : M.draws + plain.length + 1 ≤ 1000000000000) :
    Calls Tryz.prog 53 #[.pointer (some ⟨b, 0, none⟩), uv key, uv nonce, pv] w (SealO w b F (M.sealI key nonce plain)) :=
  Seal_ideal_w h hI hl (fun k hk _ => hlf k hk) hL hd
end Go.Proofs.YtgfmjfkdogcnhaaGreat
