/- Texts of this claim, joined: RW5. -/
import Derived.Test.YtcikjcjfcanloaaGreatJr16
import Derived.Test.YtcikjcjfcanloaaGreatJr18
import Derived.Test.YtcikjcjfcanloaaGreatJr19
set_option linter.unusedSimpArgs false
namespace Go.Proofs.YtcikjcjfcanloaaGreat
open Go.RowKit
theorem decL_all (n : Nat) : ∀ (l : List UInt64) (i : Nat) (s : S3), allE (decL n i s l).2 = true
  | [], _, _ => by rw [decL]; rfl
  | x :: r, i, s => by
    rw [decL_cons]
    simp only [allE, List.all_cons, Bool.and_eq_true, decide_eq_true_eq]
    exact ⟨fAdd_lt_big _ _, decL_all n r _ _⟩
theorem ite_or {α : Type} {b : Bool} {x y : α} : (if b = true then x else y) = x ∨ (if b = true then x else y) = y := by cases b <;> simp
theorem cipOpen_cases (k nc : UInt64) (l : List UInt64) : cipOpen k nc l = ((cipDec k nc l.dropLast).1, true) ∨ cipOpen k nc l = ([], false) := ite_or
theorem cipOpen_all (k nc : UInt64) (l : List UInt64) : allE (cipOpen k nc l).1 = true := by
  rcases cipOpen_cases k nc l with h | h
  · rw [h]
    exact decL_all _ _ _ _
  · rw [h]
    rfl
theorem decL_len (n : Nat) : ∀ (l : List UInt64) (i : Nat) (s : S3), (decL n i s l).2.length = l.length
  | [], _, _ => by rw [decL]
  | x :: r, i, s => by rw [decL_cons]; simp only [List.length_cons]; rw [decL_len n r]
theorem cipOpen_len (k nc : UInt64) (l : List UInt64) : (cipOpen k nc l).1.length ≤ l.length := by
  rcases cipOpen_cases k nc l with h | h
  · rw [h]
    show (decL _ _ _ _).2.length ≤ _
    rw [decL_len, List.length_dropLast]
    omega
  · rw [h]
    exact Nat.zero_le _
/-- What Try finds, from the list that was opened. -/
def tryL (own commit rho : UInt64) (r : List UInt64 × Bool) : Nt × Bool :=
  match r with
  | ([x, y], true) => if x.toNat ≤ 4294967295 ∧ commitN ⟨x, own, rho, y⟩ = commit then (⟨x, own, rho, y⟩, true) else (zeroN, false)
  | _ => (zeroN, false)
theorem isNumK_lt {a : Nat} (h : a < 4) : isNumK (a : Int) = true := by
  unfold isNumK
  simp
  omega
theorem tryW_ref {seed : UInt64} {a : Nat} {o : OutT} {rho : UInt64} (hp : validP o.p = true) (hr : rho < big) (ha : a < 4) :
    tryW seed a o rho = tryL (kOwner (kSpend seed) a) o.commit rho (cipOpen (envKey (pShared o.p (kView seed a)) o.p) 0 o.cipher) := by
  have hall := cipOpen_all (envKey (pShared o.p (kView seed a)) o.p) 0 o.cipher
  have hop : realM.envOpen (kView seed a) o.p o.cipher = pick2 (cipOpen (envKey (pShared o.p (kView seed a)) o.p) 0 o.cipher) := by
    unfold Orc.envOpen Orc.openT
    rw [if_pos hp, show realM.ideal = false from rfl]
    simp only [Bool.false_eq_true, if_false]
  unfold tryW
  rw [hop]
  generalize cipOpen (envKey (pShared o.p (kView seed a)) o.p) 0 o.cipher = r at *
  obtain ⟨l, ok⟩ := r
  cases ok with
  | false =>
    rw [pick2_no, tryR_shut]
    unfold tryL
    split
    · next h => injection h with h1 h2; cases h2
    · rfl
  | true =>
    match l, hall with
    | [x, y], hall =>
      have hy : y < big := by
        simp only [allE, List.all_cons, List.all_nil, Bool.and_true, Bool.and_eq_true, decide_eq_true_eq] at hall
        exact hall.2
      have hx : x < big := by
        simp only [allE, List.all_cons, List.all_nil, Bool.and_true, Bool.and_eq_true, decide_eq_true_eq] at hall
        exact hall.1
      have ho : kOwner (kSpend seed) a < big := by
        unfold kOwner
        rw [if_pos (isNumK_lt ha)]
        exact hashU_ltW _ _
      show tryR seed a o.commit rho (x, y, true) (commitK realM) = if x.toNat ≤ 4294967295 ∧ commitN ⟨x, kOwner (kSpend seed) a, rho, y⟩ = o.commit then (⟨x, kOwner (kSpend seed) a, rho, y⟩, true) else (zeroN, false)
      rw [tryR_open (isNumK_lt ha) (own := kOwner (kSpend seed) a) (c := (commitK realM ⟨x, kOwner (kSpend seed) a, rho, y⟩).1) (k := (commitK realM ⟨x, kOwner (kSpend seed) a, rho, y⟩).2) rfl rfl]
      generalize kOwner (kSpend seed) a = own at *
      have hE : allE (Nt.list ⟨x, own, rho, y⟩) = true := by
        simp only [allE, Nt.list, List.all_cons, List.all_nil, Bool.and_true, Bool.and_eq_true, decide_eq_true_eq]
        exact ⟨hx, ho, hr, hy⟩
      have hpk : realM.peek 2 (Nt.list ⟨x, own, rho, y⟩) = (commitN ⟨x, own, rho, y⟩, true) := by
        unfold Orc.peek
        rw [if_pos hE]
        rfl
      by_cases hx : x.toNat ≤ 4294967295
      · have hok : Nt.ok ⟨x, own, rho, y⟩ = true := by
          unfold Nt.ok
          rw [lt_big_iff] at ho hr hy
          simp only [Bool.and_eq_true, decide_eq_true_eq]
          exact ⟨⟨⟨by omega, ho⟩, hr⟩, hy⟩
        have hc : commitK realM ⟨x, own, rho, y⟩ = (commitN ⟨x, own, rho, y⟩, true) := by
          unfold commitK
          rw [if_pos hok, hpk]
        rw [hc]
        by_cases hcc : commitN ⟨x, own, rho, y⟩ = o.commit
        · rw [if_pos (by simpa using hcc), if_pos ⟨hx, hcc⟩]
        · rw [if_neg (by simpa using hcc), if_neg (fun h => hcc h.2)]
      · have hok : Nt.ok ⟨x, own, rho, y⟩ = false := by
          unfold Nt.ok
          rw [show decide ((x.toNat : Int) ≤ 4294967295) = false from decide_eq_false (by omega)]
          rfl
        have hc : commitK realM ⟨x, own, rho, y⟩ = (0, false) := by
          unfold commitK
          rw [hok]
          rfl
        rw [hc, if_neg (by simp), if_neg (fun h => hx h.1)]
    | [], _ => rw [pick2_len (by simp), tryR_shut]; rfl
    | [x], _ => rw [pick2_len (by simp), tryR_shut]; rfl
    | x :: y :: z :: r, _ => rw [pick2_len (by simp), tryR_shut]; rfl
end Go.Proofs.YtcikjcjfcanloaaGreat
namespace Go.Proofs.YtcikjcjfcanloaaGreat
open Go.RowKit
attribute [local irreducible] perm fAdd fMul fPow fSub fNeg fRed hashU drawOf nextState
set_option maxRecDepth 100000 in
set_option maxHeartbeats 12800000 in
theorem rTryL_any (seed : UInt64) (a : Nat) (commit rho : UInt64) (p : E2) (cv : Value) (c : List UInt64) (w : World) (hc : RdU' w cv c) (hL : c.length ≤ 100000000) :
    Calls Tryz.prog 76 #[uv seed, .int .i64 (a : Int), .agg #[uv commit, uv p.a, uv p.b, cv], uv rho] w fun e w' => e = .returned (nb (tryL (kOwner (kSpend seed) a) commit rho (cipOpen (envKey (pShared p (kView seed a)) p) 0 c))) ∧ Ext w w' := by
  have HOP : Hid (∀ k v, Ext w v → Calls Tryz.prog 108 #[uv k, uv 0, cv] v (OpenC v (cipOpen k 0 c))) := hid fun k v e => rOpenC_any k 0 cv c v (hc.ext e) hL
  have HV := hid (rkView_any seed (a : Int))
  have HSP := hid (rkSpend_any seed)
  have HOW := hid (rkOwner_any (kSpend seed) (a : Int))
  have HSH := hid (rShared_any p (kView seed (a : Int)))
  have HKE := hid (rKeyE_any (pShared p (kView seed (a : Int))) p)
  obtain ⟨s, hs⟩ : ∃ s, s = pShared p (kView seed (a : Int)) := ⟨_, rfl⟩
  rw [← hs] at HKE HSH ⊢
  obtain ⟨key, hkey⟩ : ∃ key, key = envKey s p := ⟨_, rfl⟩
  rw [← hkey] at HKE ⊢
  obtain ⟨op, hop⟩ : ∃ op, op = cipOpen key 0 c := ⟨_, rfl⟩
  have HOK := hid (HOP.out key)
  rw [← hop] at HOK ⊢
  obtain ⟨own, hown⟩ : ∃ own, own = kOwner (kSpend seed) (a : Int) := ⟨_, rfl⟩
  rw [← hown] at HOW ⊢
  obtain ⟨res, hres⟩ : ∃ res, res = tryL own commit rho op := ⟨_, rfl⟩
  rw [← hres]
  have HRES := hid hres
  obtain ⟨ca, cc, rfl, -⟩ := hc.shape
  obtain ⟨lo, ok⟩ := op
  have HOPL : Hid (lo.length ≤ 100000000) := hid (by
    have h := cipOpen_len key 0 c
    rw [← hop] at h
    exact Nat.le_trans h hL)
  clear hs hkey hop hown hres HOP hL
  obtain ⟨sa, sb⟩ := s
  generalize kView seed (a : Int) = view at *
  generalize kSpend seed = ks at *
  generalize c.length = cl at *
  obtain ⟨N, hN⟩ : ∃ N, N = w.heap.size := ⟨_, rfl⟩
  obtain ⟨w0, hw0⟩ : ∃ w0, w0 = (w.alloc (.cells #[uv commit, uv p.a, uv p.b, .slice ca cl cc] 103)).alloc (.cells #[.int .u64 0, .int .u64 0, .int .u64 0, .int .u64 0] 37) := ⟨_, rfl⟩
  have hx0 : Ext w w0 := by rw [hw0]; exact ((Ext.refl w).alloc _).alloc _
  have hb0 : w0.heap[N]? = some (.cells #[uv commit, uv p.a, uv p.b, .slice ca cl cc] 103 (0, 0)) := by rw [hw0, hN]; exact heap_alloc_some (heap_new _ _)
  have hb1 : w0.heap[N + 1]? = some (.cells #[.int .u64 0, .int .u64 0, .int .u64 0, .int .u64 0] 37 (0, 0)) := by
    rw [hw0, hN]
    have := heap_new (w.alloc (.cells #[uv commit, uv p.a, uv p.b, .slice ca cl cc] 103)) (.cells #[.int .u64 0, .int .u64 0, .int .u64 0, .int .u64 0] 37)
    simpa using this
  have H : Hid (∀ v, Ext w0 v → (v.cell? ⟨N, 0, none⟩ = some (uv commit) ∧ v.cell? ⟨N, 1, none⟩ = some (uv p.a) ∧ v.cell? ⟨N, 2, none⟩ = some (uv p.b) ∧ v.cell? ⟨N, 3, none⟩ = some (.slice ca cl cc)) ∧ Ext w0 v) := hid fun v k => ⟨four_cells (k.heap_some hb0), k⟩
  have HEND : Hid (∀ (v : World) (d0 d1 d2 d3 : Value), Ext w0 v → ((((v.setCell ⟨N + 1, 0, none⟩ d0).setCell ⟨N + 1, 1, none⟩ d1).setCell ⟨N + 1, 2, none⟩ d2).setCell ⟨N + 1, 3, none⟩ d3).heap[N + 1]? = some (.cells #[d0, d1, d2, d3] 37 (0, 0)) ∧
      Ext w ((((v.setCell ⟨N + 1, 0, none⟩ d0).setCell ⟨N + 1, 1, none⟩ d1).setCell ⟨N + 1, 2, none⟩ d2).setCell ⟨N + 1, 3, none⟩ d3)) := hid fun v d0 d1 d2 d3 k => by
    obtain ⟨h1, h2⟩ := four_setN (d0 := d0) (d1 := d1) (d2 := d2) (d3 := d3) (k.heap_some hb1)
    exact ⟨h1, (hx0.trans k).kp h2 fun i hi => by rw [hi, hN]; omega⟩
  have HB1 := hid hb1
  have HW := hid hw0
  have HX0 := hid hx0
  clear hw0 hx0 hb0 hb1 hc
  go_enter Tryz.func76, Tryz.ntmps76
  go_upto_region 1 with fail
  rw [← HW.out, ← hN]
  clear hN
  go_wp2_with fail
  refine wp_region_N (fun v => (v.cell? ⟨N, 0, none⟩ = some (uv commit) ∧ v.cell? ⟨N, 1, none⟩ = some (uv p.a) ∧ v.cell? ⟨N, 2, none⟩ = some (uv p.b) ∧ v.cell? ⟨N, 3, none⟩ = some (.slice ca cl cc)) ∧ Ext w0 v) 7 8 (by kernel_rfl) (by kernel_rfl) ?_
  intro ops hops
  have HR := H.out _ (Ext.refl w0).drew
  refine N_take (i := 0) (v := ?_) (by rw [hops, List.getElem?_toArray]; rfl) (by rw [hops]; kernel_rfl) (by intro c a d v w h; cases d <;> exact h) (by first | rfl | (rw [hops]; rfl)) ?_ HR ?_
  rotate_left
  · intro v h; go_simp; with_reducible rfl
  simp only [Act.put, List.getElem_toArray, List.getElem_cons_zero, List.getElem_cons_succ, List.setIfInBounds_toArray, List.set_cons_zero, List.set_cons_succ]
  refine N_take (i := 1) (v := ?_) (by rw [hops, List.getElem?_toArray]; rfl) (by rw [hops]; kernel_rfl) (by intro c a d v w h; cases d <;> exact h) (by first | rfl | (rw [hops]; rfl)) ?_ HR ?_
  rotate_left
  · intro v h; go_simp; with_reducible rfl
  simp only [Act.put, List.getElem_toArray, List.getElem_cons_zero, List.getElem_cons_succ, List.setIfInBounds_toArray, List.set_cons_zero, List.set_cons_succ]
  refine N_take (i := 2) (v := ?_) (by rw [hops, List.getElem?_toArray]; rfl) (by rw [hops]; kernel_rfl) (by intro c a d v w h; cases d <;> exact h) (by first | rfl | (rw [hops]; rfl)) ?_ HR ?_
  rotate_left
  · intro v h; go_simp; with_reducible rfl
  simp only [Act.put, List.getElem_toArray, List.getElem_cons_zero, List.getElem_cons_succ, List.setIfInBounds_toArray, List.set_cons_zero, List.set_cons_succ]
  refine N_take (i := 3) (v := ?_) (by rw [hops, List.getElem?_toArray]; rfl) (by rw [hops]; kernel_rfl) (by intro c a d v w h; cases d <;> exact h) (by first | rfl | (rw [hops]; rfl)) ?_ HR ?_
  rotate_left
  · intro v h; go_simp; with_reducible rfl
  simp only [Act.put, List.getElem_toArray, List.getElem_cons_zero, List.getElem_cons_succ, List.setIfInBounds_toArray, List.set_cons_zero, List.set_cons_succ]
  have hal : ∀ Q, Alloc1 Tryz.prog ops Q 6 10 (.cells #[.int .u64 0, .int .u64 0] 94 (0, 0)) := fun Q => ⟨⟨_, by rw [hops, List.getElem?_toArray]; rfl, fun t => rfl, fun a w K hK => by go_wp2_with fail; exact hK⟩⟩
  have hgr := CG1.grows (Z := .cells #[.int .u64 0, .int .u64 0] 94 (0, 0)) (w0 := w0) (F := fun _ => False) (S := fun v => (v.cell? ⟨N, 0, none⟩ = some (uv commit) ∧ v.cell? ⟨N, 1, none⟩ = some (uv p.a) ∧ v.cell? ⟨N, 2, none⟩ = some (uv p.b) ∧ v.cell? ⟨N, 3, none⟩ = some (.slice ca cl cc)) ∧ Ext w0 v) (fun k h => h.elim) (fun v k => H.out v (k.toExt fun _ h => h.elim))
  refine WB_start (i1 := 6) (d1 := 10) (f := 3) (C := CG1 w0 (fun _ => False) (.cells #[.int .u64 0, .int .u64 0] 94 (0, 0))) undef ⟨(Ext.refl w0).drew, fun h => by cases h⟩ (by rfl) (by rfl) (by rfl) ?_
  refine WB_call (hal _) hgr (c := 4) (fun v => CLB (fun _ => v = uv view) (CG1 w0 (fun _ => False) (.cells #[.int .u64 0, .int .u64 0] 94 (0, 0)))) (by rw [hops]; kernel_rfl) (by rw [hops, List.getElem?_toArray]; rfl) rfl (fun t => rfl) (by decide) (fun v b1 x w' h => hgr.s _ _ _ h.2) ?_ ?_
  · intro b1 x1 v hC K hK
    simp only [Act.put, List.setIfInBounds_toArray, List.set_cons_zero, List.set_cons_succ]
    go_wp2_with fail
    refine (HV.out v).mono ?_
    rintro e v' ⟨rfl, hx⟩
    exact hK _ _ ⟨rfl, hC.ext hx⟩ _ (by simp only [Act.put, List.setIfInBounds_toArray, List.set_cons_zero, List.set_cons_succ] <;> rfl)
  intro v18
  simp only [Act.put, List.setIfInBounds_toArray, List.set_cons_zero, List.set_cons_succ]
  have hgr2 := CLB.grows (p := fun _ => v18 = uv view) hgr (fun _ _ h _ => h)
  refine WB_pure (φ := v18 = uv view) (fun b1 x1 v h => h.1) ?_
  rintro rfl
  have hgr3 := CLB.grows (p := fun _ => uv view = uv view) hgr (fun _ _ h _ => h)
  refine WB_call (hal _) hgr3 (c := 5) (fun v => CLB (fun _ => v = (⟨sa, sb⟩ : E2).v) (CG1 w0 (fun _ => False) (.cells #[.int .u64 0, .int .u64 0] 94 (0, 0)))) (by rw [hops]; kernel_rfl) (by rw [hops, List.getElem?_toArray]; rfl) rfl (fun t => rfl) (by decide) (fun v b1 x w' h => hgr.s _ _ _ h.2) ?_ ?_
  · intro b1 x1 v hC K hK
    simp only [Act.put, List.setIfInBounds_toArray, List.set_cons_zero, List.set_cons_succ]
    go_wp2_with fail
    refine (HSH.out v).mono ?_
    rintro e v' ⟨rfl, hx⟩
    exact hK _ _ ⟨rfl, hC.2.ext hx⟩ _ (by simp only [Act.put, List.setIfInBounds_toArray, List.set_cons_zero, List.set_cons_succ] <;> rfl)
  intro v19
  simp only [Act.put, List.setIfInBounds_toArray, List.set_cons_zero, List.set_cons_succ]
  refine WB_pure (φ := v19 = (⟨sa, sb⟩ : E2).v) (fun b1 x1 v h => h.1) ?_
  rintro rfl
  have hgr4 := CLB.grows (p := fun _ => (⟨sa, sb⟩ : E2).v = (⟨sa, sb⟩ : E2).v) hgr (fun _ _ h _ => h)
  refine WB_last (hal _) hgr4 (by rw [hops]; kernel_rfl) ?_
  rintro x1 v ⟨-, hxv, hz⟩
  obtain ⟨SB, rfl, hg0, -, hgb⟩ := hz rfl
  simp only [Act.put, List.setIfInBounds_toArray, List.set_cons_zero, List.set_cons_succ]
  have k0 := cell_of hgb 0
  have k1 := cell_of hgb 1
  have kf := frozen_of hgb
  refine N_one (i := 7) (by rw [hops, List.getElem?_toArray]; rfl) (by rw [hops]; kernel_rfl) (by first | rfl | (rw [hops]; rfl)) ?_
  intro K hK
  go_wp2_with fail
  try rw [← hops]
  refine N_done (by rw [hops]; kernel_rfl) ?_
  have hk6 : Kp (fun j => j = SB) v ((v.setCell ⟨SB, 0, none⟩ (.int .u64 (sa.toNat : Int))).setCell ⟨SB, 1, none⟩ (.int .u64 (sb.toNat : Int))) := ((Kp.refl (fun j => j = SB) v).setCell (p := ⟨SB, 0, none⟩) (.inl rfl) _).setCell (p := ⟨SB, 1, none⟩) (.inl rfl) _
  have hb6 := heap_setCell_same (heap_setCell_same hgb 0 (.int .u64 (sa.toNat : Int))) 1 (.int .u64 (sb.toNat : Int))
  have hx6 := hxv.kp hk6 (fun j e => by omega)
  generalize (v.setCell ⟨SB, 0, none⟩ (.int .u64 (sa.toNat : Int))).setCell ⟨SB, 1, none⟩ (.int .u64 (sb.toNat : Int)) = w1 at *
  change w1.heap[SB]? = some (.cells #[uv sa, uv sb] 94 (0, 0)) at hb6
  have HB6 := hid hb6
  have HX6 := hid hx6
  have HS2 : Hid (∀ u, Ext w1 u → ((u.cell? ⟨N, 0, none⟩ = some (uv commit) ∧ u.cell? ⟨N, 1, none⟩ = some (uv p.a) ∧ u.cell? ⟨N, 2, none⟩ = some (uv p.b) ∧ u.cell? ⟨N, 3, none⟩ = some (.slice ca cl cc)) ∧ u.cell? ⟨SB, 0, none⟩ = some (uv sa) ∧ u.cell? ⟨SB, 1, none⟩ = some (uv sb)) ∧ Ext w0 u) := hid fun u ku => ⟨⟨(H.out u (HX6.out.trans ku)).1, cell_of (ku.heap_some HB6.out) 0, cell_of (ku.heap_some HB6.out) 1⟩, HX6.out.trans ku⟩
  clear k0 k1 kf hgb hal hgr hgr2 hgr3 hgr4 HR hz hxv hk6 hb6 hx6
  clear hops ops
  go_wp2_with fail
  refine wp_region_T (fun u => ((u.cell? ⟨N, 0, none⟩ = some (uv commit) ∧ u.cell? ⟨N, 1, none⟩ = some (uv p.a) ∧ u.cell? ⟨N, 2, none⟩ = some (uv p.b) ∧ u.cell? ⟨N, 3, none⟩ = some (.slice ca cl cc)) ∧ u.cell? ⟨SB, 0, none⟩ = some (uv sa) ∧ u.cell? ⟨SB, 1, none⟩ = some (uv sb)) ∧ Ext w0 u) 11 [(0, true), (1, true), (2, true), (4, true), (5, true), (3, false), (6, false), (7, true), (8, true), (9, true), (10, true), (11, false)] (by kernel_rfl) (by kernel_rfl) (by intro c a d v w h; cases d <;> exact h) ?_
  intro ops hops
  have HSS := HS2.out _ (Ext.refl w1).drew
  have HXD : Ext w1 w1.drew := (Ext.refl w1).drew
  iterate 5
    refine wpT_take (v := ?_) (by rw [hops, List.getElem?_toArray]; rfl) (by first | rfl | (rw [hops]; rfl)) ?_ HSS ?_
    rotate_left
    · intro v h; go_simp; with_reducible rfl
    simp only [Act.put, List.getElem_toArray, List.getElem_cons_zero, List.getElem_cons_succ, List.setIfInBounds_toArray, List.set_cons_zero, List.set_cons_succ]
  refine wpT_step (by rw [hops, List.getElem?_toArray]; rfl) (by first | rfl | (rw [hops]; rfl)) ?_
  intro K hK
  go_wp2_with fail
  refine (HKE.out _).mono ?_
  rintro e w2 ⟨rfl, hx⟩
  have HX2 := HXD.trans hx
  have HSS2 := HS2.out _ HX2
  clear hx HSS HXD
  refine hK _ _ ⟨fun _ => HSS2, ?_⟩
  clear hK K
  refine wpT_step (by rw [hops, List.getElem?_toArray]; rfl) (by first | rfl | (rw [hops]; rfl)) ?_
  intro K hK
  go_wp2_with fail
  refine (HOK.out _ (HX0.out.trans HSS2.2)).mono ?_
  rintro e w3 ⟨lv, rfl, ho, hx, -⟩
  have HO := hid ho
  have HX3 := hid (HSS2.2.trans hx)
  have HSS3 := HS2.out _ (HX2.trans hx)
  obtain ⟨la, lc, rfl, -⟩ := ownsRow_rd ho
  clear ho hx HSS2 HX2
  refine hK _ _ ⟨fun _ => HSS3, ?_⟩
  clear hK K
  iterate 4
    refine wpT_take (v := ?_) (by rw [hops, List.getElem?_toArray]; rfl) (by first | rfl | (rw [hops]; rfl)) ?_ HSS3 ?_
    rotate_left
    · intro v h; go_simp; with_reducible rfl
    simp only [Act.put, List.getElem_toArray, List.getElem_cons_zero, List.getElem_cons_succ, List.setIfInBounds_toArray, List.set_cons_zero, List.set_cons_succ]
  clear HSS3
  refine wpT_step (by rw [hops, List.getElem?_toArray]; rfl) (by first | rfl | (rw [hops]; rfl)) ?_
  intro K hK
  go_wp2_with fail
  try (with_reducible refine ⟨fun h => absurd h (by decide), ?_⟩)
  try rw [wpT_nil]
  try clear hops ops
  cases ok with
  | false =>
    obtain rfl : res = (zeroN, false) := by
      rw [HRES.out]
      unfold tryL
      split
      · next h => injection h with h1 h2; cases h2
      · rfl
    obtain ⟨z0, z1, z2, z3⟩ := four_cells (HX3.out.heap_some HB1.out)
    have zf := frozen_of (HX3.out.heap_some HB1.out)
    have HE := hid (HEND.out w3 (.int .u64 0) (.int .u64 0) (.int .u64 0) (.int .u64 0) HX3.out)
    clear HEND
    go_wp2_with fail
    obtain ⟨hE1, hE2⟩ := HE.out
    obtain ⟨r0, r1, r2, r3⟩ := four_cells hE1
    generalize (((w3.setCell ⟨N + 1, 0, none⟩ (.int .u64 0)).setCell ⟨N + 1, 1, none⟩ (.int .u64 0)).setCell ⟨N + 1, 2, none⟩ (.int .u64 0)).setCell ⟨N + 1, 3, none⟩ (.int .u64 0) = W at *
    exact bodyPost_ret (v := .tuple #[.agg #[.int .u64 0, .int .u64 0, .int .u64 0, .int .u64 0], .bool false]) (by simp [results, Tryz.results76, go_sem, r0, r1, r2, r3]) rfl ⟨rfl, hE2⟩
  | true =>
    by_cases hl2 : lo.length = 2
    case neg =>
      obtain rfl : res = (zeroN, false) := by
        rw [HRES.out]
        unfold tryL
        split
        · next h => injection h with h1 h2; subst h1; exact absurd rfl hl2
        · rfl
      have hlB : decide ((lo.length : Int) = 2) = false := decide_eq_false (by omega)
      have hlB2 : ((lo.length : Int) == 2) = false := by rw [beq_eq_false_iff_ne]; omega
      have hlB3 : (lo.length == 2) = false := by rw [beq_eq_false_iff_ne]; exact hl2
      obtain ⟨z0, z1, z2, z3⟩ := four_cells (HX3.out.heap_some HB1.out)
      have zf := frozen_of (HX3.out.heap_some HB1.out)
      have HE := hid (HEND.out w3 (.int .u64 0) (.int .u64 0) (.int .u64 0) (.int .u64 0) HX3.out)
      clear HEND
      go_wp2_with fail
      obtain ⟨hE1, hE2⟩ := HE.out
      obtain ⟨r0, r1, r2, r3⟩ := four_cells hE1
      generalize (((w3.setCell ⟨N + 1, 0, none⟩ (.int .u64 0)).setCell ⟨N + 1, 1, none⟩ (.int .u64 0)).setCell ⟨N + 1, 2, none⟩ (.int .u64 0)).setCell ⟨N + 1, 3, none⟩ (.int .u64 0) = W at *
      exact bodyPost_ret (v := .tuple #[.agg #[.int .u64 0, .int .u64 0, .int .u64 0, .int .u64 0], .bool false]) (by simp [results, Tryz.results76, go_sem, r0, r1, r2, r3]) rfl ⟨rfl, hE2⟩
    obtain ⟨x, y, rfl⟩ : ∃ x y, lo = [x, y] := by
      match lo, hl2 with
      | [x, y], _ => exact ⟨x, y, rfl⟩
    have hres : res = if x.toNat ≤ 4294967295 ∧ commitN ⟨x, own, rho, y⟩ = commit then (⟨x, own, rho, y⟩, true) else (zeroN, false) := HRES.out
    have HR := hid hres
    obtain ⟨q, o, rfl, f0⟩ := (OwnU.rdu HO.out).at (i := 0) (x := x) rfl
    have f1 : w3.cell? ⟨q, o + 1, none⟩ = some (uv y) := by
      obtain ⟨q', o', e, h⟩ := (OwnU.rdu HO.out).at (i := 1) (x := y) rfl
      injection e with e
      injection e with e1 e2
      subst e1 e2
      exact h
    rw [Nat.add_zero] at f0
    have HLC : Hid (∀ u, Ext w3 u → u.cell? ⟨q, o, none⟩ = some (uv x) ∧ u.cell? ⟨q, o + 1, none⟩ = some (uv y)) := hid fun u ku => ⟨ku.cell_some f0, ku.cell_some f1⟩
    clear hres hl2 HRES
    by_cases hx : x.toNat ≤ 4294967295
    case neg =>
      obtain rfl : res = (zeroN, false) := by rw [HR.out, if_neg fun h => hx h.1]
      have hxB : decide ((4294967295 : Int) < (x.toNat : Int)) = true := decide_eq_true (by omega)
      have hxB2 : decide (4294967295 < x.toNat) = true := decide_eq_true (by omega)
      obtain ⟨z0, z1, z2, z3⟩ := four_cells (HX3.out.heap_some HB1.out)
      have zf := frozen_of (HX3.out.heap_some HB1.out)
      have HE := hid (HEND.out w3 (.int .u64 0) (.int .u64 0) (.int .u64 0) (.int .u64 0) HX3.out)
      clear HEND
      clear HR
      go_wp2_with fail
      obtain ⟨hE1, hE2⟩ := HE.out
      obtain ⟨r0, r1, r2, r3⟩ := four_cells hE1
      generalize (((w3.setCell ⟨N + 1, 0, none⟩ (.int .u64 0)).setCell ⟨N + 1, 1, none⟩ (.int .u64 0)).setCell ⟨N + 1, 2, none⟩ (.int .u64 0)).setCell ⟨N + 1, 3, none⟩ (.int .u64 0) = W at *
      exact bodyPost_ret (v := .tuple #[.agg #[.int .u64 0, .int .u64 0, .int .u64 0, .int .u64 0], .bool false]) (by simp [results, Tryz.results76, go_sem, r0, r1, r2, r3]) rfl ⟨rfl, hE2⟩
    have hxB : decide ((4294967295 : Int) < (x.toNat : Int)) = false := decide_eq_false (by omega)
    have hxB2 : decide (4294967295 < x.toNat) = false := decide_eq_false (by omega)
    have hl2' : ((2 : Nat) : Int) = 2 := rfl
    have HLD : Hid (∀ u, Ext w3 u → (u.cell? ⟨q, o, none⟩ = some (uv x) ∧ u.cell? ⟨q, o + 1, none⟩ = some (uv y)) ∧ Ext w3 u) := hid fun u ku => ⟨HLC.out u ku, ku⟩
    go_wp2_with fail
    clear f0 f1
    refine wp_region_N (fun u => (u.cell? ⟨q, o, none⟩ = some (uv x) ∧ u.cell? ⟨q, o + 1, none⟩ = some (uv y)) ∧ Ext w3 u) 13 14 (by kernel_rfl) (by kernel_rfl) ?_
    intro ops hops
    have HR0 := HLD.out _ (Ext.refl w3).drew
    refine N_take (i := 0) (v := ?_) (by rw [hops, List.getElem?_toArray]; rfl) (by rw [hops]; kernel_rfl) (by intro c a d v w h; cases d <;> exact h) (by first | rfl | (rw [hops]; rfl)) ?_ HR0 ?_
    rotate_left
    · intro v h; go_simp; with_reducible rfl
    simp only [Act.put, List.getElem_toArray, List.getElem_cons_zero, List.getElem_cons_succ, List.setIfInBounds_toArray, List.set_cons_zero, List.set_cons_succ]
    refine N_take (i := 1) (v := ?_) (by rw [hops, List.getElem?_toArray]; rfl) (by rw [hops]; kernel_rfl) (by intro c a d v w h; cases d <;> exact h) (by first | rfl | (rw [hops]; rfl)) ?_ HR0 ?_
    rotate_left
    · intro v h; go_simp; with_reducible rfl
    simp only [Act.put, List.getElem_toArray, List.getElem_cons_zero, List.getElem_cons_succ, List.setIfInBounds_toArray, List.set_cons_zero, List.set_cons_succ]
    refine N_take (i := 2) (v := ?_) (by rw [hops, List.getElem?_toArray]; rfl) (by rw [hops]; kernel_rfl) (by intro c a d v w h; cases d <;> exact h) (by first | rfl | (rw [hops]; rfl)) ?_ HR0 ?_
    rotate_left
    · intro v h; go_simp; with_reducible rfl
    simp only [Act.put, List.getElem_toArray, List.getElem_cons_zero, List.getElem_cons_succ, List.setIfInBounds_toArray, List.set_cons_zero, List.set_cons_succ]
    refine N_take (i := 3) (v := ?_) (by rw [hops, List.getElem?_toArray]; rfl) (by rw [hops]; kernel_rfl) (by intro c a d v w h; cases d <;> exact h) (by first | rfl | (rw [hops]; rfl)) ?_ HR0 ?_
    rotate_left
    · intro v h; go_simp; with_reducible rfl
    simp only [Act.put, List.getElem_toArray, List.getElem_cons_zero, List.getElem_cons_succ, List.setIfInBounds_toArray, List.set_cons_zero, List.set_cons_succ]
    refine N_take (i := 5) (v := ?_) (by rw [hops, List.getElem?_toArray]; rfl) (by rw [hops]; kernel_rfl) (by intro c a d v w h; cases d <;> exact h) (by first | rfl | (rw [hops]; rfl)) ?_ HR0 ?_
    rotate_left
    · intro v h; go_simp; with_reducible rfl
    simp only [Act.put, List.getElem_toArray, List.getElem_cons_zero, List.getElem_cons_succ, List.setIfInBounds_toArray, List.set_cons_zero, List.set_cons_succ]
    refine N_take (i := 7) (v := ?_) (by rw [hops, List.getElem?_toArray]; rfl) (by rw [hops]; kernel_rfl) (by intro c a d v w h; cases d <;> exact h) (by first | rfl | (rw [hops]; rfl)) ?_ HR0 ?_
    rotate_left
    · intro v h; go_simp; with_reducible rfl
    simp only [Act.put, List.getElem_toArray, List.getElem_cons_zero, List.getElem_cons_succ, List.setIfInBounds_toArray, List.set_cons_zero, List.set_cons_succ]
    refine N_take (i := 8) (v := ?_) (by rw [hops, List.getElem?_toArray]; rfl) (by rw [hops]; kernel_rfl) (by intro c a d v w h; cases d <;> exact h) (by first | rfl | (rw [hops]; rfl)) ?_ HR0 ?_
    rotate_left
    · intro v h; go_simp; with_reducible rfl
    simp only [Act.put, List.getElem_toArray, List.getElem_cons_zero, List.getElem_cons_succ, List.setIfInBounds_toArray, List.set_cons_zero, List.set_cons_succ]
    refine N_take (i := 9) (v := ?_) (by rw [hops, List.getElem?_toArray]; rfl) (by rw [hops]; kernel_rfl) (by intro c a d v w h; cases d <;> exact h) (by first | rfl | (rw [hops]; rfl)) ?_ HR0 ?_
    rotate_left
    · intro v h; go_simp; with_reducible rfl
    simp only [Act.put, List.getElem_toArray, List.getElem_cons_zero, List.getElem_cons_succ, List.setIfInBounds_toArray, List.set_cons_zero, List.set_cons_succ]
    refine N_take (i := 10) (v := ?_) (by rw [hops, List.getElem?_toArray]; rfl) (by rw [hops]; kernel_rfl) (by intro c a d v w h; cases d <;> exact h) (by first | rfl | (rw [hops]; rfl)) ?_ HR0 ?_
    rotate_left
    · intro v h; go_simp; with_reducible rfl
    simp only [Act.put, List.getElem_toArray, List.getElem_cons_zero, List.getElem_cons_succ, List.setIfInBounds_toArray, List.set_cons_zero, List.set_cons_succ]
    have hal : ∀ Q, Alloc1 Tryz.prog ops Q 12 13 (.cells #[.int .u64 0, .int .u64 0, .int .u64 0, .int .u64 0] 37 (0, 0)) := fun Q => ⟨⟨_, by rw [hops, List.getElem?_toArray]; rfl, fun t => rfl, fun a w K hK => by go_wp2_with fail; exact hK⟩⟩
    have hgr := CG1.grows (Z := .cells #[.int .u64 0, .int .u64 0, .int .u64 0, .int .u64 0] 37 (0, 0)) (w0 := w3) (F := fun _ => False) (S := fun u => (u.cell? ⟨q, o, none⟩ = some (uv x) ∧ u.cell? ⟨q, o + 1, none⟩ = some (uv y)) ∧ Ext w3 u) (fun k h => h.elim) (fun v k => HLD.out v (k.toExt fun _ h => h.elim))
    refine WB_start (i1 := 12) (d1 := 13) (f := 4) (C := CG1 w3 (fun _ => False) (.cells #[.int .u64 0, .int .u64 0, .int .u64 0, .int .u64 0] 37 (0, 0))) undef ⟨(Ext.refl w3).drew, fun h => by cases h⟩ (by rfl) (by rfl) (by rfl) ?_
    refine WB_call (hal _) hgr (c := 4) (fun v => CLB (fun _ => v = uv ks) (CG1 w3 (fun _ => False) (.cells #[.int .u64 0, .int .u64 0, .int .u64 0, .int .u64 0] 37 (0, 0)))) (by rw [hops]; kernel_rfl) (by rw [hops, List.getElem?_toArray]; rfl) rfl (fun t => rfl) (by decide) (fun v b1 x w' h => hgr.s _ _ _ h.2) ?_ ?_
    · intro b1 x1 v hC K hK
      simp only [Act.put, List.setIfInBounds_toArray, List.set_cons_zero, List.set_cons_succ]
      go_wp2_with fail
      refine (HSP.out v).mono ?_
      rintro e v' ⟨rfl, hx⟩
      exact hK _ _ ⟨rfl, hC.ext hx⟩ _ (by simp only [Act.put, List.setIfInBounds_toArray, List.set_cons_zero, List.set_cons_succ] <;> rfl)
    intro v18
    simp only [Act.put, List.setIfInBounds_toArray, List.set_cons_zero, List.set_cons_succ]
    refine WB_pure (φ := v18 = uv ks) (fun b1 x1 v h => h.1) ?_
    rintro rfl
    have hgr3 := CLB.grows (p := fun _ => uv ks = uv ks) hgr (fun _ _ h _ => h)
    refine WB_call (hal _) hgr3 (c := 6) (fun v => CLB (fun _ => v = uv own) (CG1 w3 (fun _ => False) (.cells #[.int .u64 0, .int .u64 0, .int .u64 0, .int .u64 0] 37 (0, 0)))) (by rw [hops]; kernel_rfl) (by rw [hops, List.getElem?_toArray]; rfl) rfl (fun t => rfl) (by decide) (fun v b1 x w' h => hgr.s _ _ _ h.2) ?_ ?_
    · intro b1 x1 v hC K hK
      simp only [Act.put, List.setIfInBounds_toArray, List.set_cons_zero, List.set_cons_succ]
      go_wp2_with fail
      refine (HOW.out v).mono ?_
      rintro e v' ⟨rfl, hx⟩
      exact hK _ _ ⟨rfl, hC.2.ext hx⟩ _ (by simp only [Act.put, List.setIfInBounds_toArray, List.set_cons_zero, List.set_cons_succ] <;> rfl)
    intro v19
    simp only [Act.put, List.setIfInBounds_toArray, List.set_cons_zero, List.set_cons_succ]
    refine WB_pure (φ := v19 = uv own) (fun b1 x1 v h => h.1) ?_
    rintro rfl
    have hgr4 := CLB.grows (p := fun _ => uv own = uv own) hgr (fun _ _ h _ => h)
    refine WB_take (i := 11) (v := ?_) (fun _ _ _ h => hgr4.s _ _ _ h) (by rw [hops, List.getElem?_toArray]; rfl) rfl (fun t => rfl) (by decide) (by rw [hops]; kernel_rfl) (by intro c a d v w h; cases d <;> exact h) ?_ ?_
    rotate_left
    · intro x1 v h
      simp only [Act.put, List.setIfInBounds_toArray, List.set_cons_zero, List.set_cons_succ]
      go_simp
      with_reducible rfl
    simp only [Act.put, List.setIfInBounds_toArray, List.set_cons_zero, List.set_cons_succ]
    have hgr5 := CLB.grows (p := fun _ => True) hgr (fun _ _ _ _ => trivial)
    refine WB_last (hal _) (by first | exact hgr5 | exact hgr4) (by rw [hops]; kernel_rfl) ?_
    rintro x1 v ⟨-, hxv, hz⟩
    obtain ⟨NB, rfl, hg0, -, hgb⟩ := hz rfl
    simp only [Act.put, List.setIfInBounds_toArray, List.set_cons_zero, List.set_cons_succ]
    have k0 := cell_of hgb 0
    have k1 := cell_of hgb 1
    have k2 := cell_of hgb 2
    have k3 := cell_of hgb 3
    have kf := frozen_of hgb
    refine N_one (i := 13) (by rw [hops, List.getElem?_toArray]; rfl) (by rw [hops]; kernel_rfl) (by first | rfl | (rw [hops]; rfl)) ?_
    intro K hK
    go_wp2_with fail
    try rw [← hops]
    refine N_done (by rw [hops]; kernel_rfl) ?_
    obtain ⟨hb7, hk7⟩ := four_setN (d0 := uv x) (d1 := uv own) (d2 := uv rho) (d3 := uv y) hgb
    have hx7 := hxv.kp hk7 (fun j e => by omega)
    generalize ((((v.setCell ⟨NB, 0, none⟩ (uv x)).setCell ⟨NB, 1, none⟩ (uv own)).setCell ⟨NB, 2, none⟩ (uv rho)).setCell ⟨NB, 3, none⟩ (uv y)) = w4 at *
    have HB7 := hid hb7
    have HX7 := hid (HX3.out.trans hx7)
    have HNE : Hid (∀ u, Ext w4 u → (u.cell? ⟨NB, 0, none⟩ = some (uv x) ∧ u.cell? ⟨NB, 1, none⟩ = some (uv own) ∧ u.cell? ⟨NB, 2, none⟩ = some (uv rho) ∧ u.cell? ⟨NB, 3, none⟩ = some (uv y)) ∧ u.cell? ⟨N, 0, none⟩ = some (uv commit)) := hid fun u ku => ⟨four_cells (ku.heap_some HB7.out), (H.out u (HX7.out.trans ku)).1.1⟩
    have HCM := hid (rCommit4_any x own rho y)
    obtain ⟨cm, hcm⟩ : ∃ cm, cm = commitN ⟨x, own, rho, y⟩ := ⟨_, rfl⟩
    have HCM2 : Hid (∀ u, Calls Tryz.prog 24 #[.agg #[uv x, uv own, uv rho, uv y]] u fun e w' => e = .returned (uv cm) ∧ Ext u w') := hid fun u => by rw [hcm]; exact HCM.out u
    rw [← hcm] at HR
    clear k0 k1 k2 k3 kf hgb hal hgr hgr3 hgr4 hgr5 HR0 hz hxv hk7 hb7 hx7 HCM hcm
    clear hops ops
    go_wp2_with fail
    refine wp_region_T (fun u => (u.cell? ⟨NB, 0, none⟩ = some (uv x) ∧ u.cell? ⟨NB, 1, none⟩ = some (uv own) ∧ u.cell? ⟨NB, 2, none⟩ = some (uv rho) ∧ u.cell? ⟨NB, 3, none⟩ = some (uv y)) ∧ u.cell? ⟨N, 0, none⟩ = some (uv commit)) 4 [(0, true), (2, true), (3, true), (1, false), (4, false)] (by kernel_rfl) (by kernel_rfl) (by intro c a d v w h; cases d <;> exact h) ?_
    intro ops hops
    have HSS := HNE.out _ (Ext.refl w4).drew
    iterate 3
      refine wpT_take (v := ?_) (by rw [hops, List.getElem?_toArray]; rfl) (by first | rfl | (rw [hops]; rfl)) ?_ HSS ?_
      rotate_left
      · intro v h; go_simp; with_reducible rfl
      simp only [Act.put, List.getElem_toArray, List.getElem_cons_zero, List.getElem_cons_succ, List.setIfInBounds_toArray, List.set_cons_zero, List.set_cons_succ]
    refine wpT_step (by rw [hops, List.getElem?_toArray]; rfl) (by first | rfl | (rw [hops]; rfl)) ?_
    intro K hK
    go_wp2_with fail
    refine (HCM2.out _).mono ?_
    rintro e w5 ⟨rfl, hx⟩
    have HX5 := hid ((Ext.refl w4).drew.trans hx)
    clear hx HSS HCM2
    refine hK _ _ ⟨fun _ => HNE.out _ HX5.out, ?_⟩
    clear hK K
    by_cases hcc : cm = commit
    case neg =>
      obtain rfl : res = (zeroN, false) := by rw [HR.out, if_neg fun h => hcc h.2]
      have hne : ((cm.toNat : Int) != (commit.toNat : Int)) = true := by
        have : cm.toNat ≠ commit.toNat := fun h => hcc (UInt64.toNat_inj.1 h)
        simp; omega
      have hne2 : decide (cm.toNat = commit.toNat) = false := decide_eq_false fun h => hcc (UInt64.toNat_inj.1 h)
      have hne3 : ¬ cm.toNat = commit.toNat := fun h => hcc (UInt64.toNat_inj.1 h)
      have HX8 := hid (HX7.out.trans HX5.out)
      obtain ⟨z0, z1, z2, z3⟩ := four_cells (HX8.out.heap_some HB1.out)
      have zf := frozen_of (HX8.out.heap_some HB1.out)
      have HE := hid (HEND.out w5 (.int .u64 0) (.int .u64 0) (.int .u64 0) (.int .u64 0) HX8.out)
      clear HEND
      clear HR hcc
      refine wpT_step (by rw [hops, List.getElem?_toArray]; rfl) (by first | rfl | (rw [hops]; rfl)) ?_
      intro K hK
      go_wp2_with fail
      try (with_reducible refine ⟨fun h => absurd h (by decide), ?_⟩)
      try rw [wpT_nil]
      try clear hops ops
      go_wp2_with fail
      obtain ⟨hE1, hE2⟩ := HE.out
      obtain ⟨r0, r1, r2, r3⟩ := four_cells hE1
      generalize (((w5.setCell ⟨N + 1, 0, none⟩ (.int .u64 0)).setCell ⟨N + 1, 1, none⟩ (.int .u64 0)).setCell ⟨N + 1, 2, none⟩ (.int .u64 0)).setCell ⟨N + 1, 3, none⟩ (.int .u64 0) = W at *
      exact bodyPost_ret (v := .tuple #[.agg #[.int .u64 0, .int .u64 0, .int .u64 0, .int .u64 0], .bool false]) (by simp [results, Tryz.results76, go_sem, r0, r1, r2, r3]) rfl ⟨rfl, hE2⟩
    subst hcc
    obtain rfl : res = (⟨x, own, rho, y⟩, true) := by rw [HR.out, if_pos ⟨hx, rfl⟩]
    have hne : ((cm.toNat : Int) != (cm.toNat : Int)) = false := by simp
    have HX8 := hid (HX7.out.trans HX5.out)
    obtain ⟨⟨p0, p1, p2, p3⟩, -⟩ := HNE.out _ HX5.out
    obtain ⟨z0, z1, z2, z3⟩ := four_cells (HX8.out.heap_some HB1.out)
    have zf := frozen_of (HX8.out.heap_some HB1.out)
    have HE := hid (HEND.out w5 (uv x) (uv own) (uv rho) (uv y) HX8.out)
    clear HEND
    clear HR hx hxB hxB2
    refine wpT_step (by rw [hops, List.getElem?_toArray]; rfl) (by first | rfl | (rw [hops]; rfl)) ?_
    intro K hK
    go_wp2_with fail
    try (with_reducible refine ⟨fun h => absurd h (by decide), ?_⟩)
    try rw [wpT_nil]
    try clear hops ops
    go_wp2_with fail
    obtain ⟨hE1, hE2⟩ := HE.out
    obtain ⟨r0, r1, r2, r3⟩ := four_cells hE1
    generalize (((w5.setCell ⟨N + 1, 0, none⟩ (uv x)).setCell ⟨N + 1, 1, none⟩ (uv own)).setCell ⟨N + 1, 2, none⟩ (uv rho)).setCell ⟨N + 1, 3, none⟩ (uv y) = W at *
    exact bodyPost_ret (v := .tuple #[.agg #[uv x, uv own, uv rho, uv y], .bool true]) (by simp [results, Tryz.results76, go_sem, r0, r1, r2, r3]) rfl ⟨rfl, hE2⟩
end Go.Proofs.YtcikjcjfcanloaaGreat
