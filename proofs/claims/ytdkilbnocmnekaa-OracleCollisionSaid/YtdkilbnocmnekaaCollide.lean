/- OracleCollision returns true for every seed and every list of operations. -/
import Derived.Test.YtdkilbnocmnekaaOps
import Derived.Test.YtdkilbnocmnekaaGiven
import Derived.Test.YtdkilbnocmnekaaRefColl
import Derived.Test.YtdkilbnocmnekaaAwk10
set_option linter.unusedSimpArgs false
namespace Go.Proofs.Ytdkilbnocmnekaa
open Go.RowKit
attribute [local irreducible] perm fAdd fMul fPow fSub fNeg fRed hashU drawOf nextState

structure SmQ (M : Orc) (k : Nat) : Prop where
  qs : M.qs.length ≤ k
  draws : M.draws ≤ k
  elems : ∀ q ∈ M.qs, q.elems.length ≤ 20
theorem SmQ.snoc {M M' : Orc} {k : Nat} (h : SmQ M k) {label a : UInt64} {l : List UInt64} (hl : l.length ≤ 20) (hq : M'.qs = M.qs ++ [⟨label, l, a⟩]) (hd : M'.draws ≤ M.draws + 1) : SmQ M' (k + 1) := by
  refine ⟨by rw [hq, List.length_append]; have := h.qs; simp; omega, by have := h.draws; omega, fun q hq' => ?_⟩
  rw [hq] at hq'
  rcases List.mem_append.1 hq' with hq' | hq'
  · exact h.elems q hq'
  · simp only [List.mem_singleton] at hq'; subst hq'; exact hl
theorem SmQ.le {M : Orc} {k k' : Nat} (h : SmQ M k) (hk : k ≤ k') : SmQ M k' := ⟨Nat.le_trans h.qs hk, Nat.le_trans h.draws hk, h.elems⟩
theorem SmQ.hash {M : Orc} {k : Nat} (h : SmQ M k) (label : UInt64) {l : List UInt64} (hl : l.length ≤ 20) : SmQ (M.hash label l).2 (k + 1) := by
  by_cases hE : allE l = true
  · cases hf : findQ M.qs label l with
    | some i => rw [hash_known M label l i hE hf]; exact h.le (by omega)
    | none =>
      obtain ⟨h1, h2, -⟩ := hash_new M label l hE hf
      exact h.snoc hl h1 h2
  · have : M.hash label l = (0, M) := by unfold Orc.hash; rw [if_neg hE]
    rw [this]; exact h.le (by omega)
theorem SmQ.prog {M : Orc} {k : Nat} (h : SmQ M k) (label a : UInt64) {l : List UInt64} (hl : l.length ≤ 20) : SmQ (M.prog label l a).2 (k + 1) := by
  cases hc : (M.ideal && decide (a < big) && allE l && (findQ M.qs label l).isNone) with
  | true => rw [prog_yes hc]; exact h.snoc hl (add_qs _ _ _ _) (by rw [add_draws]; omega)
  | false => rw [prog_no hc]; exact h.le (by omega)
theorem coll_unique {qs : List Qn} {i j i' j' : Nat} {a b a' b' : Qn} (h1 : i < j) (h2 : qs[i]? = some a) (h3 : qs[j]? = some b) (h4 : a.answer = b.answer) (h5 : ∀ k, k < j → noColl qs k)
    (g1 : i' < j') (g2 : qs[i']? = some a') (g3 : qs[j']? = some b') (g4 : a'.answer = b'.answer) (g5 : ∀ k, k < j' → noColl qs k) : i = i' ∧ j = j' := by
  have hj : j = j' := by
    rcases Nat.lt_trichotomy j j' with h | h | h
    · exact absurd h4 (g5 j h i h1 a b h2 h3)
    · exact h
    · exact absurd g4 (h5 j' h i' g1 a' b' g2 g3)
  subst hj
  refine ⟨?_, rfl⟩
  obtain rfl := Option.some.inj (h3.symm.trans g3)
  rcases Nat.lt_trichotomy i i' with h | h | h
  · exact absurd (h4.trans g4.symm) (h5 i' g1 i h a a' h2 g2)
  · exact h
  · exact absurd (g4.trans h4.symm) (h5 i h1 i' h a' a g2 h2)
theorem newer {w wr : World} {F F' : Nat → Prop} (hF : ∀ k, F k → w.heap.size ≤ k) (hx : Ext w wr) (hn : ∀ k, F' k → F k ∨ wr.heap.size ≤ k) : ∀ k, F' k → w.heap.size ≤ k := by
  intro k hk
  rcases hn k hk with h | h
  · exact hF k h
  · exact Nat.le_trans hx.size h
theorem cellsQ {w : World} {b : Nat} {c0 c1 c2 : Value} {T : TypeId} {fz : Nat × Nat} (h : w.heap[b]? = some (.cells #[c0, c1, c2] T fz)) :
    w.cell? ⟨b, 0, none⟩ = some c0 ∧ w.cell? ⟨b, 1, none⟩ = some c1 ∧ w.cell? ⟨b, 2, none⟩ = some c2 := ⟨cell_of h 0, cell_of h 1, cell_of h 2⟩
theorem cells5 {w : World} {b : Nat} {c0 c1 c2 c3 c4 : Value} {T : TypeId} {fz : Nat × Nat} (h : w.heap[b]? = some (.cells #[c0, c1, c2, c3, c4] T fz)) :
    w.cell? ⟨b, 0, none⟩ = some c0 ∧ w.cell? ⟨b, 1, none⟩ = some c1 ∧ w.cell? ⟨b, 2, none⟩ = some c2 ∧ w.cell? ⟨b, 3, none⟩ = some c3 ∧ w.cell? ⟨b, 4, none⟩ = some c4 :=
  ⟨cell_of h 0, cell_of h 1, cell_of h 2, cell_of h 3, cell_of h 4⟩

set_option maxRecDepth 100000 in
set_option maxHeartbeats 3200000 in
theorem OracleCollision_any (seed : UInt64) (l : List OpV) (lv : Value) (w : World) (hl : RdOps w lv l) :
    Calls Try.prog 3 #[uv seed, lv] w fun e w' => e = .returned (.bool true) ∧ Ext w w' := by
  obtain ⟨la, lc, rfl, -⟩ := id hl
  have HL := hid hl
  have HI := hid (Ideal_any seed)
  have CF : Hid (∀ v, Ext w v → Calls Try.prog 12 #[.slice la l.length lc] v fun e v' => e = .returned (.bool (fewB l)) ∧ Ext v v') := hid fun v k => few_any l _ v (hl.ext k)
  obtain ⟨nl, hnl⟩ : ∃ nl, nl = l.length := ⟨_, rfl⟩
  have HNL := hid hnl
  rw [← hnl] at HL CF ⊢
  clear hl hnl
  rcases hfew : fewB l with _ | _
  · rw [hfew] at CF
    clear hfew
    go_enter Try.func3, Try.ntmps3
    go_wp2_with fail
    refine (awake10_any _).mono ?_
    rintro e w1 ⟨rfl, hx1⟩
    have HX1 := hid hx1
    clear hx1
    go_wp2_with fail
    refine (CF.out _ HX1.out).mono ?_
    rintro e w2 ⟨rfl, hx2⟩
    have HX2 := hid (HX1.out.trans hx2)
    clear hx2
    go_wp2_with fail
    go_ret
    exact ⟨rfl, HX2.out⟩
  · rw [hfew] at CF
    obtain ⟨h30, h20⟩ := fewB_len hfew
    have H20 := hid h20
    have hn30 : nl ≤ 30 := by have := HNL.out; omega
    clear hfew h30 h20
    go_enter Try.func3, Try.ntmps3
    go_wp2_with fail
    refine (awake10_any _).mono ?_
    rintro e w1 ⟨rfl, hx1⟩
    have HX1 := hid hx1
    clear hx1
    go_wp2_with fail
    refine (CF.out _ HX1.out).mono ?_
    rintro e w2 ⟨rfl, hx2⟩
    have HX2 := hid (HX1.out.trans hx2)
    clear hx2 CF
    go_wp2_with fail
    refine (HI.out _).mono ?_
    rintro e w3 ⟨bo, Fo, rfl, hat, hx3, hFo⟩
    have J0 : Hid (∃ M F, OrcAt w3 bo M F ∧ (∀ k, F k → w.heap.size ≤ k) ∧ Ext w w3 ∧ SmQ M 0) :=
      hid ⟨_, Fo, hat, fun k hk => Nat.le_trans HX2.out.size (hFo k hk), HX2.out.trans hx3, ⟨Nat.le_refl _, Nat.le_refl _, fun q hq => absurd hq (by show q ∉ ([] : List Qn); simp)⟩⟩
    clear hat hx3 hFo HI
    go_wp2_with fail
    go_loopw [25] (fun iv wr => ∃ i : Nat, i ≤ nl ∧ iv = .int .i64 i ∧ Hid (∃ M F, OrcAt wr bo M F ∧ (∀ k, F k → w.heap.size ≤ k) ∧ Ext w wr ∧ SmQ M i)) (fun iv _ => (nl - (intOf iv).toNat))
    case atStart => exact ⟨0, by omega, rfl, J0⟩
    case round =>
      obtain ⟨i, hi, rfl, HJ⟩ := hrel
      obtain ⟨M, F, hat, hF, hxr, hsm⟩ := HJ.out
      have HAT := hid hat
      have HF := hid hF
      have HXR := hid hxr
      have HSM := hid hsm
      clear hat hF hxr hsm J0
      by_cases hlt : i < nl
      · have hltB : decide ((i : Int) < (nl : Int)) = true := by simp; omega
        obtain ⟨x, hx⟩ : ∃ x, l[i]? = some x := ⟨_, List.getElem?_eq_getElem (by have := HNL.out; omega)⟩
        obtain ⟨bl, ol, u, rfl, e0, e1, e2, e3, e4, e5⟩ := (HL.out.ext HXR.out).at hx
        obtain ⟨ua, uc, rfl, -⟩ := id e5
        have hil : (i : Int) < (nl : Int) := by omega
        have hi0 : (0 : Int) ≤ (i : Int) := Int.natCast_nonneg _
        have hx20 := H20.out x (List.mem_of_getElem? hx)
        have HX20 := hid hx20
        have hb4 := heap_new wr (.cells #[.int .u8 x.kind.toNat, uv x.label, .slice ua x.l.length uc, uv x.n, .bool x.odd] 30)
        have hx4 := (Ext.refl wr).alloc (.cells #[.int .u8 x.kind.toNat, uv x.label, .slice ua x.l.length uc, uv x.n, .bool x.odd] 30)
        have CO : Hid (∀ v, Ext wr v → Calls Try.prog 15 #[.slice ua x.l.length uc] v (NewU v x.l)) := hid fun v k => own_any _ _ _ (e5.ext k) (by omega)
        have hM1 : M.qs.length ≤ 1000000000 := by have := HSM.out.qs; omega
        have hM2 : M.draws ≤ 1000000000000 := by have := HSM.out.draws; omega
        have CH : Hid (∀ v F lv, OrcAt v bo M F → RdU v lv x.l → (∀ k, blk lv = some k → ¬ F k) → Calls Try.prog 14 #[.pointer (some ⟨bo, 0, none⟩), uv x.label, lv] v (HashO v bo M F x.label x.l)) := hid fun v F lv h hr hf => Hash_orc h hr hf (by omega) hM1 hM2
        have CP : Hid (∀ v F lv, OrcAt v bo M F → RdU v lv x.l → (∀ k, blk lv = some k → ¬ F k) → Calls Try.prog 16 #[.pointer (some ⟨bo, 0, none⟩), uv x.label, lv, uv x.n] v (ProgO v bo M F x.label x.l x.n)) := hid fun v F lv h hr hf => Program_any h hr hf (by omega) hM1
        clear hx e5 hM1 hM2 hx20
        have HX4 : Hid (Ext wr (wr.alloc (.cells #[.int .u8 x.kind.toNat, uv x.label, .slice ua x.l.length uc, uv x.n, .bool x.odd] 30))) := hid hx4
        have H5 : Hid (∀ v, Ext (wr.alloc (.cells #[.int .u8 x.kind.toNat, uv x.label, .slice ua x.l.length uc, uv x.n, .bool x.odd] 30)) v → v.cell? ⟨wr.heap.size, 1, none⟩ = some (uv x.label) ∧ v.cell? ⟨wr.heap.size, 2, none⟩ = some (.slice ua x.l.length uc) ∧ v.cell? ⟨wr.heap.size, 3, none⟩ = some (uv x.n)) :=
          hid fun v k => ⟨(cells5 (k.heap_some hb4)).2.1, (cells5 (k.heap_some hb4)).2.2.1, (cells5 (k.heap_some hb4)).2.2.2.1⟩
        clear hb4 hx4
        go_wp2_with fail
        all_goals clear e0 e1 e2 e3 e4
        all_goals generalize wr.alloc (.cells #[.int .u8 x.kind.toNat, uv x.label, .slice ua x.l.length uc, uv x.n, .bool x.odd] 30) = w4 at *
        · refine wp_region_T (fun v => (v.cell? ⟨wr.heap.size, 1, none⟩ = some (uv x.label) ∧ v.cell? ⟨wr.heap.size, 2, none⟩ = some (.slice ua x.l.length uc) ∧ v.cell? ⟨wr.heap.size, 3, none⟩ = some (uv x.n)) ∧ Ext w4 v) 6 [(0, true), (1, true), (2, true), (3, true), (4, true), (5, false), (6, false)] (by kernel_rfl) (by kernel_rfl) (by intro c a d v w h; cases d <;> exact h) ?_
          intro ops hops
          have HS : _ ∧ Ext w4 w4.drew := ⟨H5.out _ (Ext.refl w4).drew, (Ext.refl w4).drew⟩
          iterate 5
            refine wpT_take (v := ?_) (by rw [hops, List.getElem?_toArray]; rfl) (by first | rfl | (rw [hops]; rfl)) ?_ HS ?_
            rotate_left
            · intro v h; go_simp; with_reducible rfl
            simp only [Act.put, List.getElem_toArray, List.getElem_cons_zero, List.getElem_cons_succ, List.setIfInBounds_toArray, List.set_cons_zero, List.set_cons_succ]
          refine wpT_step (by rw [hops, List.getElem?_toArray]; rfl) (by first | rfl | (rw [hops]; rfl)) ?_
          intro K hK
          go_wp2_with fail
          refine (CO.out _ (HX4.out.trans (Ext.refl w4).drew)).mono ?_
          rintro e w5 ⟨v5, rfl, hown, hx5, hfr⟩
          obtain ⟨va, vc, rfl, -⟩ := ownsRow_rd hown
          have hx5' := (Ext.refl w4).drew.trans hx5
          have HAT4 := hid (HAT.out.ext HX4.out)
          have hap := new_apart (HAT4.out.ext (Ext.refl w4).drew) hfr
          have HX5 := hid hx5'
          have HOWN := hid hown.rdu
          have HAP := hid hap
          have HS5 : _ ∧ Ext w4 w5 := ⟨H5.out _ hx5', hx5'⟩
          clear hown hx5 hx5' hfr hap HS
          refine hK _ _ ⟨fun _ => HS5, ?_⟩
          clear hK K
          refine wpT_step (by rw [hops, List.getElem?_toArray]; rfl) (by first | rfl | (rw [hops]; rfl)) ?_
          intro K hK
          go_wp2_with fail
          refine (CH.out _ _ _ (HAT4.out.ext HX5.out) HOWN.out HAP.out).mono ?_
          rintro e w6 ⟨rfl, F6, t⟩
          have HTO := hid (t.pre (HX4.out.trans HX5.out))
          clear t HS5
          refine hK _ _ ⟨fun h => absurd h (by decide), ?_⟩
          clear hK K
          rw [wpT_nil]
          clear hops ops
          go_wp2_with fail
          go_roundw
          case rel => exact ⟨i + 1, by omega, by go_num, hid ⟨_, F6, HTO.out.at', newer HF.out HXR.out HTO.out.new, HXR.out.kp HTO.out.kp HF.out, HSM.out.hash _ HX20.out⟩⟩
          case measure => simp [intOf]; omega
        · refine wp_region_T (fun v => (v.cell? ⟨wr.heap.size, 1, none⟩ = some (uv x.label) ∧ v.cell? ⟨wr.heap.size, 2, none⟩ = some (.slice ua x.l.length uc) ∧ v.cell? ⟨wr.heap.size, 3, none⟩ = some (uv x.n)) ∧ Ext w4 v) 8 [(0, true), (1, true), (2, true), (3, true), (4, true), (6, true), (7, true), (5, false), (8, false)] (by kernel_rfl) (by kernel_rfl) (by intro c a d v w h; cases d <;> exact h) ?_
          intro ops hops
          have HS : _ ∧ Ext w4 w4.drew := ⟨H5.out _ (Ext.refl w4).drew, (Ext.refl w4).drew⟩
          iterate 7
            refine wpT_take (v := ?_) (by rw [hops, List.getElem?_toArray]; rfl) (by first | rfl | (rw [hops]; rfl)) ?_ HS ?_
            rotate_left
            · intro v h; go_simp; with_reducible rfl
            simp only [Act.put, List.getElem_toArray, List.getElem_cons_zero, List.getElem_cons_succ, List.setIfInBounds_toArray, List.set_cons_zero, List.set_cons_succ]
          refine wpT_step (by rw [hops, List.getElem?_toArray]; rfl) (by first | rfl | (rw [hops]; rfl)) ?_
          intro K hK
          go_wp2_with fail
          refine (CO.out _ (HX4.out.trans (Ext.refl w4).drew)).mono ?_
          rintro e w5 ⟨v5, rfl, hown, hx5, hfr⟩
          obtain ⟨va, vc, rfl, -⟩ := ownsRow_rd hown
          have hx5' := (Ext.refl w4).drew.trans hx5
          have HAT4 := hid (HAT.out.ext HX4.out)
          have hap := new_apart (HAT4.out.ext (Ext.refl w4).drew) hfr
          have HX5 := hid hx5'
          have HOWN := hid hown.rdu
          have HAP := hid hap
          have HS5 : _ ∧ Ext w4 w5 := ⟨H5.out _ hx5', hx5'⟩
          clear hown hx5 hx5' hfr hap HS
          refine hK _ _ ⟨fun _ => HS5, ?_⟩
          clear hK K
          refine wpT_step (by rw [hops, List.getElem?_toArray]; rfl) (by first | rfl | (rw [hops]; rfl)) ?_
          intro K hK
          go_wp2_with fail
          refine (CP.out _ _ _ (HAT4.out.ext HX5.out) HOWN.out HAP.out).mono ?_
          rintro e w6 ⟨rfl, F6, t⟩
          have HTO := hid (t.pre (HX4.out.trans HX5.out))
          clear t HS5
          refine hK _ _ ⟨fun h => absurd h (by decide), ?_⟩
          clear hK K
          rw [wpT_nil]
          clear hops ops
          go_wp2_with fail
          go_roundw
          case rel => exact ⟨i + 1, by omega, by go_num, hid ⟨_, F6, HTO.out.at', newer HF.out HXR.out HTO.out.new, HXR.out.kp HTO.out.kp HF.out, HSM.out.prog _ _ HX20.out⟩⟩
          case measure => simp [intOf]; omega
      · have hin : i = nl := by omega
        have hltB : decide ((i : Int) < (nl : Int)) = false := by simp; omega
        have hM1 : Hid (M.qs.length ≤ 1000000000) := hid (by have := HSM.out.qs; omega)
        have hM3 : Hid (∀ q ∈ M.qs, q.elems.length ≤ 1000000000000) := hid fun q hq => Nat.le_trans (HSM.out.elems q hq) (by omega)
        go_wp2_with fail
        refine (Questions_any HAT.out hM1.out hM3.out).mono ?_
        rintro e w7 ⟨v7, Q, rfl, hQ, hown, hel, hx7, -⟩
        have R := hid (rdQ_of hQ hown fun x hx => (hel x hx).1)
        have HX7 := hid hx7
        clear hQ hown hel hx7
        obtain ⟨qa, qc, rfl, -⟩ := id R.out
        go_wp2_with fail
        refine (refCollision_any M.qs _ _ R.out hM1.out).mono ?_
        rintro e w8 ⟨hx8, hR⟩
        have HX8 := hid hx8
        have HX78 := hid (HX7.out.trans hx8)
        clear hx8
        rcases hR with ⟨i1, j1, a1, b1, hij, h1, h2, h3, h4, rfl⟩ | ⟨hnone, rfl⟩
        · have HIJ := hid hij
          have H1 := hid h1
          have H2 := hid h2
          have H3 := hid h3
          have H4 := hid h4
          clear hij h1 h2 h3 h4
          go_wp2_with fail
          refine (Collision_any (HAT.out.ext HX78.out) hM1.out hM3.out).mono ?_
          rintro e w9 hco
          rcases hco with ⟨i2, j2, a2, b2, va, vb, g1, g2, g3, g4, g5, rfl, rva, rvb, hx9⟩ | ⟨hno, rfl, hx9⟩
          · obtain ⟨rfl, rfl⟩ := coll_unique HIJ.out H1.out H2.out H3.out H4.out g1 g2 g3 g4 g5
            obtain rfl := Option.some.inj (H1.out.symm.trans g2)
            obtain rfl := Option.some.inj (H2.out.symm.trans g3)
            clear g1 g2 g3 g4 g5
            obtain ⟨sa, ca, rfl, -⟩ := id rva
            obtain ⟨sb, cb, rfl, -⟩ := id rvb
            obtain ⟨bi, oi, ui, hqa, i0, i11, i22, ri⟩ := ((R.out.ext HX8.out).ext hx9).at H1.out
            subst hqa
            obtain ⟨bj, oj, uj, hqb, j0, j11, j22, rj⟩ := ((R.out.ext HX8.out).ext hx9).at H2.out
            injection hqb with hqb
            injection hqb with hqb1 hqb2
            subst hqb1 hqb2
            obtain ⟨ti, di, rfl, -⟩ := id ri
            obtain ⟨tj, dj, rfl, -⟩ := id rj
            have hl1 := (List.getElem?_eq_some_iff.1 H1.out).1
            have hl2 := (List.getElem?_eq_some_iff.1 H2.out).1
            have hneg : decide ((i1 : Int) < 0) = false := by simp
            have k1 : (i1 : Int) < (M.qs.length : Int) := by omega
            have k2 : (j1 : Int) < (M.qs.length : Int) := by omega
            have k3 : (0 : Int) ≤ (i1 : Int) := Int.natCast_nonneg _
            have k4 : (0 : Int) ≤ (j1 : Int) := Int.natCast_nonneg _
            have hb0 := heap_alloc_some (o' := .cells #[uv b1.label, .slice sb b1.elems.length cb, uv b1.answer] 39) (heap_new w9 (.cells #[uv a1.label, .slice sa a1.elems.length ca, uv a1.answer] 39))
            have hb1 := heap_new (w9.alloc (.cells #[uv a1.label, .slice sa a1.elems.length ca, uv a1.answer] 39)) (.cells #[uv b1.label, .slice sb b1.elems.length cb, uv b1.answer] 39)
            rw [World.size_alloc] at hb1
            have hx10 := ((Ext.refl w9).alloc (.cells #[uv a1.label, .slice sa a1.elems.length ca, uv a1.answer] 39)).alloc (.cells #[uv b1.label, .slice sb b1.elems.length cb, uv b1.answer] 39)
            have HXW := hid (HXR.out.trans (HX78.out.trans hx9))
            have CA : Hid (∀ v, Ext w9 v → Calls Try.prog 20 #[.agg #[uv a1.label, .slice sa a1.elems.length ca, uv a1.answer], .agg #[uv a1.label, .slice ti a1.elems.length di, uv a1.answer]] v fun e v' => e = .returned (.bool true) ∧ Ext v v') := hid fun v k => by
              have hlen := hM3.out _ (List.mem_of_getElem? H1.out)
              have := refQuestion_any a1 a1 _ _ v (rva.ext k) (ri.ext k) hlen hlen
              rw [Qn.same_self] at this
              exact this
            have CB : Hid (∀ v, Ext w9 v → Calls Try.prog 20 #[.agg #[uv b1.label, .slice sb b1.elems.length cb, uv b1.answer], .agg #[uv b1.label, .slice tj b1.elems.length dj, uv b1.answer]] v fun e v' => e = .returned (.bool true) ∧ Ext v v') := hid fun v k => by
              have hlen := hM3.out _ (List.mem_of_getElem? H2.out)
              have := refQuestion_any b1 b1 _ _ v (rvb.ext k) (rj.ext k) hlen hlen
              rw [Qn.same_self] at this
              exact this
            go_wp2_with fail
            generalize ((w9.alloc (.cells #[uv a1.label, .slice sa a1.elems.length ca, uv a1.answer] 39)).alloc (.cells #[uv b1.label, .slice sb b1.elems.length cb, uv b1.answer] 39)) = w10 at *
            have HX10 := hid hx10
            have H12 : Hid (∀ v, Ext w10 v → (v.cell? ⟨w9.heap.size, 0, none⟩ = some (uv a1.label) ∧ v.cell? ⟨w9.heap.size, 1, none⟩ = some (.slice sa a1.elems.length ca) ∧ v.cell? ⟨w9.heap.size, 2, none⟩ = some (uv a1.answer)) ∧ (v.cell? ⟨w9.heap.size + 1, 0, none⟩ = some (uv b1.label) ∧ v.cell? ⟨w9.heap.size + 1, 1, none⟩ = some (.slice sb b1.elems.length cb) ∧ v.cell? ⟨w9.heap.size + 1, 2, none⟩ = some (uv b1.answer)) ∧ (v.cell? ⟨bi, oi + i1 * 3, none⟩ = some (uv a1.label) ∧ v.cell? ⟨bi, oi + i1 * 3 + 1, none⟩ = some (.slice ti a1.elems.length di) ∧ v.cell? ⟨bi, oi + i1 * 3 + 2, none⟩ = some (uv a1.answer)) ∧ (v.cell? ⟨bi, oi + j1 * 3, none⟩ = some (uv b1.label) ∧ v.cell? ⟨bi, oi + j1 * 3 + 1, none⟩ = some (.slice tj b1.elems.length dj) ∧ v.cell? ⟨bi, oi + j1 * 3 + 2, none⟩ = some (uv b1.answer))) := hid fun v k => ⟨cellsQ (k.heap_some hb0), cellsQ (k.heap_some hb1),
              ⟨(hx10.trans k).cell_some i0, (hx10.trans k).cell_some i11, (hx10.trans k).cell_some i22⟩, (hx10.trans k).cell_some j0, (hx10.trans k).cell_some j11, (hx10.trans k).cell_some j22⟩
            clear hb0 hb1 hx10 i0 i11 i22 j0 j11 j22 rva rvb ri rj hx9 hl1 hl2
            refine wp_region_T (fun v => ((v.cell? ⟨w9.heap.size, 0, none⟩ = some (uv a1.label) ∧ v.cell? ⟨w9.heap.size, 1, none⟩ = some (.slice sa a1.elems.length ca) ∧ v.cell? ⟨w9.heap.size, 2, none⟩ = some (uv a1.answer)) ∧ (v.cell? ⟨w9.heap.size + 1, 0, none⟩ = some (uv b1.label) ∧ v.cell? ⟨w9.heap.size + 1, 1, none⟩ = some (.slice sb b1.elems.length cb) ∧ v.cell? ⟨w9.heap.size + 1, 2, none⟩ = some (uv b1.answer)) ∧ (v.cell? ⟨bi, oi + i1 * 3, none⟩ = some (uv a1.label) ∧ v.cell? ⟨bi, oi + i1 * 3 + 1, none⟩ = some (.slice ti a1.elems.length di) ∧ v.cell? ⟨bi, oi + i1 * 3 + 2, none⟩ = some (uv a1.answer)) ∧ (v.cell? ⟨bi, oi + j1 * 3, none⟩ = some (uv b1.label) ∧ v.cell? ⟨bi, oi + j1 * 3 + 1, none⟩ = some (.slice tj b1.elems.length dj) ∧ v.cell? ⟨bi, oi + j1 * 3 + 2, none⟩ = some (uv b1.answer))) ∧ Ext w10 v) 15 [(0, true), (1, true), (2, true), (3, true), (4, true), (5, true), (6, true), (7, false), (8, true), (9, true), (10, true), (11, true), (12, true), (13, true), (14, true), (15, false), (16, false), (17, false)] (by kernel_rfl) (by kernel_rfl) (by intro c a d v w h; cases d <;> exact h) ?_
            intro ops hops
            have HS : _ ∧ Ext w10 w10.drew := ⟨H12.out _ (Ext.refl w10).drew, (Ext.refl w10).drew⟩
            iterate 7
              refine wpT_take (v := ?_) (by rw [hops, List.getElem?_toArray]; rfl) (by first | rfl | (rw [hops]; rfl)) ?_ HS ?_
              rotate_left
              · intro v h; go_simp; with_reducible rfl
              simp only [Act.put, List.getElem_toArray, List.getElem_cons_zero, List.getElem_cons_succ, List.setIfInBounds_toArray, List.set_cons_zero, List.set_cons_succ]
            refine wpT_step (by rw [hops, List.getElem?_toArray]; rfl) (by first | rfl | (rw [hops]; rfl)) ?_
            intro K hK
            go_wp2_with fail
            refine (CA.out _ HX10.out.drew).mono ?_
            rintro e w11 ⟨rfl, hx11⟩
            have hx11' := (Ext.refl w10).drew.trans hx11
            have HX11 := hid hx11'
            have HS2 : _ ∧ Ext w10 w11 := ⟨H12.out _ hx11', hx11'⟩
            clear HS hx11 hx11'
            refine hK _ _ ⟨fun _ => HS2, ?_⟩
            clear hK K
            iterate 7
              refine wpT_take (v := ?_) (by rw [hops, List.getElem?_toArray]; rfl) (by first | rfl | (rw [hops]; rfl)) ?_ HS2 ?_
              rotate_left
              · intro v h; go_simp; with_reducible rfl
              simp only [Act.put, List.getElem_toArray, List.getElem_cons_zero, List.getElem_cons_succ, List.setIfInBounds_toArray, List.set_cons_zero, List.set_cons_succ]
            refine wpT_step (by rw [hops, List.getElem?_toArray]; rfl) (by first | rfl | (rw [hops]; rfl)) ?_
            intro K hK
            go_wp2_with fail
            refine (CB.out _ (HX10.out.trans HX11.out)).mono ?_
            rintro e w12 ⟨rfl, hx12⟩
            have HX12 := hid (HXW.out.trans (HX10.out.trans (HX11.out.trans hx12)))
            clear HS2 hx12
            refine hK _ _ ⟨fun h => absurd h (by decide), ?_⟩
            clear hK K
            refine wpT_step (by rw [hops, List.getElem?_toArray]; rfl) (by first | rfl | (rw [hops]; rfl)) ?_
            intro K hK
            go_wp2_with fail
            refine ⟨fun h => absurd h (by decide), ?_⟩
            refine wpT_step (by rw [hops, List.getElem?_toArray]; rfl) (by first | rfl | (rw [hops]; rfl)) ?_
            intro K hK
            go_wp2_with fail
            refine ⟨fun h => absurd h (by decide), ?_⟩
            rw [wpT_nil]
            clear hops ops
            go_wp2_with fail
            go_ret
            exact ⟨rfl, HX12.out⟩
          · exact absurd H3.out (hno j1 (List.getElem?_eq_some_iff.1 H2.out).1 i1 HIJ.out a1 b1 H1.out H2.out)
        · have HNO := hid hnone
          clear hnone
          go_wp2_with fail
          refine (Collision_any (HAT.out.ext HX78.out) hM1.out hM3.out).mono ?_
          rintro e w9 hco
          rcases hco with ⟨i2, j2, a2, b2, va, vb, g1, g2, g3, g4, g5, rfl, rva, rvb, hx9⟩ | ⟨hno, rfl, hx9⟩
          · exact absurd g4 (HNO.out j2 (List.getElem?_eq_some_iff.1 g3).1 i2 g1 a2 b2 g2 g3)
          · have CZ : Hid (∀ v, Calls Try.prog 20 #[.agg #[.int .u64 0, .slice none 0 0, .int .u64 0], .agg #[.int .u64 0, .slice none 0 0, .int .u64 0]] v fun e v' => e = .returned (.bool true) ∧ Ext v v') := hid fun v =>
              refQuestion_any ⟨0, [], 0⟩ ⟨0, [], 0⟩ (.slice none 0 0) (.slice none 0 0) v ((RdC.nil v).rdu rfl) ((RdC.nil v).rdu rfl) (by simp) (by simp)
            have hb0 := heap_alloc_some (o' := .cells #[.int .u64 0, .slice none 0 0, .int .u64 0] 39) (heap_new w9 (.cells #[.int .u64 0, .slice none 0 0, .int .u64 0] 39))
            have hb1 := heap_new (w9.alloc (.cells #[.int .u64 0, .slice none 0 0, .int .u64 0] 39)) (.cells #[.int .u64 0, .slice none 0 0, .int .u64 0] 39)
            rw [World.size_alloc] at hb1
            have HX10 := hid (((HXR.out.trans (HX78.out.trans hx9)).alloc (.cells #[.int .u64 0, .slice none 0 0, .int .u64 0] 39)).alloc (.cells #[.int .u64 0, .slice none 0 0, .int .u64 0] 39))
            clear hno hx9
            have HB1 := hid hb1
            clear hb1 hb0
            go_wp2_with fail
            refine (CZ.out _).mono ?_
            rintro e w11 ⟨rfl, hx11⟩
            obtain ⟨d0, d1, d2⟩ := cellsQ (hx11.heap_some HB1.out)
            have HX11 := hid (HX10.out.trans hx11)
            clear hx11
            go_wp2_with fail
            refine (CZ.out _).mono ?_
            rintro e w12 ⟨rfl, hx12⟩
            have HX12 := hid (HX11.out.trans hx12)
            clear hx12
            go_wp2_with fail
            go_ret
            exact ⟨rfl, HX12.out⟩
end Go.Proofs.Ytdkilbnocmnekaa
