/- NoteMarks returns true for every place and every two pairs. -/
import Derived.Test.YtdkilbnocmnekaaBinds
import Derived.ChangeKeysEq
set_option linter.unusedSimpArgs false
namespace Go.Proofs.Ytdkilbnocmnekaa
open Go.RowKit
attribute [local irreducible] perm fAdd fMul fPow fSub fNeg fRed hashU drawOf nextState

theorem mark_ok {M : Orc} {k r : UInt64} (h : allE [k, r] = true) : M.mark k r = M.hash 3 [k, r] := by unfold Orc.mark; rw [if_pos h]
theorem pair_ne {a1 a2 b1 b2 : UInt64} (h : (a1 == b1 && a2 == b2) = false) : [a1, a2] ≠ [b1, b2] := by
  intro h'; injection h' with h1 h2; injection h2 with h2 _; subst h1 h2; simp at h
theorem pair_eq {a1 a2 b1 b2 : UInt64} (h : (a1 == b1 && a2 == b2) = true) : a1 = b1 ∧ a2 = b2 := by simpa using h
theorem block_rdu {w : World} {b : Nat} {x y : UInt64} {T : TypeId} (h : w.heap[b]? = some (.cells #[uv x, uv y] T (0, 0))) : RdU w (.slice (some ⟨b, 0, none⟩) 2 2) [x, y] :=
  (RdC.block h (n := 2) (by unfold maxLen; omega)).rdu rfl

theorem info_u64 : (Try.prog.info? 22).isSome = true := by kernel_rfl
theorem arr2_under : Try.prog.underlying 57 = some (.array 2 22) := by kernel_rfl
theorem u64_cells : Try.prog.cellsOf 22 = 1 := by kernel_rfl
theorem arrEq (a1 a2 b1 b2 : UInt64) (w : World) : (Op.equalIn 10000 57 (.agg #[uv a1, uv a2]) (.agg #[uv b1, uv b2])).run Try.prog w = .ok (a1 == b1 && a2 == b2) w := by
  obtain ⟨i, hi⟩ := Option.isSome_iff_exists.1 info_u64
  rw [show (10000 : Nat) = 9999 + 1 from rfl, run_equalIn_array w 9999 _ _ arr2_under hi, u64_cells, show List.range 2 = [0, 1] from rfl]
  have hu : Try.prog.underlying 22 = some (.int .u64) := Try.underlying22
  simp [Op.eqItems, go_sem, hu, u_beq]
  by_cases h0 : a1 = b1 <;> by_cases h1 : a2 = b2 <;> simp [h0, h1]

set_option maxRecDepth 100000 in
set_option maxHeartbeats 3200000 in
theorem NoteMarks_any (seed : UInt64) (ideal : Bool) (a1 a2 b1 b2 : UInt64) (w : World) : Calls Try.prog 7 #[.agg #[uv seed, .bool ideal], .agg #[uv a1, uv a2], .agg #[uv b1, uv b2]] w fun e w' => e = .returned (.bool true) ∧ Ext w w' := by
  have HOF := hid (of_any seed ideal)
  cases hoka : allE [a1, a2] with
  | false =>
    clear HOF
    go_enter Try.func7, Try.ntmps7
    go_wp2_with fail
    obtain ⟨hx3, hb0, hb1, hb2⟩ := three_boxes w #[uv seed, .bool ideal] #[uv a1, uv a2] #[uv b1, uv b2] 54 57 57
    generalize (((w.alloc (.cells #[uv seed, .bool ideal] 54)).alloc (.cells #[uv a1, uv a2] 57)).alloc (.cells #[uv b1, uv b2] 57)) = w3 at *
    refine (awake34_any _).mono ?_
    rintro e w4 ⟨rfl, hx4⟩
    have HB1 := hid (hx4.heap_some hb1)
    have HX4 := hid (hx3.trans hx4)
    clear hx3 hx4 hb0 hb1 hb2
    go_wp2_with fail
    refine (Elements_any _ [a1, a2] _ (block_rdu HB1.out) (by simp)).mono ?_
    rintro e w5 ⟨rfl, rfl⟩
    rw [hoka]
    go_wp2_with fail
    go_ret
    exact ⟨rfl, HX4.out⟩
  | true =>
    cases hokb : allE [b1, b2] with
    | false =>
      clear HOF
      go_enter Try.func7, Try.ntmps7
      go_wp2_with fail
      obtain ⟨hx3, hb0, hb1, hb2⟩ := three_boxes w #[uv seed, .bool ideal] #[uv a1, uv a2] #[uv b1, uv b2] 54 57 57
      generalize (((w.alloc (.cells #[uv seed, .bool ideal] 54)).alloc (.cells #[uv a1, uv a2] 57)).alloc (.cells #[uv b1, uv b2] 57)) = w3 at *
      refine (awake34_any _).mono ?_
      rintro e w4 ⟨rfl, hx4⟩
      have HB1 := hid (hx4.heap_some hb1)
      have HB2 := hid (hx4.heap_some hb2)
      have HX4 := hid (hx3.trans hx4)
      clear hx3 hx4 hb0 hb1 hb2
      go_wp2_with fail
      refine (Elements_any _ [a1, a2] _ (block_rdu HB1.out) (by simp)).mono ?_
      rintro e w5 ⟨rfl, rfl⟩
      rw [hoka]
      go_wp2_with fail
      refine (Elements_any _ [b1, b2] _ (block_rdu HB2.out) (by simp)).mono ?_
      rintro e w6 ⟨rfl, rfl⟩
      rw [hokb]
      go_wp2_with fail
      go_ret
      exact ⟨rfl, HX4.out⟩
    | true =>
      obtain ⟨M0, hM0⟩ : ∃ M0, M0 = ofM seed ideal := ⟨_, rfl⟩
      obtain ⟨x, M1, y, M2, hc1, hc2, hq1, hd1, hq2, he2, hsame, hother⟩ := two_asked M0 (by rw [hM0, ofM_qs]) (by rw [hM0, ofM_draws]) 3 [a1, a2] [b1, b2] hoka hokb
      rw [← mark_ok hoka] at hc1
      rw [← mark_ok hokb] at hc2
      have HC1 : Hid (∀ w b F, OrcAt w b M0 F → Calls Try.prog 26 #[.pointer (some ⟨b, 0, none⟩), uv a1, uv a2] w fun e w' => e = .returned (uv x) ∧ ∃ F', OrcTo w b F M1 w' F') := hid fun w b F h => by
        have := Mark_any (k := a1) (r := a2) h (by rw [hM0, ofM_qs]; decide) (by rw [hM0, ofM_draws]; decide)
        unfold MarkO at this
        rw [hc1] at this
        exact this
      have HC2 : Hid (∀ w b' F, OrcAt w b' M1 F → Calls Try.prog 26 #[.pointer (some ⟨b', 0, none⟩), uv b1, uv b2] w fun e w' => e = .returned (uv y) ∧ ∃ F', OrcTo w b' F M2 w' F') := hid fun w b' F h => by
        have := Mark_any (k := b1) (r := b2) h hq1 hd1
        unfold MarkO at this
        rw [hc2] at this
        exact this
      have hs1 : (a1 == b1 && a2 == b2) = true → x = y := fun h => hsame (by obtain ⟨rfl, rfl⟩ := pair_eq h; rfl)
      have hs2 : (a1 == b1 && a2 == b2) = false → ∃ q1 q2, M2.qs = [q1, q2] ∧ q1.answer = x ∧ q2.answer = y := fun h => hother (pair_ne h)
      have HCO : Hid (∀ w b' F, OrcAt w b' M2 F → Calls Try.prog 19 #[.pointer (some ⟨b', 0, none⟩)] w (CollO w M2.qs)) := hid fun w b' F h => Collision_any h hq2 fun q hq => Nat.le_trans (he2 q hq) (by simp)
      rw [← hM0] at HOF
      clear hc1 hc2 hq1 hd1 hq2 he2 hsame hother hM0
      have HNE : Hid ((a1 == b1 && a2 == b2) = false → ¬ (a1 = b1 ∧ a2 = b2)) := hid fun h h' => by obtain ⟨rfl, rfl⟩ := h'; simp at h
      have HT : Hid ((a1 == b1 && a2 == b2) = true → a1 = b1 ∧ a2 = b2) := hid pair_eq
      have HEQ := hid (arrEq a1 a2 b1 b2)
      generalize (a1 == b1 && a2 == b2) = s at *
      have HS1 := hid hs1
      have HS2 := hid hs2
      clear hs1 hs2
      go_enter Try.func7, Try.ntmps7
      go_wp2_with fail
      obtain ⟨hx3, hb0, hb1, hb2⟩ := three_boxes w #[uv seed, .bool ideal] #[uv a1, uv a2] #[uv b1, uv b2] 54 57 57
      generalize (((w.alloc (.cells #[uv seed, .bool ideal] 54)).alloc (.cells #[uv a1, uv a2] 57)).alloc (.cells #[uv b1, uv b2] 57)) = w3 at *
      refine (awake34_any _).mono ?_
      rintro e w4 ⟨rfl, hx4⟩
      have HB0 := hid (hx4.heap_some hb0)
      have HB1 := hid (hx4.heap_some hb1)
      have HB2 := hid (hx4.heap_some hb2)
      have HX4 := hid (hx3.trans hx4)
      obtain ⟨d00, d01⟩ := cells2 (hx4.heap_some hb0)
      clear hx3 hx4 hb0 hb1 hb2
      go_wp2_with fail
      refine (Elements_any _ [a1, a2] _ (block_rdu HB1.out) (by simp)).mono ?_
      rintro e w5 ⟨rfl, rfl⟩
      rw [hoka]
      go_wp2_with fail
      refine (Elements_any _ [b1, b2] _ (block_rdu HB2.out) (by simp)).mono ?_
      rintro e w5 ⟨rfl, rfl⟩
      rw [hokb]
      have HX46 : Hid (Ext w4 w4) := hid (Ext.refl w4)
      go_wp2_with fail
      refine (HOF.out _).mono ?_
      rintro e w7 ⟨o, F, rfl, hat, hx7, hF⟩
      have HAT := hid hat
      have HX7 := hid hx7
      have HF := hid hF
      clear hat hx7 hF d00 d01
      have hH8 : ∀ v, Ext w4 v → (v.cell? ⟨w.heap.size + 1, 0, none⟩ = some (uv a1) ∧ v.cell? ⟨w.heap.size + 1, 1, none⟩ = some (uv a2)) ∧ (v.cell? ⟨w.heap.size + 1 + 1, 0, none⟩ = some (uv b1) ∧ v.cell? ⟨w.heap.size + 1 + 1, 1, none⟩ = some (uv b2)) :=
        fun v k => ⟨cells2 ((HX46.out.trans k).heap_some HB1.out), cells2 ((HX46.out.trans k).heap_some HB2.out)⟩
      have HH8 := hid hH8
      clear hH8
      go_wp2_with fail
      refine wp_region_T (fun v => ((v.cell? ⟨w.heap.size + 1, 0, none⟩ = some (uv a1) ∧ v.cell? ⟨w.heap.size + 1, 1, none⟩ = some (uv a2)) ∧ (v.cell? ⟨w.heap.size + 1 + 1, 0, none⟩ = some (uv b1) ∧ v.cell? ⟨w.heap.size + 1 + 1, 1, none⟩ = some (uv b2))) ∧ Ext w4 v) 11 [(0, true), (1, true), (2, true), (3, true), (4, true), (6, true), (7, true), (8, true), (9, true), (10, true), (5, false), (11, false), (12, false), (13, false)] (by kernel_rfl) (by kernel_rfl) (by intro c a d v w h; cases d <;> exact h) ?_
      intro ops hops
      have HS : (_ ∧ _) ∧ Ext w4 w7.drew := ⟨HH8.out _ HX7.out.drew, HX7.out.drew⟩
      iterate 10
        refine wpT_take (v := ?_) (by rw [hops, List.getElem?_toArray]; rfl) (by first | rfl | (rw [hops]; rfl)) ?_ HS ?_
        rotate_left
        · intro v h; go_simp; with_reducible rfl
        simp only [Act.put, List.getElem_toArray, List.getElem_cons_zero, List.getElem_cons_succ, List.setIfInBounds_toArray, List.set_cons_zero, List.set_cons_succ]
      refine wpT_step (by rw [hops, List.getElem?_toArray]; rfl) (by first | rfl | (rw [hops]; rfl)) ?_
      intro K hK
      go_wp2_with fail
      refine (HC1.out _ _ _ (HAT.out.ext (Ext.refl w7).drew)).mono ?_
      rintro e w8 ⟨rfl, F8, hto⟩
      have hx8 : Ext w4 w8 := HX7.out.drew.kp hto.kp HF.out
      have HTO := hid hto
      have HS8 := And.intro (HH8.out _ hx8) hx8
      clear hto hx8 HS
      refine hK _ _ ⟨fun _ => HS8, ?_⟩
      clear hK K
      refine wpT_step (by rw [hops, List.getElem?_toArray]; rfl) (by first | rfl | (rw [hops]; rfl)) ?_
      intro K hK
      go_wp2_with fail
      refine (HC2.out _ _ _ HTO.out.at').mono ?_
      rintro e w9 ⟨rfl, F9, hto⟩
      have hto9 := HTO.out.trans hto
      have HX9 : Hid (Ext w4 w9) := hid (HX7.out.drew.kp hto9.kp HF.out)
      have HAT9 := hid hto9.at'
      clear hto hto9 HS8 HTO
      refine hK _ _ ⟨fun h => absurd h (by decide), ?_⟩
      clear hK K
      refine wpT_step (by rw [hops, List.getElem?_toArray]; rfl) (by first | rfl | (rw [hops]; rfl)) ?_
      intro K hK
      go_wp2_with fail
      refine ⟨fun h => absurd h (by decide), ?_⟩
      refine wpT_step (by rw [hops, List.getElem?_toArray]; rfl) (by first | rfl | (rw [hops]; rfl)) ?_
      intro K hK
      go_wp2_with fail
      refine ⟨fun h => absurd h (by decide), ?_⟩
      rw [wpT_nil]
      clear hops ops
      obtain ⟨⟨d10, d11⟩, d20, d21⟩ := HH8.out _ HX9.out
      cases s with
      | true =>
        obtain rfl := HS1.out rfl
        have hxx : ((x.toNat : Int) == (x.toNat : Int)) = true := by simp
        go_wp2_with fail
        rw [HEQ.out, Result.andThen_ok, Result.andThen_ok]
        go_wp2_with fail
        go_ret
        exact ⟨rfl, HX4.out.trans (HX46.out.trans HX9.out)⟩
      | false =>
        obtain ⟨q1, q2, hqs, hq1, hq2⟩ := HS2.out rfl
        have HQ := hid hqs
        have HA : Hid (x = y → q1.answer = q2.answer) := hid fun h => by rw [hq1, hq2, h]
        clear hqs hq1 hq2
        go_wp2_with fail
        rw [HEQ.out, Result.andThen_ok, Result.andThen_ok]
        go_wp2_with fail
        refine (HCO.out _ _ _ HAT9.out).mono ?_
        rintro e w10 hco
        obtain ⟨l1, v1, A1, l2, v2, A2, f, rfl, ⟨s1, m1, k1, rfl⟩, ⟨s2, m2, k2, rfl⟩, hx10, hf⟩ := hco.shape
        have HX10 := hid (HX9.out.trans hx10)
        have HFD := hid (fun h => hf q1 q2 HQ.out (HA.out h))
        clear hx10 hf hco d10 d11 d20 d21
        cases hxy : ((x.toNat : Int) != (y.toNat : Int)) with
        | false =>
          have hxe : x = y := u_inj (by simpa using hxy)
          obtain rfl : f = true := HFD.out hxe
          clear hxe
          go_wp2_with fail
          go_ret
          exact ⟨rfl, (((HX4.out.trans (HX46.out.trans HX10.out)).alloc _).alloc _)⟩
        | true =>
          go_wp2_with fail
          go_ret
          exact ⟨rfl, (((HX4.out.trans (HX46.out.trans HX10.out)).alloc _).alloc _)⟩
end Go.Proofs.Ytdkilbnocmnekaa
