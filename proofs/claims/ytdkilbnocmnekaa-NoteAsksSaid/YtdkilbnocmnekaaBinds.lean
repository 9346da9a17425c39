/- NoteBinds returns true for every place and every two notes. -/
import Derived.Test.YtdkilbnocmnekaaBindsLaw
import Derived.Test.YtdkilbnocmnekaaAwk
set_option linter.unusedSimpArgs false
namespace Go.Proofs.Ytdkilbnocmnekaa
open Go.RowKit
attribute [local irreducible] perm fAdd fMul fPow fSub fNeg fRed hashU drawOf nextState

theorem ofM_qs (seed : UInt64) (ideal : Bool) : (ofM seed ideal).qs = [] := by cases ideal <;> rfl
theorem ofM_draws (seed : UInt64) (ideal : Bool) : (ofM seed ideal).draws = 0 := by cases ideal <;> rfl

/-- Two questions to a new oracle: their answers, and what the oracle knows then. -/
theorem two_asked (M : Orc) (hM : M.qs = []) (hD : M.draws = 0) (label : UInt64) (l m : List UInt64) (hl : allE l = true) (hm : allE m = true) :
    ∃ x M1 y M2, M.hash label l = (x, M1) ∧ M1.hash label m = (y, M2) ∧ M1.qs.length ≤ 1000000000 ∧ M1.draws ≤ 1000000000000 ∧ M2.qs.length ≤ 1000000000 ∧ (∀ q ∈ M2.qs, q.elems.length ≤ l.length + m.length) ∧
      (l = m → x = y) ∧ (l ≠ m → ∃ q1 q2, M2.qs = [q1, q2] ∧ q1.answer = x ∧ q2.answer = y) := by
  have h12 := ask_fresh (label := label) hM hl
  rcases hh : M.hash label l with ⟨x, M1⟩
  rw [hh] at h12
  obtain ⟨h1, h2⟩ := h12
  simp only at h1 h2
  by_cases he : l = m
  · subst he
    have h3 := ask_again h1 hl
    refine ⟨x, M1, x, M1, rfl, h3, by rw [h1]; simp, by omega, by rw [h1]; simp, by rw [h1]; intro q hq; simp only [List.mem_singleton] at hq; subst hq; simp, fun _ => rfl, fun h => absurd rfl h⟩
  · have h3 := ask_other h1 hm he
    rcases hk : M1.hash label m with ⟨y, M2⟩
    rw [hk] at h3
    simp only at h3
    refine ⟨x, M1, y, M2, rfl, hk, by rw [h1]; simp, by omega, by rw [h3]; simp, by rw [h3]; intro q hq; simp only [List.mem_cons, List.not_mem_nil, or_false] at hq; rcases hq with rfl | rfl <;> simp, fun h => absurd h he, fun _ => ⟨_, _, h3, rfl, rfl⟩⟩

theorem eq_dec {x y : UInt64} : ((x.toNat : Int) == (y.toNat : Int)) = decide (x = y) := by rw [u_beq]; by_cases h : x = y <;> simp [h]

theorem u_inj {x y : UInt64} (h : (x.toNat : Int) = (y.toNat : Int)) : x = y := UInt64.toNat_inj.1 (by omega)
theorem nt_same {a1 a2 a3 a4 b1 b2 b3 b4 : UInt64} (h1 : (a1.toNat : Int) = (b1.toNat : Int)) (h2 : (a2.toNat : Int) = (b2.toNat : Int)) (h3 : (a3.toNat : Int) = (b3.toNat : Int)) (h4 : (a4.toNat : Int) = (b4.toNat : Int)) :
    (⟨a1, a2, a3, a4⟩ : Nt) = ⟨b1, b2, b3, b4⟩ := by rw [u_inj h1, u_inj h2, u_inj h3, u_inj h4]
theorem three_boxes (w : World) (c0 c1 c2 : Array Value) (T0 T1 T2 : TypeId) :
    Ext w (((w.alloc (.cells c0 T0)).alloc (.cells c1 T1)).alloc (.cells c2 T2)) ∧
    (((w.alloc (.cells c0 T0)).alloc (.cells c1 T1)).alloc (.cells c2 T2)).heap[w.heap.size]? = some (.cells c0 T0 (0, 0)) ∧
    (((w.alloc (.cells c0 T0)).alloc (.cells c1 T1)).alloc (.cells c2 T2)).heap[w.heap.size + 1]? = some (.cells c1 T1 (0, 0)) ∧
    (((w.alloc (.cells c0 T0)).alloc (.cells c1 T1)).alloc (.cells c2 T2)).heap[w.heap.size + 1 + 1]? = some (.cells c2 T2 (0, 0)) := by
  have h1 := heap_new (w.alloc (.cells c0 T0)) (.cells c1 T1)
  have h2 := heap_new ((w.alloc (.cells c0 T0)).alloc (.cells c1 T1)) (.cells c2 T2)
  rw [World.size_alloc] at h1 h2
  rw [World.size_alloc] at h2
  exact ⟨(((Ext.refl w).alloc _).alloc _).alloc _, heap_alloc_some (heap_alloc_some (heap_new _ _)), heap_alloc_some h1, h2⟩
theorem cells4 {w : World} {b : Nat} {c0 c1 c2 c3 : Value} {T : TypeId} {fz : Nat × Nat} (h : w.heap[b]? = some (.cells #[c0, c1, c2, c3] T fz)) :
    w.cell? ⟨b, 0, none⟩ = some c0 ∧ w.cell? ⟨b, 1, none⟩ = some c1 ∧ w.cell? ⟨b, 2, none⟩ = some c2 ∧ w.cell? ⟨b, 3, none⟩ = some c3 :=
  ⟨cell_of h 0, cell_of h 1, cell_of h 2, cell_of h 3⟩
theorem cells2 {w : World} {b : Nat} {c0 c1 : Value} {T : TypeId} {fz : Nat × Nat} (h : w.heap[b]? = some (.cells #[c0, c1] T fz)) :
    w.cell? ⟨b, 0, none⟩ = some c0 ∧ w.cell? ⟨b, 1, none⟩ = some c1 :=
  ⟨cell_of h 0, cell_of h 1⟩

set_option maxRecDepth 100000 in
set_option maxHeartbeats 3200000 in
theorem NoteBinds_any (seed : UInt64) (ideal : Bool) (a b : Nt) (w : World) : Calls Try.prog 6 #[.agg #[uv seed, .bool ideal], nv a, nv b] w fun e w' => e = .returned (.bool true) ∧ Ext w w' := by
  have HVa := hid (refValid_any a)
  have HVb := hid (refValid_any b)
  have HOF := hid (of_any seed ideal)
  cases hoka : a.ok with
  | false =>
    rw [hoka] at HVa
    clear hoka HVb HOF
    obtain ⟨a1, a2, a3, a4⟩ := a
    obtain ⟨b1, b2, b3, b4⟩ := b
    unfold nv at HVa ⊢
    simp only at HVa ⊢
    go_enter Try.func6, Try.ntmps6
    go_wp2_with fail
    obtain ⟨hx3, hb0, hb1, hb2⟩ := three_boxes w #[uv seed, .bool ideal] #[uv a1, uv a2, uv a3, uv a4] #[uv b1, uv b2, uv b3, uv b4] 54 45 45
    generalize (((w.alloc (.cells #[uv seed, .bool ideal] 54)).alloc (.cells #[uv a1, uv a2, uv a3, uv a4] 45)).alloc (.cells #[uv b1, uv b2, uv b3, uv b4] 45)) = w3 at *
    refine (awake34_any _).mono ?_
    rintro e w4 ⟨rfl, hx4⟩
    obtain ⟨d10, d11, d12, d13⟩ := cells4 (hx4.heap_some hb1)
    have HX4 := hid (hx3.trans hx4)
    clear hx3 hx4 hb0 hb1 hb2
    go_wp2_with fail
    refine (HVa.out _).mono ?_
    rintro e w5 ⟨rfl, hx5⟩
    have HX5 := hid (HX4.out.trans hx5)
    clear hx5 d10 d11 d12 d13
    go_wp2_with fail
    go_ret
    exact ⟨rfl, HX5.out⟩
  | true =>
    rw [hoka] at HVa
    cases hokb : b.ok with
    | false =>
      rw [hokb] at HVb
      clear hoka hokb HOF
      obtain ⟨a1, a2, a3, a4⟩ := a
      obtain ⟨b1, b2, b3, b4⟩ := b
      unfold nv at HVa HVb ⊢
      simp only at HVa HVb ⊢
      go_enter Try.func6, Try.ntmps6
      go_wp2_with fail
      obtain ⟨hx3, hb0, hb1, hb2⟩ := three_boxes w #[uv seed, .bool ideal] #[uv a1, uv a2, uv a3, uv a4] #[uv b1, uv b2, uv b3, uv b4] 54 45 45
      generalize (((w.alloc (.cells #[uv seed, .bool ideal] 54)).alloc (.cells #[uv a1, uv a2, uv a3, uv a4] 45)).alloc (.cells #[uv b1, uv b2, uv b3, uv b4] 45)) = w3 at *
      refine (awake34_any _).mono ?_
      rintro e w4 ⟨rfl, hx4⟩
      obtain ⟨d10, d11, d12, d13⟩ := cells4 (hx4.heap_some hb1)
      have HB2 := hid (hx4.heap_some hb2)
      have HX4 := hid (hx3.trans hx4)
      clear hx3 hx4 hb0 hb1 hb2
      go_wp2_with fail
      refine (HVa.out _).mono ?_
      rintro e w5 ⟨rfl, hx5⟩
      obtain ⟨d20, d21, d22, d23⟩ := cells4 (hx5.heap_some HB2.out)
      have HX5 := hid (HX4.out.trans hx5)
      clear hx5 d10 d11 d12 d13
      go_wp2_with fail
      refine (HVb.out _).mono ?_
      rintro e w6 ⟨rfl, hx6⟩
      have HX6 := hid (HX5.out.trans hx6)
      clear hx6 d20 d21 d22 d23
      go_wp2_with fail
      go_ret
      exact ⟨rfl, HX6.out⟩
    | true =>
      rw [hokb] at HVb
      obtain ⟨M0, hM0⟩ : ∃ M0, M0 = ofM seed ideal := ⟨_, rfl⟩
      obtain ⟨x, M1, y, M2, hc1, hc2, hq1, hd1, hq2, he2, hsame, hother⟩ := two_asked M0 (by rw [hM0, ofM_qs]) (by rw [hM0, ofM_draws]) 2 a.list b.list (ok_allE hoka) (ok_allE hokb)
      rw [← commit_ok hoka] at hc1
      rw [← commit_ok hokb] at hc2
      have HC1 : Hid (∀ w b F, OrcAt w b M0 F → Calls Try.prog 25 #[.pointer (some ⟨b, 0, none⟩), nv a] w fun e w' => e = .returned (uv x) ∧ ∃ F', OrcTo w b F M1 w' F') := hid fun w b F h => by
        have := Commit_any (n := a) h (by rw [hM0, ofM_qs]; decide) (by rw [hM0, ofM_draws]; decide)
        unfold CommitO at this
        rw [hc1] at this
        exact this
      have HC2 : Hid (∀ w b' F, OrcAt w b' M1 F → Calls Try.prog 25 #[.pointer (some ⟨b', 0, none⟩), nv b] w fun e w' => e = .returned (uv y) ∧ ∃ F', OrcTo w b' F M2 w' F') := hid fun w b' F h => by
        have := Commit_any (n := b) h hq1 hd1
        unfold CommitO at this
        rw [hc2] at this
        exact this
      have hs1 : a.same b = true → x = y := fun h => hsame (by rw [Nt.same_iff.1 h])
      have hs2 : a.same b = false → ∃ q1 q2, M2.qs = [q1, q2] ∧ q1.answer = x ∧ q2.answer = y := fun h => hother fun h' => by rw [Nt.same_iff.2 (list_inj h')] at h; cases h
      have HCO : Hid (∀ w b' F, OrcAt w b' M2 F → Calls Try.prog 19 #[.pointer (some ⟨b', 0, none⟩)] w (CollO w M2.qs)) := hid fun w b' F h => Collision_any h hq2 fun q hq => Nat.le_trans (he2 q hq) (by simp [Nt.list])
      rw [← hM0] at HOF
      clear hc1 hc2 hq1 hd1 hq2 he2 hsame hother hM0 hoka hokb
      have HNE : Hid (a.same b = false → a ≠ b) := hid fun h h' => by rw [Nt.same_iff.2 h'] at h; cases h
      have HT : Hid (a.same b = true → a = b) := hid Nt.same_iff.1
      generalize a.same b = s at *
      obtain ⟨a1, a2, a3, a4⟩ := a
      obtain ⟨b1, b2, b3, b4⟩ := b
      unfold nv at HVa HVb HC1 HC2 ⊢
      simp only at HVa HVb HC1 HC2 ⊢
      have HS1 := hid hs1
      have HS2 := hid hs2
      clear hs1 hs2
      go_enter Try.func6, Try.ntmps6
      go_wp2_with fail
      obtain ⟨hx3, hb0, hb1, hb2⟩ := three_boxes w #[uv seed, .bool ideal] #[uv a1, uv a2, uv a3, uv a4] #[uv b1, uv b2, uv b3, uv b4] 54 45 45
      generalize (((w.alloc (.cells #[uv seed, .bool ideal] 54)).alloc (.cells #[uv a1, uv a2, uv a3, uv a4] 45)).alloc (.cells #[uv b1, uv b2, uv b3, uv b4] 45)) = w3 at *
      refine (awake34_any _).mono ?_
      rintro e w4 ⟨rfl, hx4⟩
      obtain ⟨d10, d11, d12, d13⟩ := cells4 (hx4.heap_some hb1)
      have HB0 := hid (hx4.heap_some hb0)
      have HB1 := hid (hx4.heap_some hb1)
      have HB2 := hid (hx4.heap_some hb2)
      have HX4 := hid (hx3.trans hx4)
      clear hx3 hx4 hb0 hb1 hb2
      go_wp2_with fail
      refine (HVa.out _).mono ?_
      rintro e w5 ⟨rfl, hx5⟩
      obtain ⟨d20, d21, d22, d23⟩ := cells4 (hx5.heap_some HB2.out)
      have HX5 := hid hx5
      clear hx5 d10 d11 d12 d13
      go_wp2_with fail
      refine (HVb.out _).mono ?_
      rintro e w6 ⟨rfl, hx6⟩
      have hx46 := HX5.out.trans hx6
      obtain ⟨d00, d01⟩ := cells2 (hx46.heap_some HB0.out)
      have HX46 := hid hx46
      clear hx6 hx46 d20 d21 d22 d23 HX5
      go_wp2_with fail
      refine (HOF.out _).mono ?_
      rintro e w7 ⟨o, F, rfl, hat, hx7, hF⟩
      have HAT := hid hat
      have HX7 := hid hx7
      have HF := hid hF
      clear hat hx7 hF d00 d01
      have hH8 : ∀ v, Ext w6 v → (v.cell? ⟨w.heap.size + 1, 0, none⟩ = some (uv a1) ∧ v.cell? ⟨w.heap.size + 1, 1, none⟩ = some (uv a2) ∧ v.cell? ⟨w.heap.size + 1, 2, none⟩ = some (uv a3) ∧ v.cell? ⟨w.heap.size + 1, 3, none⟩ = some (uv a4)) ∧
          (v.cell? ⟨w.heap.size + 1 + 1, 0, none⟩ = some (uv b1) ∧ v.cell? ⟨w.heap.size + 1 + 1, 1, none⟩ = some (uv b2) ∧ v.cell? ⟨w.heap.size + 1 + 1, 2, none⟩ = some (uv b3) ∧ v.cell? ⟨w.heap.size + 1 + 1, 3, none⟩ = some (uv b4)) :=
        fun v k => ⟨cells4 ((HX46.out.trans k).heap_some HB1.out), cells4 ((HX46.out.trans k).heap_some HB2.out)⟩
      have HH8 := hid hH8
      clear hH8
      go_wp2_with fail
      refine wp_region_T (fun v => ((v.cell? ⟨w.heap.size + 1, 0, none⟩ = some (uv a1) ∧ v.cell? ⟨w.heap.size + 1, 1, none⟩ = some (uv a2) ∧ v.cell? ⟨w.heap.size + 1, 2, none⟩ = some (uv a3) ∧ v.cell? ⟨w.heap.size + 1, 3, none⟩ = some (uv a4)) ∧ (v.cell? ⟨w.heap.size + 1 + 1, 0, none⟩ = some (uv b1) ∧ v.cell? ⟨w.heap.size + 1 + 1, 1, none⟩ = some (uv b2) ∧ v.cell? ⟨w.heap.size + 1 + 1, 2, none⟩ = some (uv b3) ∧ v.cell? ⟨w.heap.size + 1 + 1, 3, none⟩ = some (uv b4))) ∧ Ext w6 v) 5 [(0, true), (1, true), (3, true), (4, true), (2, false), (5, false), (6, false), (7, false)] (by kernel_rfl) (by kernel_rfl) (by intro c a d v w h; cases d <;> exact h) ?_
      intro ops hops
      have HS : (_ ∧ _) ∧ Ext w6 w7.drew := ⟨HH8.out _ HX7.out.drew, HX7.out.drew⟩
      iterate 4
        refine wpT_take (v := ?_) (by rw [hops, List.getElem?_toArray]; rfl) (by first | rfl | (rw [hops]; rfl)) ?_ HS ?_
        rotate_left
        · intro v h; go_simp; with_reducible rfl
        simp only [Act.put, List.getElem_toArray, List.getElem_cons_zero, List.getElem_cons_succ, List.setIfInBounds_toArray, List.set_cons_zero, List.set_cons_succ]
      refine wpT_step (by rw [hops, List.getElem?_toArray]; rfl) (by first | rfl | (rw [hops]; rfl)) ?_
      intro K hK
      go_wp2_with fail
      refine (HC1.out _ _ _ (HAT.out.ext (Ext.refl w7).drew)).mono ?_
      rintro e w8 ⟨rfl, F8, hto⟩
      have hx8 : Ext w6 w8 := HX7.out.drew.kp hto.kp HF.out
      have HTO := hid hto
      have HS8 := And.intro (HH8.out _ hx8) hx8
      clear hto hx8 HS
      refine hK _ _ ⟨fun _ => HS8, ?_⟩
      clear hK K
      refine wpT_step (by rw [hops, List.getElem?_toArray]; rfl) (by first | rfl | (rw [hops]; rfl)) ?_
      intro K hK
      go_wp2_with fail
      refine (HC2.out _ _ _ HTO.out.at').mono ?_
      rintro e w9 ⟨rfl, F9, hto⟩
      have hto9 := HTO.out.trans hto
      have HX9 : Hid (Ext w6 w9) := hid (HX7.out.drew.kp hto9.kp HF.out)
      have HAT9 := hid hto9.at'
      clear hto hto9 HS8 HTO
      refine hK _ _ ⟨fun h => absurd h (by decide), ?_⟩
      clear hK K
      refine wpT_step (by rw [hops, List.getElem?_toArray]; rfl) (by first | rfl | (rw [hops]; rfl)) ?_
      intro K hK
      go_wp2_with fail
      refine ⟨fun h => absurd h (by decide), ?_⟩
      refine wpT_step (by rw [hops, List.getElem?_toArray]; rfl) (by first | rfl | (rw [hops]; rfl)) ?_
      intro K hK
      go_wp2_with fail
      refine ⟨fun h => absurd h (by decide), ?_⟩
      rw [wpT_nil]
      clear hops ops
      obtain ⟨⟨d10, d11, d12, d13⟩, d20, d21, d22, d23⟩ := HH8.out _ HX9.out
      cases s with
      | true =>
        have ht := HT.out rfl
        injection ht with t1 t2 t3 t4
        subst t1 t2 t3 t4
        obtain rfl := HS1.out rfl
        have hxx : ((x.toNat : Int) == (x.toNat : Int)) = true := by simp
        go_wp2_with fail
        go_ret
        exact ⟨rfl, HX4.out.trans (HX46.out.trans HX9.out)⟩
      | false =>
        obtain ⟨q1, q2, hqs, hq1, hq2⟩ := HS2.out rfl
        have HQ := hid hqs
        have HA : Hid (x = y → q1.answer = q2.answer) := hid fun h => by rw [hq1, hq2, h]
        clear hqs hq1 hq2
        go_wp2_with fail
        all_goals first
          | exact (HNE.out (by trivial) (nt_same (by assumption) (by assumption) (by assumption) (by assumption))).elim
          | skip
        all_goals refine (HCO.out _ _ _ HAT9.out).mono ?_
        all_goals rintro e w10 hco
        all_goals obtain ⟨l1, v1, A1, l2, v2, A2, f, rfl, ⟨s1, m1, k1, rfl⟩, ⟨s2, m2, k2, rfl⟩, hx10, hf⟩ := hco.shape
        all_goals have HX10 := hid (HX9.out.trans hx10)
        all_goals have HFD := hid (fun h => hf q1 q2 HQ.out (HA.out h))
        all_goals clear hx10 hf hco d10 d11 d12 d13 d20 d21 d22 d23
        all_goals cases hxy : ((x.toNat : Int) != (y.toNat : Int))
        all_goals first
          | (have hxe : x = y := u_inj (by simpa using hxy)
             obtain rfl : f = true := HFD.out hxe
             clear hxe)
          | skip
        all_goals go_wp2_with fail
        all_goals go_ret
        all_goals refine ⟨rfl, ?_⟩
        all_goals exact (((HX4.out.trans (HX46.out.trans HX10.out)).alloc _).alloc _)
end Go.Proofs.Ytdkilbnocmnekaa
