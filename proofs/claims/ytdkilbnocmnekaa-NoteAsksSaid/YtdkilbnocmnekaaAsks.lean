/- NoteAsks returns true for every place, list of notes and key. -/
import Derived.Test.YtdkilbnocmnekaaAsksLaw
import Derived.Test.YtdkilbnocmnekaaTwo
import Derived.Test.YtdkilbnocmnekaaRefQ
import Derived.Test.YtdkilbnocmnekaaBinds
set_option linter.unusedSimpArgs false
namespace Go.Proofs.Ytdkilbnocmnekaa
open Go.RowKit
attribute [local irreducible] perm fAdd fMul fPow fSub fNeg fRed hashU drawOf nextState

theorem Small.known {M : Orc} {k : Nat} (h : Small M k) (hk : k ≤ 100) : M.qs.length ≤ 1000000000 ∧ M.draws ≤ 1000000000000 := ⟨by have := h.qs; omega, by have := h.draws; omega⟩
theorem Small.ofM (seed : UInt64) (ideal : Bool) : Small (ofM seed ideal) 0 := by
  refine ⟨by rw [ofM_qs]; simp, by rw [ofM_draws]; simp, by rw [ofM_qs]; simp⟩
theorem OrcAt.draws {w : World} {b : Nat} {M : Orc} {F : Nat → Prop} (h : OrcAt w b M F) : Calls Try.prog 33 #[.pointer (some ⟨b, 0, none⟩)] w (fun e w' => e = .returned (.int .i64 (M.draws : Int)) ∧ w' = w) := by
  obtain ⟨qv, mk, ms, mp, Q, S, hin⟩ := h
  exact Draws_any hin.self

set_option maxRecDepth 100000 in
set_option maxHeartbeats 6400000 in
theorem NoteAsks_any (seed : UInt64) (ideal : Bool) (l : List Nt) (lv : Value) (key : UInt64) (w : World) (hl : RdN w lv l) :
    Calls Try.prog 8 #[.agg #[uv seed, .bool ideal], lv, uv key] w fun e w' => e = .returned (.bool true) ∧ Ext w w' := by
  obtain ⟨la, lc, rfl, -⟩ := id hl
  have HL := hid hl
  have HOF := hid (of_any seed ideal)
  have HM0 := hid (Small.ofM seed ideal)
  obtain ⟨M0, hM0⟩ : ∃ M0, M0 = ofM seed ideal := ⟨_, rfl⟩
  rw [← hM0] at HOF HM0
  obtain ⟨nl, hnl⟩ : ∃ nl, nl = l.length := ⟨_, rfl⟩
  have HNL := hid hnl
  rw [← hnl] at HL ⊢
  clear hl hnl hM0
  by_cases h12 : nl ≤ 12
  · have h12B : decide ((12 : Int) < (nl : Int)) = false := by simp; omega
    go_enter Try.func8, Try.ntmps8
    go_wp2_with fail
    have hxw := (Ext.refl w).alloc (.cells #[uv seed, .bool ideal] 54)
    have hbw := heap_new w (.cells #[uv seed, .bool ideal] 54)
    generalize w.alloc (.cells #[uv seed, .bool ideal] 54) = w0 at *
    refine (awake34_any _).mono ?_
    rintro e w1 ⟨rfl, hx1⟩
    have HX1 := hid (hxw.trans hx1)
    have HB1 := hid (hx1.heap_some hbw)
    clear hx1 hxw hbw
    go_wp2_with fail
    have H2 : Hid (∀ v, Ext w1 v → v.cell? ⟨w.heap.size, 0, none⟩ = some (uv seed) ∧ v.cell? ⟨w.heap.size, 1, none⟩ = some (.bool ideal)) := hid fun v k => cells2 (k.heap_some HB1.out)
    refine wp_region_T (fun v => (v.cell? ⟨w.heap.size, 0, none⟩ = some (uv seed) ∧ v.cell? ⟨w.heap.size, 1, none⟩ = some (.bool ideal)) ∧ Ext w1 v) 9 [(0, true), (1, true), (2, true), (3, true), (5, true), (6, true), (7, true), (8, true), (4, false), (9, false), (10, false), (11, false)] (by kernel_rfl) (by kernel_rfl) (by intro c a d v w h; cases d <;> exact h) ?_
    intro ops hops
    have HS : _ ∧ Ext w1 w1.drew := ⟨H2.out _ (Ext.refl w1).drew, (Ext.refl w1).drew⟩
    iterate 8
      refine wpT_take (v := ?_) (by rw [hops, List.getElem?_toArray]; rfl) (by first | rfl | (rw [hops]; rfl)) ?_ HS ?_
      rotate_left
      · intro v h; go_simp; with_reducible rfl
      simp only [Act.put, List.getElem_toArray, List.getElem_cons_zero, List.getElem_cons_succ, List.setIfInBounds_toArray, List.set_cons_zero, List.set_cons_succ]
    refine wpT_step (by rw [hops, List.getElem?_toArray]; rfl) (by first | rfl | (rw [hops]; rfl)) ?_
    intro K hK
    go_wp2_with fail
    refine (HOF.out _).mono ?_
    rintro e w2 ⟨bo, Fo, rfl, hato, hx2, hFo⟩
    have HATO := hid hato
    have HX2 := hid ((Ext.refl w1).drew.trans hx2)
    have HFO := hid hFo
    have HS2 : _ ∧ Ext w1 w2 := ⟨H2.out _ HX2.out, HX2.out⟩
    clear hato hx2 hFo HS
    refine hK _ _ ⟨fun _ => HS2, ?_⟩
    clear hK K
    refine wpT_step (by rw [hops, List.getElem?_toArray]; rfl) (by first | rfl | (rw [hops]; rfl)) ?_
    intro K hK
    go_wp2_with fail
    refine (HOF.out _).mono ?_
    rintro e w3 ⟨bq, Fq, rfl, hatq, hx3, hFq⟩
    have T0 : Hid (Two w w3 bo bq M0 M0 Fo Fq) := hid ⟨HATO.out.ext hx3, hatq, fun k h1 h2 => by have := HATO.out.foot_lt k h1; have := hFq k h2; omega,
      fun k hk => by
        have h1 := HX1.out.size
        have h2 := HX2.out.size
        have h3 : w1.drew.heap.size = w1.heap.size := rfl
        rcases hk with hk | hk
        · have := HFO.out k hk; omega
        · have := hFq k hk; omega, HX1.out.trans (HX2.out.trans hx3)⟩
    clear hatq hx3 hFq HS2
    refine hK _ _ ⟨fun h => absurd h (by decide), ?_⟩
    clear hK K
    refine wpT_step (by rw [hops, List.getElem?_toArray]; rfl) (by first | rfl | (rw [hops]; rfl)) ?_
    intro K hK
    go_wp2_with fail
    refine ⟨fun h => absurd h (by decide), ?_⟩
    refine wpT_step (by rw [hops, List.getElem?_toArray]; rfl) (by first | rfl | (rw [hops]; rfl)) ?_
    intro K hK
    go_wp2_with fail
    refine ⟨fun h => absurd h (by decide), ?_⟩
    rw [wpT_nil]
    clear hops ops
    go_wp2_with fail
    go_loopw [41] (fun iv wr => ∃ i : Nat, i ≤ nl ∧ iv = .int .i64 i ∧ Hid (∃ M Fo Fq, Two w wr bo bq M M Fo Fq ∧ Small M (2 * i))) (fun iv _ => (nl - (intOf iv).toNat))
    case atStart => exact ⟨0, by omega, rfl, hid ⟨M0, Fo, Fq, T0.out, HM0.out⟩⟩
    case round =>
      obtain ⟨i, hi, rfl, HJ⟩ := hrel
      clear T0
      obtain ⟨M, Fo, Fq, hT, hS⟩ := HJ.out
      by_cases hlt : i < nl
      · have hltB : decide ((i : Int) < (nl : Int)) = true := by simp; omega
        obtain ⟨n, hn⟩ : ∃ n, l[i]? = some n := ⟨_, List.getElem?_eq_getElem (by have := HNL.out; omega)⟩
        obtain ⟨bl, ol, rfl, e0, e1, e2, e3⟩ := (HL.out.ext hT.ex).at hn
        have hil : (i : Int) < (nl : Int) := by omega
        have hi0 : (0 : Int) ≤ (i : Int) := Int.natCast_nonneg _
        obtain ⟨a, M1, b, M2, s1, s2, s3, s4, s5, s6, s7, s8, s9, s10⟩ := asks_step M n key (2 * i) hS
        obtain ⟨k0, -⟩ := hS.known (by omega)
        obtain ⟨-, k0d⟩ := hS.known (by omega)
        obtain ⟨k1, k1d⟩ := s9.known (by omega)
        obtain ⟨k2, -⟩ := s10.known (by omega)
        have HT := hid hT
        have CV : Hid (∀ v, Calls Try.prog 23 #[.agg #[uv n.value, uv n.owner, uv n.rho, uv n.blind]] v fun e v' => e = .returned (.bool n.ok) ∧ Ext v v') := hid (refValid_any n)
        have CN : Hid (∀ v, Calls Try.prog 30 #[.agg #[uv n.value, uv n.owner, uv n.rho, uv n.blind]] v (NewL v n.list)) := hid (refNote_any n)
        have CP : Hid (∀ v F nv, OrcAt v bq M F → RdU v nv n.list → Calls Try.prog 29 #[.pointer (some ⟨bq, 0, none⟩), .int .u64 2, nv] v fun e v' => e = .returned (.tuple #[uv (M.peek 2 n.list).1, .bool (M.peek 2 n.list).2]) ∧ Ext v v') := hid fun v F nv h hr => Peek_any (label := 2) h hr (by simp [Nt.list]) k0
        have CC : Hid (∀ v F, OrcAt v bo M F → Calls Try.prog 31 #[.pointer (some ⟨bo, 0, none⟩), .agg #[uv n.value, uv n.owner, uv n.rho, uv n.blind]] v fun e v' => e = .returned (.tuple #[uv (M.commitment n).1, .bool (M.commitment n).2]) ∧ Ext v v') := hid fun v F h => Commitment_any (n := n) h k0
        have CH2 : Hid (n.ok = true → ∀ v F nv, OrcAt v bq M F → RdU v nv n.list → (∀ k, blk nv = some k → ¬ F k) → Calls Try.prog 14 #[.pointer (some ⟨bq, 0, none⟩), .int .u64 2, nv] v fun e v' => e = .returned (uv a) ∧ ∃ F', OrcTo v bq F M1 v' F') := hid fun hok v F nv h hr hf => by
          have := Hash_orc (label := 2) h hr hf (by simp [Nt.list]) k0 k0d
          unfold HashO at this
          rw [s5 hok] at this
          exact this
        have CH3 : Hid (allE [key, n.rho] = true → ∀ v F nv, OrcAt v bq M1 F → RdU v nv [key, n.rho] → (∀ k, blk nv = some k → ¬ F k) → Calls Try.prog 14 #[.pointer (some ⟨bq, 0, none⟩), .int .u64 3, nv] v fun e v' => e = .returned (uv b) ∧ ∃ F', OrcTo v bq F M2 v' F') := hid fun hel v F nv h hr hf => by
          have := Hash_orc (label := 3) h hr hf (by simp) k1 k1d
          unfold HashO at this
          rw [s7 hel] at this
          exact this
        have CM1 : Hid (∀ v F, OrcAt v bo M F → Calls Try.prog 25 #[.pointer (some ⟨bo, 0, none⟩), .agg #[uv n.value, uv n.owner, uv n.rho, uv n.blind]] v fun e v' => e = .returned (uv a) ∧ ∃ F', OrcTo v bo F M1 v' F') := hid fun v F h => by
          have := Commit_any (n := n) h k0 k0d
          unfold CommitO at this
          rw [s1] at this
          exact this
        have CM2 : Hid (∀ v F, OrcAt v bo M1 F → Calls Try.prog 26 #[.pointer (some ⟨bo, 0, none⟩), uv key, uv n.rho] v fun e v' => e = .returned (uv b) ∧ ∃ F', OrcTo v bo F M2 v' F') := hid fun v F h => by
          have := Mark_any (k := key) (r := n.rho) h k1 k1d
          unfold MarkO at this
          rw [s2] at this
          exact this
        have CC2 : Hid (∀ v F, OrcAt v bo M2 F → Calls Try.prog 31 #[.pointer (some ⟨bo, 0, none⟩), .agg #[uv n.value, uv n.owner, uv n.rho, uv n.blind]] v fun e v' => e = .returned (.tuple #[uv a, .bool n.ok]) ∧ Ext v v') := hid fun v F h => by
          have := Commitment_any (n := n) h k2
          unfold TwoO at this
          rw [s3] at this
          exact this
        have CK2 : Hid (∀ v F, OrcAt v bo M2 F → Calls Try.prog 32 #[.pointer (some ⟨bo, 0, none⟩), uv key, uv n.rho] v fun e v' => e = .returned (.tuple #[uv b, .bool (allE [key, n.rho])]) ∧ Ext v v') := hid fun v F h => by
          have := Marked_any (k := key) (r := n.rho) h k2
          unfold TwoO at this
          rw [s4] at this
          exact this
        have CE : Hid (∀ v nv, RdU v nv [key, n.rho] → Calls Try.prog 28 #[nv] v fun e v' => e = .returned (.bool (allE [key, n.rho])) ∧ v = v') := hid fun v nv h => Elements_any nv [key, n.rho] v h (by simp)
        have S6 := hid s6
        have S8 := hid s8
        have S10 := hid s10
        have hno := peek_no (M := M) (label := 2) (l := n.list)
        have HCM : Hid (∀ ok, n.ok = ok → M.commitment n = if ok then M.peek 2 n.list else (0, false)) := hid (by rintro ok rfl; rfl)
        generalize M.commitment n = cm at *
        generalize M.peek 2 n.list = pk at *
        obtain ⟨p1, p2⟩ := pk
        simp only at hno CP
        have HNO := hid hno
        clear hn s1 s2 s3 s4 s5 s6 s7 s8 s9 s10 k0 k0d k1 k1d k2 hT hS hno
        have hpp : ((p1.toNat : Int) != (p1.toNat : Int)) = false := by simp
        have haa : ((a.toNat : Int) != (a.toNat : Int)) = false := by simp
        have hbb : ((b.toNat : Int) != (b.toNat : Int)) = false := by simp
        go_wp2_with fail
        have T1 := hid (TwoB.start HT.out #[uv n.value, uv n.owner, uv n.rho, uv n.blind] 45)
        refine (CN.out _).mono ?_
        rintro e v2 ⟨nv, rfl, hrd, hx, -⟩
        have T2 := hid (T1.out.ext hx)
        have HRD := hid hrd
        obtain ⟨na, nc, rfl, -⟩ := id hrd
        clear hrd hx
        go_wp2_with fail
        refine (CP.out _ _ _ T2.out.two.q HRD.out).mono ?_
        rintro e v3 ⟨rfl, hx⟩
        have T3 := hid (T2.out.ext hx)
        clear hx HRD
        obtain ⟨d0, d1, d2, d3⟩ := cells4 T3.out.box
        go_wp2_with fail
        clear d0 d1 d2 d3
        refine (CC.out _ _ T3.out.two.o).mono ?_
        rintro e v4 ⟨rfl, hx⟩
        have T4 := hid (T3.out.ext hx)
        clear hx CP CC
        obtain ⟨c1, c2⟩ := cm
        rcases hok : n.ok with _ | _
        · rw [hok] at CV CC2 S6 CH2 HCM
          have hcm := HCM.out _ rfl
          simp only [Bool.false_eq_true, if_false, Prod.mk.injEq] at hcm
          obtain ⟨e1, e2⟩ := hcm
          subst c2
          have hcz : ((c1.toNat : Int) != 0) = false := by rw [e1]; decide
          clear e1
          obtain ⟨ha0, hM1⟩ := S6.out rfl
          subst hM1
          have haz : ((a.toNat : Int) != 0) = false := by rw [ha0]; decide
          clear S6 HCM hok ha0
          rcases hel : allE [key, n.rho] with _ | _
          · rw [hel] at CK2 CE S8 CH3
            obtain ⟨hb0, hM2⟩ := S8.out rfl
            subst hM2
            have hbz : ((b.toNat : Int) != 0) = false := by rw [hb0]; decide
            clear S8 hel hb0
            rcases p2 with _ | _
            · have hp0 := HNO.out rfl
              have hpz : ((p1.toNat : Int) != 0) = false := by rw [hp0]; decide
              clear hp0
              obtain ⟨d0, d1, d2, d3⟩ := cells4 T4.out.box
              go_wp2_with fail
              clear d0 d1 d2 d3
              refine (CV.out _).mono ?_
              rintro e v5 ⟨rfl, hx⟩
              have T5 := hid (T4.out.ext hx)
              clear hx
              obtain ⟨d0, d1, d2, d3⟩ := cells4 T5.out.box
              go_wp2_with fail
              clear d0 d1 d2 d3
              have T6 := hid (T5.out.ext ((Ext.refl v5).alloc (.cells #[uv key, uv n.rho] 22)))
              have hrd := pair_rdu (heap_new v5 (.cells #[uv key, uv n.rho] 22))
              have hap := new_apart (v := .slice (some ⟨v5.heap.size, 0, none⟩) 2 2) T5.out.two.q (by intro j hj; cases hj; exact Nat.le_refl _)
              generalize v5.alloc (.cells #[uv key, uv n.rho] 22) = v6 at *
              refine (CE.out _ _ hrd).mono ?_
              rintro e u ⟨rfl, rfl⟩
              clear hrd hap
              obtain ⟨d0, d1, d2, d3⟩ := cells4 T6.out.box
              go_wp2_with fail
              clear d0 d1 d2 d3
              refine (CM1.out _ _ T6.out.two.o).mono ?_
              rintro e v7 ⟨rfl, F7, t⟩
              have T7 := hid (T6.out.left t)
              clear t
              obtain ⟨d0, d1, d2, d3⟩ := cells4 T7.out.box
              go_wp2_with fail
              clear d0 d1 d2 d3
              refine (CM2.out _ _ T7.out.two.o).mono ?_
              rintro e v8 ⟨rfl, F8, t⟩
              have T8 := hid (T7.out.left t)
              clear t
              obtain ⟨d0, d1, d2, d3⟩ := cells4 T8.out.box
              go_wp2_with fail
              clear d0 d1 d2 d3
              refine (CC2.out _ _ T8.out.two.o).mono ?_
              rintro e v9 ⟨rfl, hx⟩
              have T9 := hid (T8.out.ext hx)
              clear hx
              obtain ⟨d0, d1, d2, d3⟩ := cells4 T9.out.box
              go_wp2_with fail
              clear d0 d1 d2 d3
              refine (CK2.out _ _ T9.out.two.o).mono ?_
              rintro e v10 ⟨rfl, hx⟩
              have T10 := hid (T9.out.ext hx)
              clear hx
              obtain ⟨d0, d1, d2, d3⟩ := cells4 T10.out.box
              go_wp2_with fail
              clear d0 d1 d2 d3
              refine (CV.out _).mono ?_
              rintro e v11 ⟨rfl, hx⟩
              have T11 := hid (T10.out.ext hx)
              clear hx
              obtain ⟨d0, d1, d2, d3⟩ := cells4 T11.out.box
              go_wp2_with fail
              clear d0 d1 d2 d3
              have T12 := hid (T11.out.ext ((Ext.refl v11).alloc (.cells #[uv key, uv n.rho] 22)))
              have hrd := pair_rdu (heap_new v11 (.cells #[uv key, uv n.rho] 22))
              have hap := new_apart (v := .slice (some ⟨v11.heap.size, 0, none⟩) 2 2) T11.out.two.q (by intro j hj; cases hj; exact Nat.le_refl _)
              generalize v11.alloc (.cells #[uv key, uv n.rho] 22) = v12 at *
              refine (CE.out _ _ hrd).mono ?_
              rintro e u ⟨rfl, rfl⟩
              clear hrd hap
              obtain ⟨d0, d1, d2, d3⟩ := cells4 T12.out.box
              go_wp2_with fail
              clear d0 d1 d2 d3
              go_roundw
              case rel => exact ⟨i + 1, by omega, by go_num, hid ⟨_, _, _, T12.out.two, S10.out⟩⟩
              case measure => simp [intOf]; omega
            · obtain ⟨d0, d1, d2, d3⟩ := cells4 T4.out.box
              go_wp2_with fail
              clear d0 d1 d2 d3
              refine (CV.out _).mono ?_
              rintro e v5 ⟨rfl, hx⟩
              have T5 := hid (T4.out.ext hx)
              clear hx
              obtain ⟨d0, d1, d2, d3⟩ := cells4 T5.out.box
              go_wp2_with fail
              clear d0 d1 d2 d3
              refine (CV.out _).mono ?_
              rintro e v6 ⟨rfl, hx⟩
              have T6 := hid (T5.out.ext hx)
              clear hx
              obtain ⟨d0, d1, d2, d3⟩ := cells4 T6.out.box
              go_wp2_with fail
              clear d0 d1 d2 d3
              have T7 := hid (T6.out.ext ((Ext.refl v6).alloc (.cells #[uv key, uv n.rho] 22)))
              have hrd := pair_rdu (heap_new v6 (.cells #[uv key, uv n.rho] 22))
              have hap := new_apart (v := .slice (some ⟨v6.heap.size, 0, none⟩) 2 2) T6.out.two.q (by intro j hj; cases hj; exact Nat.le_refl _)
              generalize v6.alloc (.cells #[uv key, uv n.rho] 22) = v7 at *
              refine (CE.out _ _ hrd).mono ?_
              rintro e u ⟨rfl, rfl⟩
              clear hrd hap
              obtain ⟨d0, d1, d2, d3⟩ := cells4 T7.out.box
              go_wp2_with fail
              clear d0 d1 d2 d3
              refine (CM1.out _ _ T7.out.two.o).mono ?_
              rintro e v8 ⟨rfl, F8, t⟩
              have T8 := hid (T7.out.left t)
              clear t
              obtain ⟨d0, d1, d2, d3⟩ := cells4 T8.out.box
              go_wp2_with fail
              clear d0 d1 d2 d3
              refine (CM2.out _ _ T8.out.two.o).mono ?_
              rintro e v9 ⟨rfl, F9, t⟩
              have T9 := hid (T8.out.left t)
              clear t
              obtain ⟨d0, d1, d2, d3⟩ := cells4 T9.out.box
              go_wp2_with fail
              clear d0 d1 d2 d3
              refine (CC2.out _ _ T9.out.two.o).mono ?_
              rintro e v10 ⟨rfl, hx⟩
              have T10 := hid (T9.out.ext hx)
              clear hx
              obtain ⟨d0, d1, d2, d3⟩ := cells4 T10.out.box
              go_wp2_with fail
              clear d0 d1 d2 d3
              refine (CK2.out _ _ T10.out.two.o).mono ?_
              rintro e v11 ⟨rfl, hx⟩
              have T11 := hid (T10.out.ext hx)
              clear hx
              obtain ⟨d0, d1, d2, d3⟩ := cells4 T11.out.box
              go_wp2_with fail
              clear d0 d1 d2 d3
              refine (CV.out _).mono ?_
              rintro e v12 ⟨rfl, hx⟩
              have T12 := hid (T11.out.ext hx)
              clear hx
              obtain ⟨d0, d1, d2, d3⟩ := cells4 T12.out.box
              go_wp2_with fail
              clear d0 d1 d2 d3
              have T13 := hid (T12.out.ext ((Ext.refl v12).alloc (.cells #[uv key, uv n.rho] 22)))
              have hrd := pair_rdu (heap_new v12 (.cells #[uv key, uv n.rho] 22))
              have hap := new_apart (v := .slice (some ⟨v12.heap.size, 0, none⟩) 2 2) T12.out.two.q (by intro j hj; cases hj; exact Nat.le_refl _)
              generalize v12.alloc (.cells #[uv key, uv n.rho] 22) = v13 at *
              refine (CE.out _ _ hrd).mono ?_
              rintro e u ⟨rfl, rfl⟩
              clear hrd hap
              obtain ⟨d0, d1, d2, d3⟩ := cells4 T13.out.box
              go_wp2_with fail
              clear d0 d1 d2 d3
              go_roundw
              case rel => exact ⟨i + 1, by omega, by go_num, hid ⟨_, _, _, T13.out.two, S10.out⟩⟩
              case measure => simp [intOf]; omega
          · rw [hel] at CK2 CE S8 CH3
            clear S8 hel
            rcases p2 with _ | _
            · have hp0 := HNO.out rfl
              have hpz : ((p1.toNat : Int) != 0) = false := by rw [hp0]; decide
              clear hp0
              obtain ⟨d0, d1, d2, d3⟩ := cells4 T4.out.box
              go_wp2_with fail
              clear d0 d1 d2 d3
              refine (CV.out _).mono ?_
              rintro e v5 ⟨rfl, hx⟩
              have T5 := hid (T4.out.ext hx)
              clear hx
              obtain ⟨d0, d1, d2, d3⟩ := cells4 T5.out.box
              go_wp2_with fail
              clear d0 d1 d2 d3
              have T6 := hid (T5.out.ext ((Ext.refl v5).alloc (.cells #[uv key, uv n.rho] 22)))
              have hrd := pair_rdu (heap_new v5 (.cells #[uv key, uv n.rho] 22))
              have hap := new_apart (v := .slice (some ⟨v5.heap.size, 0, none⟩) 2 2) T5.out.two.q (by intro j hj; cases hj; exact Nat.le_refl _)
              generalize v5.alloc (.cells #[uv key, uv n.rho] 22) = v6 at *
              refine (CE.out _ _ hrd).mono ?_
              rintro e u ⟨rfl, rfl⟩
              clear hrd hap
              obtain ⟨d0, d1, d2, d3⟩ := cells4 T6.out.box
              go_wp2_with fail
              clear d0 d1 d2 d3
              have T7 := hid (T6.out.ext ((Ext.refl v6).alloc (.cells #[uv key, uv n.rho] 22)))
              have hrd := pair_rdu (heap_new v6 (.cells #[uv key, uv n.rho] 22))
              have hap := new_apart (v := .slice (some ⟨v6.heap.size, 0, none⟩) 2 2) T6.out.two.q (by intro j hj; cases hj; exact Nat.le_refl _)
              generalize v6.alloc (.cells #[uv key, uv n.rho] 22) = v7 at *
              refine (CH3.out (by trivial) _ _ _ T7.out.two.q hrd hap).mono ?_
              rintro e v8 ⟨rfl, F8, t⟩
              have T8 := hid (T7.out.right t)
              clear t hrd hap
              obtain ⟨d0, d1, d2, d3⟩ := cells4 T8.out.box
              go_wp2_with fail
              clear d0 d1 d2 d3
              refine (CM1.out _ _ T8.out.two.o).mono ?_
              rintro e v9 ⟨rfl, F9, t⟩
              have T9 := hid (T8.out.left t)
              clear t
              obtain ⟨d0, d1, d2, d3⟩ := cells4 T9.out.box
              go_wp2_with fail
              clear d0 d1 d2 d3
              refine (CM2.out _ _ T9.out.two.o).mono ?_
              rintro e v10 ⟨rfl, F10, t⟩
              have T10 := hid (T9.out.left t)
              clear t
              obtain ⟨d0, d1, d2, d3⟩ := cells4 T10.out.box
              go_wp2_with fail
              clear d0 d1 d2 d3
              refine (CC2.out _ _ T10.out.two.o).mono ?_
              rintro e v11 ⟨rfl, hx⟩
              have T11 := hid (T10.out.ext hx)
              clear hx
              obtain ⟨d0, d1, d2, d3⟩ := cells4 T11.out.box
              go_wp2_with fail
              clear d0 d1 d2 d3
              refine (CK2.out _ _ T11.out.two.o).mono ?_
              rintro e v12 ⟨rfl, hx⟩
              have T12 := hid (T11.out.ext hx)
              clear hx
              obtain ⟨d0, d1, d2, d3⟩ := cells4 T12.out.box
              go_wp2_with fail
              clear d0 d1 d2 d3
              refine (CV.out _).mono ?_
              rintro e v13 ⟨rfl, hx⟩
              have T13 := hid (T12.out.ext hx)
              clear hx
              obtain ⟨d0, d1, d2, d3⟩ := cells4 T13.out.box
              go_wp2_with fail
              clear d0 d1 d2 d3
              have T14 := hid (T13.out.ext ((Ext.refl v13).alloc (.cells #[uv key, uv n.rho] 22)))
              have hrd := pair_rdu (heap_new v13 (.cells #[uv key, uv n.rho] 22))
              have hap := new_apart (v := .slice (some ⟨v13.heap.size, 0, none⟩) 2 2) T13.out.two.q (by intro j hj; cases hj; exact Nat.le_refl _)
              generalize v13.alloc (.cells #[uv key, uv n.rho] 22) = v14 at *
              refine (CE.out _ _ hrd).mono ?_
              rintro e u ⟨rfl, rfl⟩
              clear hrd hap
              obtain ⟨d0, d1, d2, d3⟩ := cells4 T14.out.box
              go_wp2_with fail
              clear d0 d1 d2 d3
              go_roundw
              case rel => exact ⟨i + 1, by omega, by go_num, hid ⟨_, _, _, T14.out.two, S10.out⟩⟩
              case measure => simp [intOf]; omega
            · obtain ⟨d0, d1, d2, d3⟩ := cells4 T4.out.box
              go_wp2_with fail
              clear d0 d1 d2 d3
              refine (CV.out _).mono ?_
              rintro e v5 ⟨rfl, hx⟩
              have T5 := hid (T4.out.ext hx)
              clear hx
              obtain ⟨d0, d1, d2, d3⟩ := cells4 T5.out.box
              go_wp2_with fail
              clear d0 d1 d2 d3
              refine (CV.out _).mono ?_
              rintro e v6 ⟨rfl, hx⟩
              have T6 := hid (T5.out.ext hx)
              clear hx
              obtain ⟨d0, d1, d2, d3⟩ := cells4 T6.out.box
              go_wp2_with fail
              clear d0 d1 d2 d3
              have T7 := hid (T6.out.ext ((Ext.refl v6).alloc (.cells #[uv key, uv n.rho] 22)))
              have hrd := pair_rdu (heap_new v6 (.cells #[uv key, uv n.rho] 22))
              have hap := new_apart (v := .slice (some ⟨v6.heap.size, 0, none⟩) 2 2) T6.out.two.q (by intro j hj; cases hj; exact Nat.le_refl _)
              generalize v6.alloc (.cells #[uv key, uv n.rho] 22) = v7 at *
              refine (CE.out _ _ hrd).mono ?_
              rintro e u ⟨rfl, rfl⟩
              clear hrd hap
              obtain ⟨d0, d1, d2, d3⟩ := cells4 T7.out.box
              go_wp2_with fail
              clear d0 d1 d2 d3
              have T8 := hid (T7.out.ext ((Ext.refl v7).alloc (.cells #[uv key, uv n.rho] 22)))
              have hrd := pair_rdu (heap_new v7 (.cells #[uv key, uv n.rho] 22))
              have hap := new_apart (v := .slice (some ⟨v7.heap.size, 0, none⟩) 2 2) T7.out.two.q (by intro j hj; cases hj; exact Nat.le_refl _)
              generalize v7.alloc (.cells #[uv key, uv n.rho] 22) = v8 at *
              refine (CH3.out (by trivial) _ _ _ T8.out.two.q hrd hap).mono ?_
              rintro e v9 ⟨rfl, F9, t⟩
              have T9 := hid (T8.out.right t)
              clear t hrd hap
              obtain ⟨d0, d1, d2, d3⟩ := cells4 T9.out.box
              go_wp2_with fail
              clear d0 d1 d2 d3
              refine (CM1.out _ _ T9.out.two.o).mono ?_
              rintro e v10 ⟨rfl, F10, t⟩
              have T10 := hid (T9.out.left t)
              clear t
              obtain ⟨d0, d1, d2, d3⟩ := cells4 T10.out.box
              go_wp2_with fail
              clear d0 d1 d2 d3
              refine (CM2.out _ _ T10.out.two.o).mono ?_
              rintro e v11 ⟨rfl, F11, t⟩
              have T11 := hid (T10.out.left t)
              clear t
              obtain ⟨d0, d1, d2, d3⟩ := cells4 T11.out.box
              go_wp2_with fail
              clear d0 d1 d2 d3
              refine (CC2.out _ _ T11.out.two.o).mono ?_
              rintro e v12 ⟨rfl, hx⟩
              have T12 := hid (T11.out.ext hx)
              clear hx
              obtain ⟨d0, d1, d2, d3⟩ := cells4 T12.out.box
              go_wp2_with fail
              clear d0 d1 d2 d3
              refine (CK2.out _ _ T12.out.two.o).mono ?_
              rintro e v13 ⟨rfl, hx⟩
              have T13 := hid (T12.out.ext hx)
              clear hx
              obtain ⟨d0, d1, d2, d3⟩ := cells4 T13.out.box
              go_wp2_with fail
              clear d0 d1 d2 d3
              refine (CV.out _).mono ?_
              rintro e v14 ⟨rfl, hx⟩
              have T14 := hid (T13.out.ext hx)
              clear hx
              obtain ⟨d0, d1, d2, d3⟩ := cells4 T14.out.box
              go_wp2_with fail
              clear d0 d1 d2 d3
              have T15 := hid (T14.out.ext ((Ext.refl v14).alloc (.cells #[uv key, uv n.rho] 22)))
              have hrd := pair_rdu (heap_new v14 (.cells #[uv key, uv n.rho] 22))
              have hap := new_apart (v := .slice (some ⟨v14.heap.size, 0, none⟩) 2 2) T14.out.two.q (by intro j hj; cases hj; exact Nat.le_refl _)
              generalize v14.alloc (.cells #[uv key, uv n.rho] 22) = v15 at *
              refine (CE.out _ _ hrd).mono ?_
              rintro e u ⟨rfl, rfl⟩
              clear hrd hap
              obtain ⟨d0, d1, d2, d3⟩ := cells4 T15.out.box
              go_wp2_with fail
              clear d0 d1 d2 d3
              go_roundw
              case rel => exact ⟨i + 1, by omega, by go_num, hid ⟨_, _, _, T15.out.two, S10.out⟩⟩
              case measure => simp [intOf]; omega
        · rw [hok] at CV CC2 S6 CH2 HCM
          have hcm := HCM.out _ rfl
          simp only [if_true, Prod.mk.injEq] at hcm
          obtain ⟨e1, e2⟩ := hcm
          subst c1
          subst c2
          clear S6 HCM hok
          rcases hel : allE [key, n.rho] with _ | _
          · rw [hel] at CK2 CE S8 CH3
            obtain ⟨hb0, hM2⟩ := S8.out rfl
            subst hM2
            have hbz : ((b.toNat : Int) != 0) = false := by rw [hb0]; decide
            clear S8 hel hb0
            rcases p2 with _ | _
            · have hp0 := HNO.out rfl
              have hpz : ((p1.toNat : Int) != 0) = false := by rw [hp0]; decide
              clear hp0
              obtain ⟨d0, d1, d2, d3⟩ := cells4 T4.out.box
              go_wp2_with fail
              clear d0 d1 d2 d3
              refine (CV.out _).mono ?_
              rintro e v5 ⟨rfl, hx⟩
              have T5 := hid (T4.out.ext hx)
              clear hx
              obtain ⟨d0, d1, d2, d3⟩ := cells4 T5.out.box
              go_wp2_with fail
              clear d0 d1 d2 d3
              refine (CN.out _).mono ?_
              rintro e v6 ⟨nv, rfl, hrd, hx, hfr⟩
              have hap := new_apart T5.out.two.q hfr
              have T6 := hid (T5.out.ext hx)
              have HRD := hid hrd
              have HAP := hid hap
              obtain ⟨na, nc, rfl, -⟩ := id hrd
              clear hrd hap hx hfr
              go_wp2_with fail
              refine (CH2.out (by trivial) _ _ _ T6.out.two.q HRD.out HAP.out).mono ?_
              rintro e v7 ⟨rfl, F7, t⟩
              have T7 := hid (T6.out.right t)
              clear t HRD HAP
              obtain ⟨d0, d1, d2, d3⟩ := cells4 T7.out.box
              go_wp2_with fail
              clear d0 d1 d2 d3
              have T8 := hid (T7.out.ext ((Ext.refl v7).alloc (.cells #[uv key, uv n.rho] 22)))
              have hrd := pair_rdu (heap_new v7 (.cells #[uv key, uv n.rho] 22))
              have hap := new_apart (v := .slice (some ⟨v7.heap.size, 0, none⟩) 2 2) T7.out.two.q (by intro j hj; cases hj; exact Nat.le_refl _)
              generalize v7.alloc (.cells #[uv key, uv n.rho] 22) = v8 at *
              refine (CE.out _ _ hrd).mono ?_
              rintro e u ⟨rfl, rfl⟩
              clear hrd hap
              obtain ⟨d0, d1, d2, d3⟩ := cells4 T8.out.box
              go_wp2_with fail
              clear d0 d1 d2 d3
              refine (CM1.out _ _ T8.out.two.o).mono ?_
              rintro e v9 ⟨rfl, F9, t⟩
              have T9 := hid (T8.out.left t)
              clear t
              obtain ⟨d0, d1, d2, d3⟩ := cells4 T9.out.box
              go_wp2_with fail
              clear d0 d1 d2 d3
              refine (CM2.out _ _ T9.out.two.o).mono ?_
              rintro e v10 ⟨rfl, F10, t⟩
              have T10 := hid (T9.out.left t)
              clear t
              obtain ⟨d0, d1, d2, d3⟩ := cells4 T10.out.box
              go_wp2_with fail
              clear d0 d1 d2 d3
              refine (CC2.out _ _ T10.out.two.o).mono ?_
              rintro e v11 ⟨rfl, hx⟩
              have T11 := hid (T10.out.ext hx)
              clear hx
              obtain ⟨d0, d1, d2, d3⟩ := cells4 T11.out.box
              go_wp2_with fail
              clear d0 d1 d2 d3
              refine (CK2.out _ _ T11.out.two.o).mono ?_
              rintro e v12 ⟨rfl, hx⟩
              have T12 := hid (T11.out.ext hx)
              clear hx
              obtain ⟨d0, d1, d2, d3⟩ := cells4 T12.out.box
              go_wp2_with fail
              clear d0 d1 d2 d3
              refine (CV.out _).mono ?_
              rintro e v13 ⟨rfl, hx⟩
              have T13 := hid (T12.out.ext hx)
              clear hx
              obtain ⟨d0, d1, d2, d3⟩ := cells4 T13.out.box
              go_wp2_with fail
              clear d0 d1 d2 d3
              have T14 := hid (T13.out.ext ((Ext.refl v13).alloc (.cells #[uv key, uv n.rho] 22)))
              have hrd := pair_rdu (heap_new v13 (.cells #[uv key, uv n.rho] 22))
              have hap := new_apart (v := .slice (some ⟨v13.heap.size, 0, none⟩) 2 2) T13.out.two.q (by intro j hj; cases hj; exact Nat.le_refl _)
              generalize v13.alloc (.cells #[uv key, uv n.rho] 22) = v14 at *
              refine (CE.out _ _ hrd).mono ?_
              rintro e u ⟨rfl, rfl⟩
              clear hrd hap
              obtain ⟨d0, d1, d2, d3⟩ := cells4 T14.out.box
              go_wp2_with fail
              clear d0 d1 d2 d3
              go_roundw
              case rel => exact ⟨i + 1, by omega, by go_num, hid ⟨_, _, _, T14.out.two, S10.out⟩⟩
              case measure => simp [intOf]; omega
            · obtain ⟨d0, d1, d2, d3⟩ := cells4 T4.out.box
              go_wp2_with fail
              clear d0 d1 d2 d3
              refine (CV.out _).mono ?_
              rintro e v5 ⟨rfl, hx⟩
              have T5 := hid (T4.out.ext hx)
              clear hx
              obtain ⟨d0, d1, d2, d3⟩ := cells4 T5.out.box
              go_wp2_with fail
              clear d0 d1 d2 d3
              refine (CV.out _).mono ?_
              rintro e v6 ⟨rfl, hx⟩
              have T6 := hid (T5.out.ext hx)
              clear hx
              obtain ⟨d0, d1, d2, d3⟩ := cells4 T6.out.box
              go_wp2_with fail
              clear d0 d1 d2 d3
              refine (CN.out _).mono ?_
              rintro e v7 ⟨nv, rfl, hrd, hx, hfr⟩
              have hap := new_apart T6.out.two.q hfr
              have T7 := hid (T6.out.ext hx)
              have HRD := hid hrd
              have HAP := hid hap
              obtain ⟨na, nc, rfl, -⟩ := id hrd
              clear hrd hap hx hfr
              go_wp2_with fail
              refine (CH2.out (by trivial) _ _ _ T7.out.two.q HRD.out HAP.out).mono ?_
              rintro e v8 ⟨rfl, F8, t⟩
              have T8 := hid (T7.out.right t)
              clear t HRD HAP
              obtain ⟨d0, d1, d2, d3⟩ := cells4 T8.out.box
              go_wp2_with fail
              clear d0 d1 d2 d3
              have T9 := hid (T8.out.ext ((Ext.refl v8).alloc (.cells #[uv key, uv n.rho] 22)))
              have hrd := pair_rdu (heap_new v8 (.cells #[uv key, uv n.rho] 22))
              have hap := new_apart (v := .slice (some ⟨v8.heap.size, 0, none⟩) 2 2) T8.out.two.q (by intro j hj; cases hj; exact Nat.le_refl _)
              generalize v8.alloc (.cells #[uv key, uv n.rho] 22) = v9 at *
              refine (CE.out _ _ hrd).mono ?_
              rintro e u ⟨rfl, rfl⟩
              clear hrd hap
              obtain ⟨d0, d1, d2, d3⟩ := cells4 T9.out.box
              go_wp2_with fail
              clear d0 d1 d2 d3
              refine (CM1.out _ _ T9.out.two.o).mono ?_
              rintro e v10 ⟨rfl, F10, t⟩
              have T10 := hid (T9.out.left t)
              clear t
              obtain ⟨d0, d1, d2, d3⟩ := cells4 T10.out.box
              go_wp2_with fail
              clear d0 d1 d2 d3
              refine (CM2.out _ _ T10.out.two.o).mono ?_
              rintro e v11 ⟨rfl, F11, t⟩
              have T11 := hid (T10.out.left t)
              clear t
              obtain ⟨d0, d1, d2, d3⟩ := cells4 T11.out.box
              go_wp2_with fail
              clear d0 d1 d2 d3
              refine (CC2.out _ _ T11.out.two.o).mono ?_
              rintro e v12 ⟨rfl, hx⟩
              have T12 := hid (T11.out.ext hx)
              clear hx
              obtain ⟨d0, d1, d2, d3⟩ := cells4 T12.out.box
              go_wp2_with fail
              clear d0 d1 d2 d3
              refine (CK2.out _ _ T12.out.two.o).mono ?_
              rintro e v13 ⟨rfl, hx⟩
              have T13 := hid (T12.out.ext hx)
              clear hx
              obtain ⟨d0, d1, d2, d3⟩ := cells4 T13.out.box
              go_wp2_with fail
              clear d0 d1 d2 d3
              refine (CV.out _).mono ?_
              rintro e v14 ⟨rfl, hx⟩
              have T14 := hid (T13.out.ext hx)
              clear hx
              obtain ⟨d0, d1, d2, d3⟩ := cells4 T14.out.box
              go_wp2_with fail
              clear d0 d1 d2 d3
              have T15 := hid (T14.out.ext ((Ext.refl v14).alloc (.cells #[uv key, uv n.rho] 22)))
              have hrd := pair_rdu (heap_new v14 (.cells #[uv key, uv n.rho] 22))
              have hap := new_apart (v := .slice (some ⟨v14.heap.size, 0, none⟩) 2 2) T14.out.two.q (by intro j hj; cases hj; exact Nat.le_refl _)
              generalize v14.alloc (.cells #[uv key, uv n.rho] 22) = v15 at *
              refine (CE.out _ _ hrd).mono ?_
              rintro e u ⟨rfl, rfl⟩
              clear hrd hap
              obtain ⟨d0, d1, d2, d3⟩ := cells4 T15.out.box
              go_wp2_with fail
              clear d0 d1 d2 d3
              go_roundw
              case rel => exact ⟨i + 1, by omega, by go_num, hid ⟨_, _, _, T15.out.two, S10.out⟩⟩
              case measure => simp [intOf]; omega
          · rw [hel] at CK2 CE S8 CH3
            clear S8 hel
            rcases p2 with _ | _
            · have hp0 := HNO.out rfl
              have hpz : ((p1.toNat : Int) != 0) = false := by rw [hp0]; decide
              clear hp0
              obtain ⟨d0, d1, d2, d3⟩ := cells4 T4.out.box
              go_wp2_with fail
              clear d0 d1 d2 d3
              refine (CV.out _).mono ?_
              rintro e v5 ⟨rfl, hx⟩
              have T5 := hid (T4.out.ext hx)
              clear hx
              obtain ⟨d0, d1, d2, d3⟩ := cells4 T5.out.box
              go_wp2_with fail
              clear d0 d1 d2 d3
              refine (CN.out _).mono ?_
              rintro e v6 ⟨nv, rfl, hrd, hx, hfr⟩
              have hap := new_apart T5.out.two.q hfr
              have T6 := hid (T5.out.ext hx)
              have HRD := hid hrd
              have HAP := hid hap
              obtain ⟨na, nc, rfl, -⟩ := id hrd
              clear hrd hap hx hfr
              go_wp2_with fail
              refine (CH2.out (by trivial) _ _ _ T6.out.two.q HRD.out HAP.out).mono ?_
              rintro e v7 ⟨rfl, F7, t⟩
              have T7 := hid (T6.out.right t)
              clear t HRD HAP
              obtain ⟨d0, d1, d2, d3⟩ := cells4 T7.out.box
              go_wp2_with fail
              clear d0 d1 d2 d3
              have T8 := hid (T7.out.ext ((Ext.refl v7).alloc (.cells #[uv key, uv n.rho] 22)))
              have hrd := pair_rdu (heap_new v7 (.cells #[uv key, uv n.rho] 22))
              have hap := new_apart (v := .slice (some ⟨v7.heap.size, 0, none⟩) 2 2) T7.out.two.q (by intro j hj; cases hj; exact Nat.le_refl _)
              generalize v7.alloc (.cells #[uv key, uv n.rho] 22) = v8 at *
              refine (CE.out _ _ hrd).mono ?_
              rintro e u ⟨rfl, rfl⟩
              clear hrd hap
              obtain ⟨d0, d1, d2, d3⟩ := cells4 T8.out.box
              go_wp2_with fail
              clear d0 d1 d2 d3
              have T9 := hid (T8.out.ext ((Ext.refl v8).alloc (.cells #[uv key, uv n.rho] 22)))
              have hrd := pair_rdu (heap_new v8 (.cells #[uv key, uv n.rho] 22))
              have hap := new_apart (v := .slice (some ⟨v8.heap.size, 0, none⟩) 2 2) T8.out.two.q (by intro j hj; cases hj; exact Nat.le_refl _)
              generalize v8.alloc (.cells #[uv key, uv n.rho] 22) = v9 at *
              refine (CH3.out (by trivial) _ _ _ T9.out.two.q hrd hap).mono ?_
              rintro e v10 ⟨rfl, F10, t⟩
              have T10 := hid (T9.out.right t)
              clear t hrd hap
              obtain ⟨d0, d1, d2, d3⟩ := cells4 T10.out.box
              go_wp2_with fail
              clear d0 d1 d2 d3
              refine (CM1.out _ _ T10.out.two.o).mono ?_
              rintro e v11 ⟨rfl, F11, t⟩
              have T11 := hid (T10.out.left t)
              clear t
              obtain ⟨d0, d1, d2, d3⟩ := cells4 T11.out.box
              go_wp2_with fail
              clear d0 d1 d2 d3
              refine (CM2.out _ _ T11.out.two.o).mono ?_
              rintro e v12 ⟨rfl, F12, t⟩
              have T12 := hid (T11.out.left t)
              clear t
              obtain ⟨d0, d1, d2, d3⟩ := cells4 T12.out.box
              go_wp2_with fail
              clear d0 d1 d2 d3
              refine (CC2.out _ _ T12.out.two.o).mono ?_
              rintro e v13 ⟨rfl, hx⟩
              have T13 := hid (T12.out.ext hx)
              clear hx
              obtain ⟨d0, d1, d2, d3⟩ := cells4 T13.out.box
              go_wp2_with fail
              clear d0 d1 d2 d3
              refine (CK2.out _ _ T13.out.two.o).mono ?_
              rintro e v14 ⟨rfl, hx⟩
              have T14 := hid (T13.out.ext hx)
              clear hx
              obtain ⟨d0, d1, d2, d3⟩ := cells4 T14.out.box
              go_wp2_with fail
              clear d0 d1 d2 d3
              refine (CV.out _).mono ?_
              rintro e v15 ⟨rfl, hx⟩
              have T15 := hid (T14.out.ext hx)
              clear hx
              obtain ⟨d0, d1, d2, d3⟩ := cells4 T15.out.box
              go_wp2_with fail
              clear d0 d1 d2 d3
              have T16 := hid (T15.out.ext ((Ext.refl v15).alloc (.cells #[uv key, uv n.rho] 22)))
              have hrd := pair_rdu (heap_new v15 (.cells #[uv key, uv n.rho] 22))
              have hap := new_apart (v := .slice (some ⟨v15.heap.size, 0, none⟩) 2 2) T15.out.two.q (by intro j hj; cases hj; exact Nat.le_refl _)
              generalize v15.alloc (.cells #[uv key, uv n.rho] 22) = v16 at *
              refine (CE.out _ _ hrd).mono ?_
              rintro e u ⟨rfl, rfl⟩
              clear hrd hap
              obtain ⟨d0, d1, d2, d3⟩ := cells4 T16.out.box
              go_wp2_with fail
              clear d0 d1 d2 d3
              go_roundw
              case rel => exact ⟨i + 1, by omega, by go_num, hid ⟨_, _, _, T16.out.two, S10.out⟩⟩
              case measure => simp [intOf]; omega
            · obtain ⟨d0, d1, d2, d3⟩ := cells4 T4.out.box
              go_wp2_with fail
              clear d0 d1 d2 d3
              refine (CV.out _).mono ?_
              rintro e v5 ⟨rfl, hx⟩
              have T5 := hid (T4.out.ext hx)
              clear hx
              obtain ⟨d0, d1, d2, d3⟩ := cells4 T5.out.box
              go_wp2_with fail
              clear d0 d1 d2 d3
              refine (CV.out _).mono ?_
              rintro e v6 ⟨rfl, hx⟩
              have T6 := hid (T5.out.ext hx)
              clear hx
              obtain ⟨d0, d1, d2, d3⟩ := cells4 T6.out.box
              go_wp2_with fail
              clear d0 d1 d2 d3
              refine (CN.out _).mono ?_
              rintro e v7 ⟨nv, rfl, hrd, hx, hfr⟩
              have hap := new_apart T6.out.two.q hfr
              have T7 := hid (T6.out.ext hx)
              have HRD := hid hrd
              have HAP := hid hap
              obtain ⟨na, nc, rfl, -⟩ := id hrd
              clear hrd hap hx hfr
              go_wp2_with fail
              refine (CH2.out (by trivial) _ _ _ T7.out.two.q HRD.out HAP.out).mono ?_
              rintro e v8 ⟨rfl, F8, t⟩
              have T8 := hid (T7.out.right t)
              clear t HRD HAP
              obtain ⟨d0, d1, d2, d3⟩ := cells4 T8.out.box
              go_wp2_with fail
              clear d0 d1 d2 d3
              have T9 := hid (T8.out.ext ((Ext.refl v8).alloc (.cells #[uv key, uv n.rho] 22)))
              have hrd := pair_rdu (heap_new v8 (.cells #[uv key, uv n.rho] 22))
              have hap := new_apart (v := .slice (some ⟨v8.heap.size, 0, none⟩) 2 2) T8.out.two.q (by intro j hj; cases hj; exact Nat.le_refl _)
              generalize v8.alloc (.cells #[uv key, uv n.rho] 22) = v9 at *
              refine (CE.out _ _ hrd).mono ?_
              rintro e u ⟨rfl, rfl⟩
              clear hrd hap
              obtain ⟨d0, d1, d2, d3⟩ := cells4 T9.out.box
              go_wp2_with fail
              clear d0 d1 d2 d3
              have T10 := hid (T9.out.ext ((Ext.refl v9).alloc (.cells #[uv key, uv n.rho] 22)))
              have hrd := pair_rdu (heap_new v9 (.cells #[uv key, uv n.rho] 22))
              have hap := new_apart (v := .slice (some ⟨v9.heap.size, 0, none⟩) 2 2) T9.out.two.q (by intro j hj; cases hj; exact Nat.le_refl _)
              generalize v9.alloc (.cells #[uv key, uv n.rho] 22) = v10 at *
              refine (CH3.out (by trivial) _ _ _ T10.out.two.q hrd hap).mono ?_
              rintro e v11 ⟨rfl, F11, t⟩
              have T11 := hid (T10.out.right t)
              clear t hrd hap
              obtain ⟨d0, d1, d2, d3⟩ := cells4 T11.out.box
              go_wp2_with fail
              clear d0 d1 d2 d3
              refine (CM1.out _ _ T11.out.two.o).mono ?_
              rintro e v12 ⟨rfl, F12, t⟩
              have T12 := hid (T11.out.left t)
              clear t
              obtain ⟨d0, d1, d2, d3⟩ := cells4 T12.out.box
              go_wp2_with fail
              clear d0 d1 d2 d3
              refine (CM2.out _ _ T12.out.two.o).mono ?_
              rintro e v13 ⟨rfl, F13, t⟩
              have T13 := hid (T12.out.left t)
              clear t
              obtain ⟨d0, d1, d2, d3⟩ := cells4 T13.out.box
              go_wp2_with fail
              clear d0 d1 d2 d3
              refine (CC2.out _ _ T13.out.two.o).mono ?_
              rintro e v14 ⟨rfl, hx⟩
              have T14 := hid (T13.out.ext hx)
              clear hx
              obtain ⟨d0, d1, d2, d3⟩ := cells4 T14.out.box
              go_wp2_with fail
              clear d0 d1 d2 d3
              refine (CK2.out _ _ T14.out.two.o).mono ?_
              rintro e v15 ⟨rfl, hx⟩
              have T15 := hid (T14.out.ext hx)
              clear hx
              obtain ⟨d0, d1, d2, d3⟩ := cells4 T15.out.box
              go_wp2_with fail
              clear d0 d1 d2 d3
              refine (CV.out _).mono ?_
              rintro e v16 ⟨rfl, hx⟩
              have T16 := hid (T15.out.ext hx)
              clear hx
              obtain ⟨d0, d1, d2, d3⟩ := cells4 T16.out.box
              go_wp2_with fail
              clear d0 d1 d2 d3
              have T17 := hid (T16.out.ext ((Ext.refl v16).alloc (.cells #[uv key, uv n.rho] 22)))
              have hrd := pair_rdu (heap_new v16 (.cells #[uv key, uv n.rho] 22))
              have hap := new_apart (v := .slice (some ⟨v16.heap.size, 0, none⟩) 2 2) T16.out.two.q (by intro j hj; cases hj; exact Nat.le_refl _)
              generalize v16.alloc (.cells #[uv key, uv n.rho] 22) = v17 at *
              refine (CE.out _ _ hrd).mono ?_
              rintro e u ⟨rfl, rfl⟩
              clear hrd hap
              obtain ⟨d0, d1, d2, d3⟩ := cells4 T17.out.box
              go_wp2_with fail
              clear d0 d1 d2 d3
              go_roundw
              case rel => exact ⟨i + 1, by omega, by go_num, hid ⟨_, _, _, T17.out.two, S10.out⟩⟩
              case measure => simp [intOf]; omega
      · have hin : i = nl := by omega
        have hltB : decide ((i : Int) < (nl : Int)) = false := by simp; omega
        have HT := hid hT
        have HSM := hid hS
        clear hT hS
        subst hin
        have hdd : ((M.draws : Int) == (M.draws : Int)) = true := by simp
        go_wp2_with fail
        refine HT.out.o.draws.mono ?_
        rintro e v1 ⟨rfl, rfl⟩
        go_wp2_with fail
        refine HT.out.q.draws.mono ?_
        rintro e v1 ⟨rfl, rfl⟩
        go_wp2_with fail
        refine (Questions_any HT.out.o (HSM.out.known (by omega)).1 (fun q hq => Nat.le_trans (HSM.out.elems q hq) (by omega))).mono ?_
        rintro e v1 ⟨x1, Q1, rfl, hQ1, hown1, hel1, hx1, -⟩
        have R1 := hid (rdQ_of hQ1 hown1 fun x hx => (hel1 x hx).1)
        have T1 := hid (HT.out.ext hx1)
        have X1 := hid hx1
        clear hQ1 hown1 hel1 hx1
        obtain ⟨xa, xc, rfl, -⟩ := id R1.out
        go_wp2_with fail
        refine (Questions_any T1.out.q (HSM.out.known (by omega)).1 (fun q hq => Nat.le_trans (HSM.out.elems q hq) (by omega))).mono ?_
        rintro e v2 ⟨x2, Q2, rfl, hQ2, hown2, hel2, hx2, -⟩
        have R2 := hid (rdQ_of hQ2 hown2 fun x hx => (hel2 x hx).1)
        have R1' := hid (R1.out.ext hx2)
        have X2 := hid (HT.out.ex.trans (X1.out.trans hx2))
        clear hQ2 hown2 hel2 hx2
        obtain ⟨ya, yc, rfl, -⟩ := id R2.out
        go_wp2_with fail
        refine (refQuestions_any M.qs _ _ _ R1'.out R2.out (fun q hq => Nat.le_trans (HSM.out.elems q hq) (by omega)) (HSM.out.known (by omega)).1).mono ?_
        rintro e v3 ⟨rfl, hx3⟩
        have X3 := hid (X2.out.trans hx3)
        clear hx3
        go_wp2_with fail
        go_ret
        exact ⟨rfl, X3.out⟩
  · have h12B : decide ((12 : Int) < (nl : Int)) = true := by simp; omega
    go_enter Try.func8, Try.ntmps8
    go_wp2_with fail
    have hxw := (Ext.refl w).alloc (.cells #[uv seed, .bool ideal] 54)
    refine (awake34_any _).mono ?_
    rintro e w1 ⟨rfl, hx1⟩
    have HX1 := hid (hxw.trans hx1)
    clear hx1 hxw
    go_wp2_with fail
    go_ret
    exact ⟨rfl, HX1.out⟩
end Go.Proofs.Ytdkilbnocmnekaa
