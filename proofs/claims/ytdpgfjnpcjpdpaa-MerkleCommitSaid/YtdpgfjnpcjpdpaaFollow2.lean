/- follow: the questions from a leaf to the root. Written by wip/tools/gen_follow.py. -/
import Derived.Test.YtdpgfjnpcjpdpaaFollow
set_option linter.unusedSimpArgs false
namespace Go.Proofs.Ytdpgfjnpcjpdpaa
open Go.RowKit
attribute [local irreducible] perm fAdd fMul fPow fSub fNeg fRed hashU drawOf nextState
theorem peekF_qs (M : Orc) (a : UInt64) (l : List UInt64) : (peekF M a l).2.qs.length ≤ M.qs.length + 1 := Nat.le_succ _
theorem hashF_qs (M : Orc) (a : UInt64) (l : List UInt64) : (hashF M a l).2.qs.length ≤ M.qs.length + 1 := hash_qs_le M a l
theorem peekF_draws (M : Orc) (a : UInt64) (l : List UInt64) : (peekF M a l).2.draws ≤ M.draws + 1 := Nat.le_succ _
theorem hashF_draws (M : Orc) (a : UInt64) (l : List UInt64) : (hashF M a l).2.draws ≤ M.draws + 1 := hash_draws_le M a l
theorem and1_i64 (m : Nat) (h : m < 2048) : bits .and .i64 (m : Int) 1 = ((m % 2 : Nat) : Int) := by
  have key : ∀ k : Fin 2048, bits .and .i64 (k.val : Int) 1 = ((k.val % 2 : Nat) : Int) := by decide +kernel
  exact key ⟨m, h⟩
theorem bit_at (i step : Nat) (hi : i ≤ 1024) (hs : step ≤ 10) : (bits .and .i64 ((i : Int) / 2 ^ min step 64) 1 == 1) = decide (i / 2 ^ step % 2 = 1) := by
  have h1 : i / 2 ^ step ≤ 1024 := Nat.le_trans (Nat.div_le_self _ _) hi
  have h2 : (i : Int) / 2 ^ min step 64 = ((i / 2 ^ step : Nat) : Int) := by
    rw [Nat.min_eq_left (by omega)]; simp
  rw [h2, and1_i64 _ (by omega)]
  by_cases h : i / 2 ^ step % 2 = 1
  · rw [decide_eq_true h, h]; rfl
  · rw [decide_eq_false h, beq_eq_false_iff_ne]; omega
theorem u_eqv (x y : UInt64) : ((x.toNat : Int) == (y.toNat : Int)) = (x == y) := by
  by_cases h : x = y
  · subst h; simp
  · have : ¬ x.toNat = y.toNat := fun e => h (UInt64.toNat_inj.1 e)
    rw [beq_eq_false_iff_ne.2 h]; simp; omega

set_option maxRecDepth 100000 in
set_option maxHeartbeats 6400000 in
theorem follow_peek {w : World} {b : Nat} {M : Orc} {F : Nat → Prop} {root : UInt64} {i : Nat} {lf pv : Value} {x : Opn} (h : OrcAt w b M F) (hl : Stays F w fun v => RdU' v lf x.leaf) (hp : Stays F w fun v => RdU' v pv x.path)
    (hpl : x.path.length ≤ 10) (hi : i ≤ 1024) (hL : x.leaf.length ≤ 1000000000) (hq : M.qs.length ≤ 100000000) (hd : M.draws ≤ 100000000) :
    Calls Try.prog 76 #[.func (.func 75) #[.pointer (some ⟨b, 0, none⟩)] #[], uv root, .int .i64 i, .agg #[lf, uv x.salt, pv]] w (FolO w b F root (M.fol peekF i x)) := by
  obtain ⟨la, lc, rfl, -⟩ := id (hl w (Kp.refl F w))
  obtain ⟨pa, pc, rfl, -⟩ := id (hp w (Kp.refl F w))
  obtain ⟨wa, hwa⟩ : ∃ wa, wa = w.alloc (.cells #[.slice la x.leaf.length lc, uv x.salt, .slice pa x.path.length pc] 59) := ⟨_, rfl⟩
  have hxa : Ext w wa := by rw [hwa]; exact (Ext.refl w).alloc _
  have hba : wa.heap[w.heap.size]? = some (.cells #[.slice la x.leaf.length lc, uv x.salt, .slice pa x.path.length pc] 59 (0, 0)) := by rw [hwa]; exact heap_new w _
  have hsz : wa.heap.size = w.heap.size + 1 := by rw [hwa]; simp
  obtain ⟨xb, hxb⟩ : ∃ xb, xb = w.heap.size := ⟨_, rfl⟩
  have HWA := hid hwa
  have HXA := hid hxa
  have HSA := hid (salted_any _ x.salt x.leaf wa (hl wa (Kp.of_ext hxa)) (by omega))
  rw [← hxb] at hba
  have HBA := hid hba
  have HSZ := hid hsz
  have HXB := hid hxb
  have HH := hid h
  have HP := hid hp
  have HPL := hid hpl
  have HI := hid hi
  have HQ := hid hq
  have HD := hid hd
  have HL := hid hL
  have hspec0 : M.fol peekF i x = pre (([] : List (Qn × Value)).map (·.1)) (folF peekF (x.path.drop 0) (i / 2 ^ 0) M (16, x.salt :: x.leaf)) := by
    rw [List.map_nil, pre_nil, List.drop_zero, Nat.pow_zero, Nat.div_one]; rfl
  have HSPEC := hid hspec0
  obtain ⟨R, hR⟩ : ∃ R, R = M.fol peekF i x := ⟨_, rfl⟩
  have HR := hid hR
  rw [← hR]
  clear hwa hl hxa hba hsz h hp hpl hq hd hL hi hspec0 hR
  go_enter Try.func76, Try.ntmps76
  go_wp2_with fail
  clear hxb
  rw [← HWA.out]
  refine HSA.out.mono ?_
  rintro e w1 ⟨v, rfl, hown, hx1, hfr⟩
  obtain ⟨va, vc, rfl, -⟩ := ownsRow_rd hown
  have HOWN := hid hown
  have HX1 := hid hx1
  have HFR := hid hfr
  clear hown hx1 hfr
  go_wp2_with fail
  rw [← HXB.out]
  go_loopw [11, 12] (fun av sv wr => ∃ (F' : Nat → Prop) (M' : Orc) (q : UInt64 × List UInt64) (qv old : Value) (A : List (Qn × Value)) (step : Nat), sv = .int .i64 step ∧ Hid (FInv w wr b F peekF M i x (.slice la x.leaf.length lc) (.slice pa x.path.length pc) xb w1.heap.size F' M' q qv old av A step)) (fun _ sv _ => x.path.length + 1 - (intOf sv).toNat)
  case atStart =>
    have hxw1 := HXA.out.trans HX1.out
    have hz1 := HX1.out.size
    have hsz := HSZ.out
    have hxb := HXB.out
    have hxal := (Ext.refl w1).alloc (.cells #[.int .u64 16, .slice va (x.leaf.length + 1) vc, .int .u64 0] 49)
    have hfl := HH.out.foot_lt
    refine ⟨F, M, (16, x.salt :: x.leaf), .slice va (x.leaf.length + 1) vc, .int .u64 0, [], 0, rfl, hid ?_⟩
    exact {
      orc := .of_ext HH.out (hxw1.trans hxal)
      xbox := hxal.heap_some (HX1.out.heap_some HBA.out)
      xF := fun hf => by have := hfl _ hf; omega
      qbox := heap_new w1 _
      qF := fun hf => by have := hfl _ hf; omega
      q0 := by omega
      qown := ownsRow_ext HOWN.out hxal
      qno := fun k hk => by
        have h1 := HFR.out k hk
        exact ⟨fun hf => by have := hfl _ hf; omega, by omega⟩
      aown := World.ownsRow_nil _ _ _ _
      ano := fun k hk => by cases hk
      aels := fun y hy => by cases hy
      spec := HSPEC.out
      len := rfl
      lenp := Nat.zero_le _
      lenq := by have := HL.out; simp; omega
      qs := Nat.le_refl _
      draws := Nat.le_refl _ }
  case round =>
    obtain ⟨F', M', q, qv, old, A, step, rfl, HF⟩ := hrel
    obtain ⟨qa, qc, rfl, -⟩ := ownsRow_rd HF.out.qown
    obtain ⟨aa, ac, hae, -⟩ := ownsRow_rd HF.out.aown
    subst hae
    have hq0 : wr.cell? ⟨w1.heap.size, 0, none⟩ = some (uv q.1) := cell_of HF.out.qbox 0
    have hq1 : wr.cell? ⟨w1.heap.size, 1, none⟩ = some (.slice qa q.2.length qc) := cell_of HF.out.qbox 1
    have hlen := HF.out.len
    have hlp := HF.out.lenp
    have hqs := HF.out.qs
    have hds := HF.out.draws
    have HASK := hid (ask_peek (label := q.1) HF.out.orc.at' HF.out.qown.rdu (by have := HF.out.lenq; omega) (by have := HQ.out; have := HPL.out; omega))
    obtain ⟨r, hr⟩ : ∃ r, r = peekF M' q.1 q.2 := ⟨_, rfl⟩
    have HR2 := hid hr
    unfold AskO at HASK
    rw [← hr] at HASK
    obtain ⟨⟨ans, ok⟩, M2⟩ := r
    simp only at HASK
    have hspec := HF.out.spec
    rw [← HR.out] at hspec
    have HSP := hid hspec
    clear hr hspec
    cases ok with
    | false =>
      clear hqs hds hlen hlp
      go_wp2_with fail
      refine HASK.out.mono ?_
      rintro e w2 ⟨rfl, F'', ht⟩
      have HT := hid ht
      clear ht
      go_wp2_with fail
      go_ret2
      have hno : folF peekF (x.path.drop step) (i / 2 ^ step) M' q = (none, M2) := by
        have h1 := folF_no (f := peekF) (l := x.path.drop step) (i := i / 2 ^ step) (M := M') (q := q) (by rw [← HR2.out])
        rw [h1, ← HR2.out]
      have hRR := HSP.out
      rw [hno, pre_none] at hRR
      subst hRR
      exact ⟨.slice none 0 0, [], F'', rfl, HF.out.orc.trans HT.out, World.ownsRow_nil _ _ _ _, (fun k hk => by cases hk), (fun y hy => by cases hy), rfl⟩
    | true =>
      obtain ⟨j0, hj1, hy0, hy1, hy2⟩ := info_parts Try.infoQ
      have HJ := hid hj1
      have HY0 := hid hy0
      have HY1 := hid hy1
      have HY2 := hid hy2
      clear hj1 hy0 hy1 hy2 hqs hds
      by_cases hend : step = x.path.length
      · have hpq : ((step : Int) == (x.path.length : Int)) = true := by simp [hend]
        have HEND := hid hend
        have HLEN := hid hlen
        clear hend hlen
        go_wp2_with fail
        refine HASK.out.mono ?_
        rintro e w2 ⟨rfl, F'', ht⟩
        obtain ⟨o1, x1, x2, q1, q2, q3, q4, a1, a2, a3⟩ := HF.out.asked ht
        have hc0 : w2.cell? ⟨w1.heap.size, 0, none⟩ = some (uv q.1) := cell_of q1 0
        have hc1 : w2.cell? ⟨w1.heap.size, 1, none⟩ = some (.slice qa q.2.length qc) := cell_of q1 1
        have hc2 : w2.cell? ⟨w1.heap.size, 2, none⟩ = some old := cell_of q1 2
        have hcf := frozen_of q1
        have hs : Kp (fun k => k = w1.heap.size) w2 (w2.setCell ⟨w1.heap.size, 2, none⟩ (uv ans)) := (Kp.refl (fun k => k = w1.heap.size) w2).setCell (p := ⟨w1.heap.size, 2, none⟩) (.inl rfl) _
        have hz : (w2.setCell ⟨w1.heap.size, 2, none⟩ (uv ans)).heap.size = w2.heap.size := by simp [World.setCell]
        have ha := ownsRow_ext (ownsRow_kp a1 hs (by rintro k hk rfl; exact (a2 _ hk).2.2 rfl)) ((Ext.refl (w2.setCell ⟨w1.heap.size, 2, none⟩ (uv ans))).alloc (.cells #[uv q.1, .slice qa q.2.length qc, uv ans] 49))
        have hnb := heap_new (w2.setCell ⟨w1.heap.size, 2, none⟩ (uv ans)) (.cells #[uv q.1, .slice qa q.2.length qc, uv ans] 49)
        rw [hz] at hnb
        have hrd := RdC.block (n := 1) hnb (by unfold maxLen; omega)
        have hAl : A.length ≤ 10 := by have := HPL.out; have := HLEN.out; have := HF.out.lenp; omega
        have HT := hid ht
        have HA := hid ha
        have HRD := hid hrd
        have HAL := hid hAl
        have HZ := hid hz
        clear o1 x1 x2 q1 q2 q3 q4 a1 a2 a3 ht hs hz ha hnb hrd hAl
        go_wp2_with (at_builtin; refine wpList_app rfl _ _ 62 rfl 49 j0 (.agg #[.int .u64 0, .slice none 0 0, .int .u64 0]) 3 40 (by kernel_rfl) HJ.out HY0.out HY1.out HY2.out rfl (by decide) (.slice aa A.length ac) A.length (qCells A) rfl HA.out (.slice (some ⟨w2.heap.size, 0, none⟩) 1 1) 1 [uv q.1, .slice qa q.2.length qc, uv ans] rfl HRD.out rfl (by intro u hu; simp only [List.mem_cons, List.not_mem_nil, or_false] at hu; rcases hu with rfl | rfl | rfl <;> rfl) (by have := HAL.out; unfold maxLen; omega) (by have := HAL.out; omega) ?_)
        intro v3 w3 hown3 hk3 hb3
        have hG := HF.out.more (ans := ans) HT.out (by simpa using hown3) hk3 (by simpa [World.setCell] using hb3)
        have HG := hid hG
        clear hown3 hk3 hb3 hG
        have hpc : w3.cell? ⟨xb, 2, none⟩ = some (.slice pa x.path.length pc) := cell_of HG.out.xbox 2
        go_wp2_with fail
        go_ret2
        have hdrop : x.path.drop step = [] := List.drop_eq_nil_of_le (by have := HEND.out; omega)
        have hyes : folF peekF (x.path.drop step) (i / 2 ^ step) M' q = (some [⟨q.1, q.2, ans⟩], M2) := by
          rw [hdrop]
          have h1 := folF_end (f := peekF) (i := i / 2 ^ step) (M := M') (q := q) (by rw [← HR2.out])
          rw [h1, ← HR2.out]
        have hRR := HSP.out
        rw [hyes, pre_some] at hRR
        subst hRR
        exact ⟨v3, A ++ [(⟨q.1, q.2, ans⟩, .slice qa q.2.length qc)], F'', by rw [show folOk (some (A.map (·.1) ++ [⟨q.1, q.2, ans⟩]), M2) root = ((ans.toNat : Int) == (root.toNat : Int)) from by simp only [folOk, Option.map_some, Option.getD_some, lastA_snoc]; rw [← u_eqv]]; rfl, HG.out.orc, HG.out.aown, fun k hk => ⟨(HG.out.ano k hk).1, (HG.out.ano k hk).2.1⟩, HG.out.aels, by simp⟩
      · have hpq : ((step : Int) == (x.path.length : Int)) = false := by simp; omega
        have hst : step < x.path.length := by omega
        have HST := hid hst
        have hst2 : (step : Int) ≤ 10 := by have := HPL.out; omega
        have hst0 : (0 : Int) ≤ (step : Int) := by omega
        have hst1 : (step : Int) < (x.path.length : Int) := by omega
        obtain ⟨p, hpx⟩ : ∃ p, x.path[step]? = some p := ⟨_, List.getElem?_eq_getElem hst⟩
        have HPX := hid hpx
        clear hpx
        have HEND := hid hend
        have HLEN := hid hlen
        clear hend hlen
        go_wp2_with fail
        refine HASK.out.mono ?_
        rintro e w2 ⟨rfl, F'', ht⟩
        obtain ⟨o1, x1, x2, q1, q2, q3, q4, a1, a2, a3⟩ := HF.out.asked ht
        have hc0 : w2.cell? ⟨w1.heap.size, 0, none⟩ = some (uv q.1) := cell_of q1 0
        have hc1 : w2.cell? ⟨w1.heap.size, 1, none⟩ = some (.slice qa q.2.length qc) := cell_of q1 1
        have hc2 : w2.cell? ⟨w1.heap.size, 2, none⟩ = some old := cell_of q1 2
        have hcf := frozen_of q1
        have hs : Kp (fun k => k = w1.heap.size) w2 (w2.setCell ⟨w1.heap.size, 2, none⟩ (uv ans)) := (Kp.refl (fun k => k = w1.heap.size) w2).setCell (p := ⟨w1.heap.size, 2, none⟩) (.inl rfl) _
        have hz : (w2.setCell ⟨w1.heap.size, 2, none⟩ (uv ans)).heap.size = w2.heap.size := by simp [World.setCell]
        have ha := ownsRow_ext (ownsRow_kp a1 hs (by rintro k hk rfl; exact (a2 _ hk).2.2 rfl)) ((Ext.refl (w2.setCell ⟨w1.heap.size, 2, none⟩ (uv ans))).alloc (.cells #[uv q.1, .slice qa q.2.length qc, uv ans] 49))
        have hnb := heap_new (w2.setCell ⟨w1.heap.size, 2, none⟩ (uv ans)) (.cells #[uv q.1, .slice qa q.2.length qc, uv ans] 49)
        rw [hz] at hnb
        have hrd := RdC.block (n := 1) hnb (by unfold maxLen; omega)
        have hAl : A.length ≤ 10 := by have := HPL.out; have := HLEN.out; have := HF.out.lenp; omega
        have HT := hid ht
        have HA := hid ha
        have HRD := hid hrd
        have HAL := hid hAl
        have HZ := hid hz
        clear o1 x1 x2 q1 q2 q3 q4 a1 a2 a3 ht hs hz ha hnb hrd hAl
        go_wp2_with (at_builtin; refine wpList_app rfl _ _ 62 rfl 49 j0 (.agg #[.int .u64 0, .slice none 0 0, .int .u64 0]) 3 40 (by kernel_rfl) HJ.out HY0.out HY1.out HY2.out rfl (by decide) (.slice aa A.length ac) A.length (qCells A) rfl HA.out (.slice (some ⟨w2.heap.size, 0, none⟩) 1 1) 1 [uv q.1, .slice qa q.2.length qc, uv ans] rfl HRD.out rfl (by intro u hu; simp only [List.mem_cons, List.not_mem_nil, or_false] at hu; rcases hu with rfl | rfl | rfl <;> rfl) (by have := HAL.out; unfold maxLen; omega) (by have := HAL.out; omega) ?_)
        intro v3 w3 hown3 hk3 hb3
        have hG := HF.out.more (ans := ans) HT.out (by simpa using hown3) hk3 (by simpa [World.setCell] using hb3)
        have HG := hid hG
        clear hown3 hk3 hb3 hG
        have hpc : w3.cell? ⟨xb, 2, none⟩ = some (.slice pa x.path.length pc) := cell_of HG.out.xbox 2
        have hpp := HP.out w3 HG.out.orc.kp
        obtain ⟨pb, po, rfl, hpp2⟩ := hpp.uat HPX.out
        have hx4 := (Ext.refl w3).alloc (.cells #[uv ans, uv p] 28)
        have hb4 := heap_new w3 (.cells #[uv ans, uv p] 28)
        have hq4 := hx4.heap_some HG.out.qbox
        have HX4 := hid hx4
        have HB4 := hid hb4
        have HQ4 := hid hq4
        have hf4 := frozen_of HQ4.out
        have k0 : (w3.alloc (.cells #[uv ans, uv p] 28)).cell? ⟨w1.heap.size, 0, none⟩ = some (uv q.1) := cell_of HQ4.out 0
        have k1 : (w3.alloc (.cells #[uv ans, uv p] 28)).cell? ⟨w1.heap.size, 1, none⟩ = some (.slice qa q.2.length qc) := cell_of HQ4.out 1
        have k2 : (w3.alloc (.cells #[uv ans, uv p] 28)).cell? ⟨w1.heap.size, 2, none⟩ = some (uv ans) := cell_of HQ4.out 2
        have hg0 : (w3.alloc (.cells #[uv ans, uv p] 28)).cell? ⟨w3.heap.size, 0, none⟩ = some (uv ans) := cell_of hb4 0
        have hg1 : (w3.alloc (.cells #[uv ans, uv p] 28)).cell? ⟨w3.heap.size, 1, none⟩ = some (uv p) := cell_of hb4 1
        have hgf := frozen_of hb4
        have hbit := bit_at i step HI.out (by have := HPL.out; omega)
        have hbit2 : (bits .and .i64 ((i : Int) / 2 ^ step) 1 == 1) = decide (i / 2 ^ step % 2 = 1) := by rw [← hbit, Nat.min_eq_left (by have := HPL.out; omega)]
        have hne : w1.heap.size ≠ w3.heap.size := by have := heap_lt HG.out.qbox; omega
        have hgo : folF peekF (x.path.drop step) (i / 2 ^ step) M' q = pre [⟨q.1, q.2, ans⟩] (folF peekF (x.path.drop (step + 1)) (i / 2 ^ (step + 1)) M2 (17, pairOf (i / 2 ^ step) ans p)) := by
          have hd : x.path.drop step = p :: x.path.drop (step + 1) := by
            obtain ⟨hlt, he⟩ := List.getElem?_eq_some_iff.1 HPX.out
            rw [List.drop_eq_getElem_cons hlt, he]
          rw [hd]
          have h1 := folF_go (f := peekF) (p := p) (r := x.path.drop (step + 1)) (i := i / 2 ^ step) (M := M') (q := q) (by rw [← HR2.out])
          rw [h1, ← HR2.out, half_pow]
        have hnx : M.fol peekF i x = pre ((A ++ [((⟨q.1, q.2, ans⟩ : Qn), Value.slice qa q.2.length qc)]).map (·.1)) (folF peekF (x.path.drop (step + 1)) (i / 2 ^ (step + 1)) M2 (17, pairOf (i / 2 ^ step) ans p)) := by
          rw [← HR.out, HSP.out, hgo, pre_pre]; simp
        have hlen2 : (A ++ [((⟨q.1, q.2, ans⟩ : Qn), Value.slice qa q.2.length qc)]).length = step + 1 := by have := HLEN.out; simp; omega
        have hq2 : M2.qs.length ≤ M.qs.length + (step + 1) := by have h1 := HF.out.qs; have h2 := peekF_qs M' q.1 q.2; rw [← HR2.out] at h2; simp only at h2; omega
        have hd2 : M2.draws ≤ M.draws + (step + 1) := by have h1 := HF.out.draws; have h2 := peekF_draws M' q.1 q.2; rw [← HR2.out] at h2; simp only at h2; omega
        have HNX := hid hnx
        have HLEN2 := hid hlen2
        have HQ2 := hid hq2
        have HD2 := hid hd2
        clear hpp hx4 hb4 hq4 hgo hnx hlen2 hq2 hd2
        by_cases hpar : i / 2 ^ step % 2 = 1
        · rw [decide_eq_true hpar] at hbit hbit2
          have hpo : pairOf (i / 2 ^ step) ans p = [p, ans] := by unfold pairOf; rw [if_pos hpar]
          have HPO := hid hpo
          clear hpar hpo
          have hx5 := ((Ext.refl w3).alloc (.cells #[uv p, uv ans] 28)).drew
          have hb5 := (Ext.refl (w3.alloc (.cells #[uv p, uv ans] 28))).drew.heap_some (heap_new w3 (.cells #[uv p, uv ans] 28))
          have hq5 := ((Ext.refl w3).alloc (.cells #[uv p, uv ans] 28)).heap_some HG.out.qbox
          have m0 : (w3.alloc (.cells #[uv p, uv ans] 28)).cell? ⟨w1.heap.size, 0, none⟩ = some (uv q.1) := cell_of hq5 0
          have m1 : (w3.alloc (.cells #[uv p, uv ans] 28)).cell? ⟨w1.heap.size, 1, none⟩ = some (.slice qa q.2.length qc) := cell_of hq5 1
          have m2 : (w3.alloc (.cells #[uv p, uv ans] 28)).cell? ⟨w1.heap.size, 2, none⟩ = some (uv ans) := cell_of hq5 2
          have mf := frozen_of hq5
          have HX5 := hid hx5
          have HB5 := hid hb5
          clear hx5 hb5 hq5
          go_wp2_with fail
          go_region
          all_goals go_wp2_with fail
          all_goals go_roundw
          case rel =>
            have hfin := HG.out.next (f := peekF) (M0 := M) (i0 := i) (step := step + 1) (l := [p, ans]) HX5.out (Nat.le_refl _) HB5.out rfl rfl (by rw [← HPO.out]; exact HNX.out) HLEN2.out HST.out HQ2.out HD2.out _ rfl rfl
            exact ⟨F'', M2, (17, [p, ans]), _, _, _, step + 1, by go_num, hid hfin⟩
          case measure => have := HST.out; simp [intOf]; omega
        · rw [decide_eq_false hpar] at hbit hbit2
          have hpo : pairOf (i / 2 ^ step) ans p = [ans, p] := by unfold pairOf; rw [if_neg hpar]
          have HPO := hid hpo
          clear hpar hpo
          go_wp2_with fail
          go_roundw
          case rel =>
            have hfin := HG.out.next (f := peekF) (M0 := M) (i0 := i) (step := step + 1) (l := [ans, p]) HX4.out (Nat.le_refl _) HB4.out rfl rfl (by rw [← HPO.out]; exact HNX.out) HLEN2.out HST.out HQ2.out HD2.out _ rfl rfl
            exact ⟨F'', M2, (17, [ans, p]), _, _, _, step + 1, by go_num, hid hfin⟩
          case measure => have := HST.out; simp [intOf]; omega

set_option maxRecDepth 100000 in
set_option maxHeartbeats 6400000 in
theorem follow_hash {bn : Nat} {w : World} {b : Nat} {M : Orc} {F : Nat → Prop} {root : UInt64} {i : Nat} {lf pv : Value} {x : Opn} (h : OrcAt w b M F) (hbx : BoxAt bn b w F) (hl : Stays F w fun v => RdU' v lf x.leaf) (hp : Stays F w fun v => RdU' v pv x.path)
    (hpl : x.path.length ≤ 10) (hi : i ≤ 1024) (hL : x.leaf.length ≤ 1000000000) (hq : M.qs.length ≤ 100000000) (hd : M.draws ≤ 100000000) :
    Calls Try.prog 76 #[.func (.func 73) #[] #[.pointer (some ⟨bn, 0, none⟩)], uv root, .int .i64 i, .agg #[lf, uv x.salt, pv]] w (FolO w b F root (M.fol hashF i x)) := by
  obtain ⟨la, lc, rfl, -⟩ := id (hl w (Kp.refl F w))
  obtain ⟨pa, pc, rfl, -⟩ := id (hp w (Kp.refl F w))
  obtain ⟨wa, hwa⟩ : ∃ wa, wa = w.alloc (.cells #[.slice la x.leaf.length lc, uv x.salt, .slice pa x.path.length pc] 59) := ⟨_, rfl⟩
  have hxa : Ext w wa := by rw [hwa]; exact (Ext.refl w).alloc _
  have hba : wa.heap[w.heap.size]? = some (.cells #[.slice la x.leaf.length lc, uv x.salt, .slice pa x.path.length pc] 59 (0, 0)) := by rw [hwa]; exact heap_new w _
  have hsz : wa.heap.size = w.heap.size + 1 := by rw [hwa]; simp
  obtain ⟨xb, hxb⟩ : ∃ xb, xb = w.heap.size := ⟨_, rfl⟩
  have HWA := hid hwa
  have HXA := hid hxa
  have HSA := hid (salted_any _ x.salt x.leaf wa (hl wa (Kp.of_ext hxa)) (by omega))
  rw [← hxb] at hba
  have HBA := hid hba
  have HSZ := hid hsz
  have HXB := hid hxb
  have HH := hid h
  have HBX := hid hbx
  have HP := hid hp
  have HPL := hid hpl
  have HI := hid hi
  have HQ := hid hq
  have HD := hid hd
  have HL := hid hL
  have hspec0 : M.fol hashF i x = pre (([] : List (Qn × Value)).map (·.1)) (folF hashF (x.path.drop 0) (i / 2 ^ 0) M (16, x.salt :: x.leaf)) := by
    rw [List.map_nil, pre_nil, List.drop_zero, Nat.pow_zero, Nat.div_one]; rfl
  have HSPEC := hid hspec0
  obtain ⟨R, hR⟩ : ∃ R, R = M.fol hashF i x := ⟨_, rfl⟩
  have HR := hid hR
  rw [← hR]
  clear hwa hl hxa hba hsz h hbx hp hpl hq hd hL hi hspec0 hR
  go_enter Try.func76, Try.ntmps76
  go_wp2_with fail
  clear hxb
  rw [← HWA.out]
  refine HSA.out.mono ?_
  rintro e w1 ⟨v, rfl, hown, hx1, hfr⟩
  obtain ⟨va, vc, rfl, -⟩ := ownsRow_rd hown
  have HOWN := hid hown
  have HX1 := hid hx1
  have HFR := hid hfr
  clear hown hx1 hfr
  go_wp2_with fail
  rw [← HXB.out]
  go_loopw [11, 12] (fun av sv wr => ∃ (F' : Nat → Prop) (M' : Orc) (q : UInt64 × List UInt64) (qv old : Value) (A : List (Qn × Value)) (step : Nat), sv = .int .i64 step ∧ Hid (FInv w wr b F hashF M i x (.slice la x.leaf.length lc) (.slice pa x.path.length pc) xb w1.heap.size F' M' q qv old av A step) ∧ Hid (BoxAt bn b wr F')) (fun _ sv _ => x.path.length + 1 - (intOf sv).toNat)
  case atStart =>
    have hxw1 := HXA.out.trans HX1.out
    have hz1 := HX1.out.size
    have hsz := HSZ.out
    have hxb := HXB.out
    have hxal := (Ext.refl w1).alloc (.cells #[.int .u64 16, .slice va (x.leaf.length + 1) vc, .int .u64 0] 49)
    have hfl := HH.out.foot_lt
    refine ⟨F, M, (16, x.salt :: x.leaf), .slice va (x.leaf.length + 1) vc, .int .u64 0, [], 0, rfl, hid ?_, hid ⟨((hxw1.trans hxal).heap_some HBX.out.1), HBX.out.2⟩⟩
    exact {
      orc := .of_ext HH.out (hxw1.trans hxal)
      xbox := hxal.heap_some (HX1.out.heap_some HBA.out)
      xF := fun hf => by have := hfl _ hf; omega
      qbox := heap_new w1 _
      qF := fun hf => by have := hfl _ hf; omega
      q0 := by omega
      qown := ownsRow_ext HOWN.out hxal
      qno := fun k hk => by
        have h1 := HFR.out k hk
        exact ⟨fun hf => by have := hfl _ hf; omega, by omega⟩
      aown := World.ownsRow_nil _ _ _ _
      ano := fun k hk => by cases hk
      aels := fun y hy => by cases hy
      spec := HSPEC.out
      len := rfl
      lenp := Nat.zero_le _
      lenq := by have := HL.out; simp; omega
      qs := Nat.le_refl _
      draws := Nat.le_refl _ }
  case round =>
    obtain ⟨F', M', q, qv, old, A, step, rfl, HF, HBR⟩ := hrel
    obtain ⟨qa, qc, rfl, -⟩ := ownsRow_rd HF.out.qown
    obtain ⟨aa, ac, hae, -⟩ := ownsRow_rd HF.out.aown
    subst hae
    have hq0 : wr.cell? ⟨w1.heap.size, 0, none⟩ = some (uv q.1) := cell_of HF.out.qbox 0
    have hq1 : wr.cell? ⟨w1.heap.size, 1, none⟩ = some (.slice qa q.2.length qc) := cell_of HF.out.qbox 1
    have hlen := HF.out.len
    have hlp := HF.out.lenp
    have hqs := HF.out.qs
    have hds := HF.out.draws
    have HASK := hid (ask_hash (label := q.1) HF.out.orc.at' HBR.out HF.out.qown.rdu (fun k hk => (HF.out.qno k hk).1) (by have := HF.out.lenq; omega) (by have := HQ.out; have := HPL.out; omega) (by have := HD.out; have := HPL.out; omega))
    obtain ⟨r, hr⟩ : ∃ r, r = hashF M' q.1 q.2 := ⟨_, rfl⟩
    have HR2 := hid hr
    unfold AskO at HASK
    rw [← hr] at HASK
    obtain ⟨⟨ans, ok⟩, M2⟩ := r
    simp only at HASK
    have hspec := HF.out.spec
    rw [← HR.out] at hspec
    have HSP := hid hspec
    clear hr hspec
    cases ok with
    | false =>
      clear hqs hds hlen hlp
      go_wp2_with fail
      refine HASK.out.mono ?_
      rintro e w2 ⟨rfl, F'', ht⟩
      have HT := hid ht
      clear ht
      go_wp2_with fail
      go_ret2
      have hno : folF hashF (x.path.drop step) (i / 2 ^ step) M' q = (none, M2) := by
        have h1 := folF_no (f := hashF) (l := x.path.drop step) (i := i / 2 ^ step) (M := M') (q := q) (by rw [← HR2.out])
        rw [h1, ← HR2.out]
      have hRR := HSP.out
      rw [hno, pre_none] at hRR
      subst hRR
      exact ⟨.slice none 0 0, [], F'', rfl, HF.out.orc.trans HT.out, World.ownsRow_nil _ _ _ _, (fun k hk => by cases hk), (fun y hy => by cases hy), rfl⟩
    | true =>
      obtain ⟨j0, hj1, hy0, hy1, hy2⟩ := info_parts Try.infoQ
      have HJ := hid hj1
      have HY0 := hid hy0
      have HY1 := hid hy1
      have HY2 := hid hy2
      clear hj1 hy0 hy1 hy2 hqs hds
      by_cases hend : step = x.path.length
      · have hpq : ((step : Int) == (x.path.length : Int)) = true := by simp [hend]
        have HEND := hid hend
        have HLEN := hid hlen
        clear hend hlen
        go_wp2_with fail
        refine HASK.out.mono ?_
        rintro e w2 ⟨rfl, F'', ht⟩
        obtain ⟨o1, x1, x2, q1, q2, q3, q4, a1, a2, a3⟩ := HF.out.asked ht
        have hc0 : w2.cell? ⟨w1.heap.size, 0, none⟩ = some (uv q.1) := cell_of q1 0
        have hc1 : w2.cell? ⟨w1.heap.size, 1, none⟩ = some (.slice qa q.2.length qc) := cell_of q1 1
        have hc2 : w2.cell? ⟨w1.heap.size, 2, none⟩ = some old := cell_of q1 2
        have hcf := frozen_of q1
        have hs : Kp (fun k => k = w1.heap.size) w2 (w2.setCell ⟨w1.heap.size, 2, none⟩ (uv ans)) := (Kp.refl (fun k => k = w1.heap.size) w2).setCell (p := ⟨w1.heap.size, 2, none⟩) (.inl rfl) _
        have hz : (w2.setCell ⟨w1.heap.size, 2, none⟩ (uv ans)).heap.size = w2.heap.size := by simp [World.setCell]
        have ha := ownsRow_ext (ownsRow_kp a1 hs (by rintro k hk rfl; exact (a2 _ hk).2.2 rfl)) ((Ext.refl (w2.setCell ⟨w1.heap.size, 2, none⟩ (uv ans))).alloc (.cells #[uv q.1, .slice qa q.2.length qc, uv ans] 49))
        have hnb := heap_new (w2.setCell ⟨w1.heap.size, 2, none⟩ (uv ans)) (.cells #[uv q.1, .slice qa q.2.length qc, uv ans] 49)
        rw [hz] at hnb
        have hrd := RdC.block (n := 1) hnb (by unfold maxLen; omega)
        have hAl : A.length ≤ 10 := by have := HPL.out; have := HLEN.out; have := HF.out.lenp; omega
        have HT := hid ht
        have HA := hid ha
        have HRD := hid hrd
        have HAL := hid hAl
        have HZ := hid hz
        clear o1 x1 x2 q1 q2 q3 q4 a1 a2 a3 ht hs hz ha hnb hrd hAl
        go_wp2_with (at_builtin; refine wpList_app rfl _ _ 62 rfl 49 j0 (.agg #[.int .u64 0, .slice none 0 0, .int .u64 0]) 3 40 (by kernel_rfl) HJ.out HY0.out HY1.out HY2.out rfl (by decide) (.slice aa A.length ac) A.length (qCells A) rfl HA.out (.slice (some ⟨w2.heap.size, 0, none⟩) 1 1) 1 [uv q.1, .slice qa q.2.length qc, uv ans] rfl HRD.out rfl (by intro u hu; simp only [List.mem_cons, List.not_mem_nil, or_false] at hu; rcases hu with rfl | rfl | rfl <;> rfl) (by have := HAL.out; unfold maxLen; omega) (by have := HAL.out; omega) ?_)
        intro v3 w3 hown3 hk3 hb3
        have hG := HF.out.more (ans := ans) HT.out (by simpa using hown3) hk3 (by simpa [World.setCell] using hb3)
        have HG := hid hG
        have HBG := hid (HBR.out.more HF.out HT.out hk3)
        clear hown3 hk3 hb3 hG
        have hpc : w3.cell? ⟨xb, 2, none⟩ = some (.slice pa x.path.length pc) := cell_of HG.out.xbox 2
        go_wp2_with fail
        go_ret2
        have hdrop : x.path.drop step = [] := List.drop_eq_nil_of_le (by have := HEND.out; omega)
        have hyes : folF hashF (x.path.drop step) (i / 2 ^ step) M' q = (some [⟨q.1, q.2, ans⟩], M2) := by
          rw [hdrop]
          have h1 := folF_end (f := hashF) (i := i / 2 ^ step) (M := M') (q := q) (by rw [← HR2.out])
          rw [h1, ← HR2.out]
        have hRR := HSP.out
        rw [hyes, pre_some] at hRR
        subst hRR
        exact ⟨v3, A ++ [(⟨q.1, q.2, ans⟩, .slice qa q.2.length qc)], F'', by rw [show folOk (some (A.map (·.1) ++ [⟨q.1, q.2, ans⟩]), M2) root = ((ans.toNat : Int) == (root.toNat : Int)) from by simp only [folOk, Option.map_some, Option.getD_some, lastA_snoc]; rw [← u_eqv]]; rfl, HG.out.orc, HG.out.aown, fun k hk => ⟨(HG.out.ano k hk).1, (HG.out.ano k hk).2.1⟩, HG.out.aels, by simp⟩
      · have hpq : ((step : Int) == (x.path.length : Int)) = false := by simp; omega
        have hst : step < x.path.length := by omega
        have HST := hid hst
        have hst2 : (step : Int) ≤ 10 := by have := HPL.out; omega
        have hst0 : (0 : Int) ≤ (step : Int) := by omega
        have hst1 : (step : Int) < (x.path.length : Int) := by omega
        obtain ⟨p, hpx⟩ : ∃ p, x.path[step]? = some p := ⟨_, List.getElem?_eq_getElem hst⟩
        have HPX := hid hpx
        clear hpx
        have HEND := hid hend
        have HLEN := hid hlen
        clear hend hlen
        go_wp2_with fail
        refine HASK.out.mono ?_
        rintro e w2 ⟨rfl, F'', ht⟩
        obtain ⟨o1, x1, x2, q1, q2, q3, q4, a1, a2, a3⟩ := HF.out.asked ht
        have hc0 : w2.cell? ⟨w1.heap.size, 0, none⟩ = some (uv q.1) := cell_of q1 0
        have hc1 : w2.cell? ⟨w1.heap.size, 1, none⟩ = some (.slice qa q.2.length qc) := cell_of q1 1
        have hc2 : w2.cell? ⟨w1.heap.size, 2, none⟩ = some old := cell_of q1 2
        have hcf := frozen_of q1
        have hs : Kp (fun k => k = w1.heap.size) w2 (w2.setCell ⟨w1.heap.size, 2, none⟩ (uv ans)) := (Kp.refl (fun k => k = w1.heap.size) w2).setCell (p := ⟨w1.heap.size, 2, none⟩) (.inl rfl) _
        have hz : (w2.setCell ⟨w1.heap.size, 2, none⟩ (uv ans)).heap.size = w2.heap.size := by simp [World.setCell]
        have ha := ownsRow_ext (ownsRow_kp a1 hs (by rintro k hk rfl; exact (a2 _ hk).2.2 rfl)) ((Ext.refl (w2.setCell ⟨w1.heap.size, 2, none⟩ (uv ans))).alloc (.cells #[uv q.1, .slice qa q.2.length qc, uv ans] 49))
        have hnb := heap_new (w2.setCell ⟨w1.heap.size, 2, none⟩ (uv ans)) (.cells #[uv q.1, .slice qa q.2.length qc, uv ans] 49)
        rw [hz] at hnb
        have hrd := RdC.block (n := 1) hnb (by unfold maxLen; omega)
        have hAl : A.length ≤ 10 := by have := HPL.out; have := HLEN.out; have := HF.out.lenp; omega
        have HT := hid ht
        have HA := hid ha
        have HRD := hid hrd
        have HAL := hid hAl
        have HZ := hid hz
        clear o1 x1 x2 q1 q2 q3 q4 a1 a2 a3 ht hs hz ha hnb hrd hAl
        go_wp2_with (at_builtin; refine wpList_app rfl _ _ 62 rfl 49 j0 (.agg #[.int .u64 0, .slice none 0 0, .int .u64 0]) 3 40 (by kernel_rfl) HJ.out HY0.out HY1.out HY2.out rfl (by decide) (.slice aa A.length ac) A.length (qCells A) rfl HA.out (.slice (some ⟨w2.heap.size, 0, none⟩) 1 1) 1 [uv q.1, .slice qa q.2.length qc, uv ans] rfl HRD.out rfl (by intro u hu; simp only [List.mem_cons, List.not_mem_nil, or_false] at hu; rcases hu with rfl | rfl | rfl <;> rfl) (by have := HAL.out; unfold maxLen; omega) (by have := HAL.out; omega) ?_)
        intro v3 w3 hown3 hk3 hb3
        have hG := HF.out.more (ans := ans) HT.out (by simpa using hown3) hk3 (by simpa [World.setCell] using hb3)
        have HG := hid hG
        have HBG := hid (HBR.out.more HF.out HT.out hk3)
        clear hown3 hk3 hb3 hG
        have hpc : w3.cell? ⟨xb, 2, none⟩ = some (.slice pa x.path.length pc) := cell_of HG.out.xbox 2
        have hpp := HP.out w3 HG.out.orc.kp
        obtain ⟨pb, po, rfl, hpp2⟩ := hpp.uat HPX.out
        have hx4 := (Ext.refl w3).alloc (.cells #[uv ans, uv p] 28)
        have hb4 := heap_new w3 (.cells #[uv ans, uv p] 28)
        have hq4 := hx4.heap_some HG.out.qbox
        have HX4 := hid hx4
        have HB4 := hid hb4
        have HQ4 := hid hq4
        have hf4 := frozen_of HQ4.out
        have k0 : (w3.alloc (.cells #[uv ans, uv p] 28)).cell? ⟨w1.heap.size, 0, none⟩ = some (uv q.1) := cell_of HQ4.out 0
        have k1 : (w3.alloc (.cells #[uv ans, uv p] 28)).cell? ⟨w1.heap.size, 1, none⟩ = some (.slice qa q.2.length qc) := cell_of HQ4.out 1
        have k2 : (w3.alloc (.cells #[uv ans, uv p] 28)).cell? ⟨w1.heap.size, 2, none⟩ = some (uv ans) := cell_of HQ4.out 2
        have hg0 : (w3.alloc (.cells #[uv ans, uv p] 28)).cell? ⟨w3.heap.size, 0, none⟩ = some (uv ans) := cell_of hb4 0
        have hg1 : (w3.alloc (.cells #[uv ans, uv p] 28)).cell? ⟨w3.heap.size, 1, none⟩ = some (uv p) := cell_of hb4 1
        have hgf := frozen_of hb4
        have hbit := bit_at i step HI.out (by have := HPL.out; omega)
        have hbit2 : (bits .and .i64 ((i : Int) / 2 ^ step) 1 == 1) = decide (i / 2 ^ step % 2 = 1) := by rw [← hbit, Nat.min_eq_left (by have := HPL.out; omega)]
        have hne : w1.heap.size ≠ w3.heap.size := by have := heap_lt HG.out.qbox; omega
        have hgo : folF hashF (x.path.drop step) (i / 2 ^ step) M' q = pre [⟨q.1, q.2, ans⟩] (folF hashF (x.path.drop (step + 1)) (i / 2 ^ (step + 1)) M2 (17, pairOf (i / 2 ^ step) ans p)) := by
          have hd : x.path.drop step = p :: x.path.drop (step + 1) := by
            obtain ⟨hlt, he⟩ := List.getElem?_eq_some_iff.1 HPX.out
            rw [List.drop_eq_getElem_cons hlt, he]
          rw [hd]
          have h1 := folF_go (f := hashF) (p := p) (r := x.path.drop (step + 1)) (i := i / 2 ^ step) (M := M') (q := q) (by rw [← HR2.out])
          rw [h1, ← HR2.out, half_pow]
        have hnx : M.fol hashF i x = pre ((A ++ [((⟨q.1, q.2, ans⟩ : Qn), Value.slice qa q.2.length qc)]).map (·.1)) (folF hashF (x.path.drop (step + 1)) (i / 2 ^ (step + 1)) M2 (17, pairOf (i / 2 ^ step) ans p)) := by
          rw [← HR.out, HSP.out, hgo, pre_pre]; simp
        have hlen2 : (A ++ [((⟨q.1, q.2, ans⟩ : Qn), Value.slice qa q.2.length qc)]).length = step + 1 := by have := HLEN.out; simp; omega
        have hq2 : M2.qs.length ≤ M.qs.length + (step + 1) := by have h1 := HF.out.qs; have h2 := hashF_qs M' q.1 q.2; rw [← HR2.out] at h2; simp only at h2; omega
        have hd2 : M2.draws ≤ M.draws + (step + 1) := by have h1 := HF.out.draws; have h2 := hashF_draws M' q.1 q.2; rw [← HR2.out] at h2; simp only at h2; omega
        have HNX := hid hnx
        have HLEN2 := hid hlen2
        have HQ2 := hid hq2
        have HD2 := hid hd2
        clear hpp hx4 hb4 hq4 hgo hnx hlen2 hq2 hd2
        by_cases hpar : i / 2 ^ step % 2 = 1
        · rw [decide_eq_true hpar] at hbit hbit2
          have hpo : pairOf (i / 2 ^ step) ans p = [p, ans] := by unfold pairOf; rw [if_pos hpar]
          have HPO := hid hpo
          clear hpar hpo
          have hx5 := ((Ext.refl w3).alloc (.cells #[uv p, uv ans] 28)).drew
          have hb5 := (Ext.refl (w3.alloc (.cells #[uv p, uv ans] 28))).drew.heap_some (heap_new w3 (.cells #[uv p, uv ans] 28))
          have hq5 := ((Ext.refl w3).alloc (.cells #[uv p, uv ans] 28)).heap_some HG.out.qbox
          have m0 : (w3.alloc (.cells #[uv p, uv ans] 28)).cell? ⟨w1.heap.size, 0, none⟩ = some (uv q.1) := cell_of hq5 0
          have m1 : (w3.alloc (.cells #[uv p, uv ans] 28)).cell? ⟨w1.heap.size, 1, none⟩ = some (.slice qa q.2.length qc) := cell_of hq5 1
          have m2 : (w3.alloc (.cells #[uv p, uv ans] 28)).cell? ⟨w1.heap.size, 2, none⟩ = some (uv ans) := cell_of hq5 2
          have mf := frozen_of hq5
          have HX5 := hid hx5
          have HB5 := hid hb5
          clear hx5 hb5 hq5
          go_wp2_with fail
          go_region
          all_goals go_wp2_with fail
          all_goals go_roundw
          case rel =>
            have hfin := HG.out.next (f := hashF) (M0 := M) (i0 := i) (step := step + 1) (l := [p, ans]) HX5.out (Nat.le_refl _) HB5.out rfl rfl (by rw [← HPO.out]; exact HNX.out) HLEN2.out HST.out HQ2.out HD2.out _ rfl rfl
            exact ⟨F'', M2, (17, [p, ans]), _, _, _, step + 1, by go_num, hid hfin, hid (HBG.out.next HG.out.qbox ((Ext.refl w3).alloc _))⟩
          case measure => have := HST.out; simp [intOf]; omega
        · rw [decide_eq_false hpar] at hbit hbit2
          have hpo : pairOf (i / 2 ^ step) ans p = [ans, p] := by unfold pairOf; rw [if_neg hpar]
          have HPO := hid hpo
          clear hpar hpo
          go_wp2_with fail
          go_roundw
          case rel =>
            have hfin := HG.out.next (f := hashF) (M0 := M) (i0 := i) (step := step + 1) (l := [ans, p]) HX4.out (Nat.le_refl _) HB4.out rfl rfl (by rw [← HPO.out]; exact HNX.out) HLEN2.out HST.out HQ2.out HD2.out _ rfl rfl
            exact ⟨F'', M2, (17, [ans, p]), _, _, _, step + 1, by go_num, hid hfin, hid (HBG.out.next HG.out.qbox HX4.out)⟩
          case measure => have := HST.out; simp [intOf]; omega
end Go.Proofs.Ytdpgfjnpcjpdpaa
