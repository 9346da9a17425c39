/- The plain law of OracleIsolated. -/
import Derived.Test.YtdkilbnocmnekaaSealI2
import Derived.Test.YtdkilbnocmnekaaProve
import Derived.Test.YtdkilbnocmnekaaPlainLaw
set_option linter.unusedSimpArgs false
namespace Go.Proofs.Ytdkilbnocmnekaa
open Go.RowKit
attribute [local irreducible] perm fAdd fMul fPow fSub fNeg fRed hashU drawOf nextState

theorem hash_ideal_at {M : Orc} {label : UInt64} {e : List UInt64} (hI : M.ideal = true) (hE : allE e = true) (hf : findQ M.qs label e = none) : M.hash label e = (drawOf M.state, M.step.add label e (drawOf M.state)) := by
  unfold Orc.hash
  rw [if_pos hE, hf]
  simp only [hI, if_true]
theorem add_seals (M : Orc) (label : UInt64) (l : List UInt64) (a : UInt64) : (M.add label l a).seals = M.seals := rfl
theorem addSeal_seals (M : Orc) (s : Sl) : (M.addSeal s).seals = M.seals ++ [s] := rfl
theorem addSeal_qs (M : Orc) (s : Sl) : (M.addSeal s).qs = M.qs := rfl
theorem addSeal_ideal (M : Orc) (s : Sl) : (M.addSeal s).ideal = M.ideal := rfl
theorem addSeal_draws (M : Orc) (s : Sl) : (M.addSeal s).draws = M.draws := rfl
theorem withProofs_seals (M : Orc) (p : List (UInt64 × List UInt64)) : (M.withProofs p).seals = M.seals := rfl
theorem withProofs_qs (M : Orc) (p : List (UInt64 × List UInt64)) : (M.withProofs p).qs = M.qs := rfl
theorem withProofs_ideal (M : Orc) (p : List (UInt64 × List UInt64)) : (M.withProofs p).ideal = M.ideal := rfl
theorem withProofs_proofs (M : Orc) (p : List (UInt64 × List UInt64)) : (M.withProofs p).proofs = p := rfl

structure Iso (M0 : Orc) (xl : UInt64) (x : List UInt64) (yl yn : UInt64) (y : List UInt64) (ans : UInt64) (M1 : Orc) (sl : List UInt64) (M2 : Orc) (pr : List UInt64) (M3 : Orc) : Prop where
  h1 : M0.hash xl x = (ans, M1)
  h2 : M1.sealI yl yn y = (sl, M2)
  h3 : M2.prove 9 3 = (pr, M3)
  i1 : M1.ideal = true
  i2 : M2.ideal = true
  i3 : M3.ideal = true
  d1 : M1.draws ≤ 1
  d2 : M2.draws ≤ 2 + y.length
  q3 : M3.qs.length = 1
  e3 : ∀ q ∈ M3.qs, q.elems = x
  s3 : ∀ s ∈ M3.seals, s.plain = y
  pk : M3.peek xl x = (ans, true)
  op : findS M3.seals yl yn sl = some ⟨yl, yn, sl, y⟩
  pv : provedIn M3.proofs 9 pr = true
  sll : sl.length = y.length + 1
  prl : pr.length = 3

theorem iso_law (seed xl : UInt64) (x : List UInt64) (yl yn : UInt64) (y : List UInt64) (hx : allE x = true) (hyl : decide (yl < big) = true) (hyn : decide (yn < big) = true) (hy : allE y = true) :
    ∃ ans M1 sl M2 pr M3, Iso (Orc.fresh true seed) xl x yl yn y ans M1 sl M2 pr M3 := by
  obtain ⟨M0, hM0⟩ : ∃ M0, M0 = Orc.fresh true seed := ⟨_, rfl⟩
  have f1 : M0.ideal = true := by rw [hM0]; rfl
  have f2 : M0.qs = [] := by rw [hM0]; rfl
  have f3 : M0.seals = [] := by rw [hM0]; rfl
  have f4 : M0.draws = 0 := by rw [hM0]; rfl
  rw [← hM0]
  clear hM0
  have h1 := hash_ideal_at (M := M0) (label := xl) f1 hx (by rw [f2]; rfl)
  obtain ⟨a, ha⟩ : ∃ a, a = drawOf M0.state := ⟨_, rfl⟩
  rw [← ha] at h1
  obtain ⟨M1, hM1⟩ : ∃ M1, M1 = M0.step.add xl x a := ⟨_, rfl⟩
  rw [← hM1] at h1
  have g1 : M1.ideal = true := by rw [hM1, add_ideal, step_ideal, f1]
  have g2 : M1.qs = [⟨xl, x, a⟩] := by rw [hM1, add_qs, step_qs, f2]; rfl
  have g3 : M1.seals = [] := by rw [hM1, add_seals, step_seals, f3]
  have g4 : M1.draws = 1 := by rw [hM1, add_draws, step_draws, f4]
  clear hM1 ha
  have h2 := sealI_new (M := M1) (key := yl) (nonce := yn) (plain := y) (by rw [hyl, hyn, hy]; rfl) (by rw [g3]; rfl)
  obtain ⟨sl, hsl⟩ : ∃ sl, sl = takeL M1 (y.length + 1) := ⟨_, rfl⟩
  have hsll : sl.length = y.length + 1 := by rw [hsl, takeL_length]
  rw [← hsl] at h2
  obtain ⟨M2, hM2⟩ : ∃ M2, M2 = (M1.steps (y.length + 1)).addSeal ⟨yl, yn, sl, y⟩ := ⟨_, rfl⟩
  rw [← hM2] at h2
  have k1 : M2.ideal = true := by rw [hM2, addSeal_ideal, steps_ideal, g1]
  have k2 : M2.qs = [⟨xl, x, a⟩] := by rw [hM2, addSeal_qs, steps_qs, g2]
  have k3 : M2.seals = [⟨yl, yn, sl, y⟩] := by rw [hM2, addSeal_seals, steps_seals, g3]; rfl
  have k4 : M2.draws = 1 + (y.length + 1) := by rw [hM2, addSeal_draws, steps_draws, g4]
  clear hM2 hsl
  have h3 : M2.prove 9 3 = (takeL M2 3, (M2.steps 3).withProofs (provedL M2.proofs 9 (takeL M2 3))) := rfl
  obtain ⟨pr, hpr⟩ : ∃ pr, pr = takeL M2 3 := ⟨_, rfl⟩
  have hprl : pr.length = 3 := by rw [hpr, takeL_length]
  rw [← hpr] at h3
  obtain ⟨M3, hM3⟩ : ∃ M3, M3 = (M2.steps 3).withProofs (provedL M2.proofs 9 pr) := ⟨_, rfl⟩
  rw [← hM3] at h3
  have l1 : M3.ideal = true := by rw [hM3, withProofs_ideal, steps_ideal, k1]
  have l2 : M3.qs = [⟨xl, x, a⟩] := by rw [hM3, withProofs_qs, steps_qs, k2]
  have l3 : M3.seals = [⟨yl, yn, sl, y⟩] := by rw [hM3, withProofs_seals, steps_seals, k3]
  have l4 : provedIn M3.proofs 9 pr = true := by rw [hM3, withProofs_proofs, provedL_in]
  clear hM3 hpr
  refine ⟨a, M1, sl, M2, pr, M3, ⟨h1, h2, h3, g1, k1, l1, by omega, by omega, by rw [l2]; rfl, by rw [l2]; simp, by rw [l3]; simp, ?_, ?_, l4, hsll, hprl⟩⟩
  · unfold Orc.peek
    rw [if_pos hx, l2]
    simp [findQ, answerAt, List.findIdx?_cons]
  · rw [l3]
    simp [findS, isSeal]
end Go.Proofs.Ytdkilbnocmnekaa
