/- take of an ideal oracle: several draws. -/
import Derived.Test.YtgfmjfkdogcnhaaGreatAsk
set_option linter.unusedSimpArgs false
namespace Go.Proofs.YtgfmjfkdogcnhaaGreat
open Go.RowKit
attribute [local irreducible] perm fAdd fMul fPow fSub fNeg fRed drawOf nextState

def Orc.steps (M : Orc) : Nat → Orc
  | 0 => M
  | n + 1 => (M.steps n).step
theorem steps_qs (M : Orc) (n : Nat) : (M.steps n).qs = M.qs := by induction n with | zero => rfl | succ n ih => rw [Orc.steps, step_qs, ih]
theorem steps_ideal (M : Orc) (n : Nat) : (M.steps n).ideal = M.ideal := by induction n with | zero => rfl | succ n ih => rw [Orc.steps, step_ideal, ih]
theorem steps_seals (M : Orc) (n : Nat) : (M.steps n).seals = M.seals := by induction n with | zero => rfl | succ n ih => rw [Orc.steps, step_seals, ih]
theorem steps_proofs (M : Orc) (n : Nat) : (M.steps n).proofs = M.proofs := by induction n with | zero => rfl | succ n ih => rw [Orc.steps, step_proofs, ih]
theorem steps_draws (M : Orc) (n : Nat) : (M.steps n).draws = M.draws + n := by induction n with | zero => rfl | succ n ih => rw [Orc.steps, step_draws, ih]; omega
def takeL (M : Orc) (n : Nat) : List UInt64 := (List.range n).map fun i => drawOf (M.steps i).state
theorem takeL_length (M : Orc) (n : Nat) : (takeL M n).length = n := by simp [takeL]
theorem takeL_at {M : Orc} {n i : Nat} (h : i < n) : (takeL M n)[i]? = some (drawOf (M.steps i).state) := by
  simp [takeL, List.getElem?_range h]

def UPart (w : World) (g n i : Nat) (l : List UInt64) : Prop :=
  ∃ cur : Array Value, w.heap[g]? = some (.cells cur 22 (0, 0)) ∧ cur.size = n ∧ cur.toList.take i = us (l.take i)
theorem UPart.kp {F : Nat → Prop} {w w' : World} {g n i : Nat} {l : List UInt64} (h : UPart w g n i l) (k : Kp F w w') (hF : ¬ F g) : UPart w' g n i l := by
  obtain ⟨cur, h1, h2, h3⟩ := h
  exact ⟨cur, k.heap_some hF h1, h2, h3⟩
theorem take_set1 (l : List Value) (j : Nat) (a : Value) (h : j < l.length) : (l.set j a).take (j + 1) = l.take j ++ [a] := by
  rw [List.take_add_one, List.take_set_of_le (Nat.le_refl j), List.getElem?_set_self h]; rfl
theorem UPart.more {w : World} {g n i : Nat} {l : List UInt64} {x : UInt64} (h : UPart w g n i l) (hx : l[i]? = some x) (hi : i < n) : UPart (w.setCell ⟨g, i, none⟩ (uv x)) g n (i + 1) l := by
  obtain ⟨cur, h1, h2, h3⟩ := h
  refine ⟨_, heap_setCell_same h1 i _, by simpa using h2, ?_⟩
  simp only [Array.toList_setIfInBounds]
  rw [take_set1 _ _ _ (by rw [Array.length_toList, h2]; exact hi), h3, List.take_add_one, hx]
  simp
theorem UPart.own {w : World} {g n : Nat} {l : List UInt64} (h : UPart w g n n l) (hl : l.length = n) (hm : n ≤ maxLen) : OwnU w (.slice (some ⟨g, 0, none⟩) n n) l := by
  obtain ⟨cur, h1, h2, h3⟩ := h
  subst hl
  rw [List.take_length] at h3
  exact ⟨by simp, .inr ⟨g, l.length, cur, rfl, Nat.zero_le _, h1, Nat.le_refl _, hm, by omega, by rw [Nat.mul_one]; exact h3⟩⟩

def TakeO (w : World) (b : Nat) (M : Orc) (F : Nat → Prop) (n : Nat) (e : Ending) (w' : World) : Prop :=
  ∃ v, e = .returned v ∧ OwnU w' v (takeL M n) ∧ OrcTo w b F (M.steps n) w' F ∧ ∀ k, blk v = some k → w.heap.size ≤ k
theorem OrcAt.drew {w : World} {b : Nat} {M : Orc} {F : Nat → Prop} (h : OrcAt w b M F) (hI : M.ideal = true) (hn : M.draws ≤ 1000000000000) :
    Calls Tryz.prog 71 #[.pointer (some ⟨b, 0, none⟩)] w fun e w' => e = .returned (uv (drawOf M.state)) ∧ OrcAt w' b M.step F ∧ Kp (fun k => k = b) w w' := by
  obtain ⟨qv, mk, ms, mp, Q, S, hin⟩ := h
  have h0 := hin.self
  rw [hI] at h0
  refine (Draw_ideal h0 hn).mono ?_
  rintro e w' ⟨rfl, h1, h2⟩
  exact ⟨rfl, ⟨qv, mk, ms, mp, Q, S, hin.drawn (by rw [hI]; exact h1) h2⟩, h2⟩

set_option maxRecDepth 100000 in
set_option maxHeartbeats 1600000 in
theorem take_any {w : World} {b : Nat} {M : Orc} {F : Nat → Prop} {n : Nat} (h : OrcAt w b M F) (hI : M.ideal = true) (hn : n ≤ 1000000000) (hd : M.draws + n ≤ 1000000000000) :
    Calls Tryz.prog 82 #[.pointer (some ⟨b, 0, none⟩), .int .i64 (n : Int)] w (TakeO w b M F n) := by
  obtain ⟨i0, hi, hz0, hz1, hz2⟩ := info_parts Tryz.infoU
  have HH := hid h
  have HI := hid hI
  have HD := hid hd
  have hb1 : i0.bytes * n ≤ 281474976710656 := by rw [hz2]; omega
  have hb2 : n ≤ maxLen := by unfold maxLen; omega
  have B1 := hid hb1
  have B2 := hid hb2
  clear h hI hd hb1 hb2
  go_enter Tryz.func82, Tryz.ntmps82
  go_wp2_with (at_make; refine wpList_make_full _ rfl _ _ 26 rfl 0 22 i0 (.int .u64 0) 1 (by kernel_rfl) hi hz0 hz1 _ _ _ _ n rfl rfl rfl rfl B1.out B2.out (Nat.zero_le _) ?_)
  intro w1 hown0 hg
  have hx1 : Ext w w1 := (grown_kp hg).toExt (by intro k h; cases h)
  have hp0 : UPart w1 w.heap.size n 0 (takeL M n) := by
    rcases hown0.2 with ⟨h, _⟩ | ⟨g, cap, cur, h, _, h2, _, _, h3, _⟩
    · cases h
    · injection h with h h4 h5
      injection h with h
      injection h with h
      subst h
      exact ⟨cur, h2, by rw [h3, ← h5, Nat.mul_one], by simp⟩
  have HX1 := hid hx1
  have HP0 := hid hp0
  have hgF : Hid (¬ F w.heap.size) := hid fun hf => by have := HH.out.foot_lt _ hf; omega
  clear hown0 hg hp0 hx1 hi hz0 hz1 hz2 B1
  go_wp2
  go_loopw [11] (fun iv wr => ∃ i : Nat, i ≤ n ∧ iv = .int .i64 i ∧ Hid (UPart wr w.heap.size n i (takeL M n)) ∧ Hid (OrcAt wr b (M.steps i) F) ∧ Hid (Kp (fun k => F k ∨ k = w.heap.size) w1 wr)) (fun iv _ => (n - (intOf iv).toNat))
  case atStart => exact ⟨0, by omega, rfl, HP0, hid (HH.out.ext HX1.out), hid (Kp.refl _ _)⟩
  case round =>
    obtain ⟨i, hin, rfl, HP, HO, HK⟩ := hrel
    by_cases hlt : i < n
    · have hltB : decide ((i : Int) < (n : Int)) = true := by simp; omega
      have hi0 : (0 : Int) ≤ (i : Int) := Int.natCast_nonneg _
      have hil : (i : Int) < (n : Int) := by omega
      go_wp2_with fail
      refine (HO.out.drew (by rw [steps_ideal]; exact HI.out) (by rw [steps_draws]; have := HD.out; omega)).mono ?_
      rintro e w2 ⟨rfl, ho2, hk2⟩
      have hp2 := HP.out.kp hk2 (by intro h; exact hgF.out (h ▸ HH.out.self_in))
      obtain ⟨cur, hcur, hcs⟩ : ∃ cur : Array Value, w2.heap[w.heap.size]? = some (.cells cur 22 (0, 0)) ∧ cur.size = n := by
        obtain ⟨cur, g1, g2, -⟩ := hp2; exact ⟨cur, g1, g2⟩
      obtain ⟨u0, d0⟩ : ∃ u, w2.cell? ⟨w.heap.size, i, none⟩ = some u := ⟨_, (cell_of hcur i).trans (Array.getElem?_eq_getElem (by omega))⟩
      have hf2 := frozen_of hcur
      have HP2 := hid hp2
      have HO2 := hid ho2
      have HK2 := hid hk2
      clear hp2 ho2 hk2 hcur hcs
      generalize hx : drawOf (M.steps i).state = x at *
      have HXX := hid hx
      clear hx
      go_wp2_with fail
      go_roundw
      case rel =>
        have hkk : Kp (fun k => F k ∨ k = w.heap.size) w1 w2 := HK.out.trans (HK2.out.mono fun k _ h => .inl (h ▸ HH.out.self_in))
        refine ⟨i + 1, by omega, by go_num, hid (HP2.out.more ((takeL_at hlt).trans (by rw [HXX.out])) hlt), hid (HO2.out.kp ((Kp.refl (fun k => k = w.heap.size) w2).setCell (p := ⟨w.heap.size, i, none⟩) (.inl rfl) _) ?_), hid (hkk.setCell (.inl (.inr rfl)) _)⟩
        rintro k hk rfl
        exact hgF.out hk
      case measure => simp [intOf]; omega
    · have hin' : i = n := by omega
      have hltB : decide ((i : Int) < (n : Int)) = false := by simp; omega
      subst hin'
      go_wp2
      go_ret
      have hkw : Kp F w wr := by
        have h1 := (Kp.of_ext (F := F) HX1.out)
        refine ⟨HK.out.os.trans h1.os, HK.out.tape.trans h1.tape, HK.out.output.trans h1.output, Nat.le_trans h1.size HK.out.size, fun k hk hF => ?_⟩
        have h2 := HK.out.block k (Nat.lt_of_lt_of_le hk h1.size) (by rintro (h | h); exact hF h; omega)
        exact h2.trans (h1.block k hk hF)
      exact ⟨_, rfl, HP.out.own (takeL_length _ _) B2.out, ⟨HO.out, hkw, fun k hk => .inl hk, fun k hk => hk⟩, by intro k hk; cases hk; exact Nat.le_refl _⟩
end Go.Proofs.YtgfmjfkdogcnhaaGreat
