/- The reference's Collision: the first two questions with the same answer. -/
import Derived.Test.YtdkilbnocmnekaaRefQ
import Derived.Test.YtdkilbnocmnekaaColl
set_option linter.unusedSimpArgs false
namespace Go.Proofs.Ytdkilbnocmnekaa
open Go.RowKit
attribute [local irreducible] perm fAdd fMul fPow fSub fNeg fRed

def CollR (w : World) (qs : List Qn) (e : Ending) (w' : World) : Prop := Ext w w' ∧
  ((∃ (i j : Nat) (a b : Qn), i < j ∧ qs[i]? = some a ∧ qs[j]? = some b ∧ a.answer = b.answer ∧ (∀ k, k < j → noColl qs k) ∧ e = .returned (.tuple #[.int .i64 i, .int .i64 j])) ∨
   ((∀ k, k < qs.length → noColl qs k) ∧ e = .returned (.tuple #[.int .i64 (-1), .int .i64 (-1)])))

theorem eqB_true {x y : UInt64} (h : ((x.toNat : Int) == (y.toNat : Int)) = true) : x = y := by rw [u_eqB] at h; simpa using h
set_option maxRecDepth 100000 in
set_option maxHeartbeats 1600000 in
theorem refCollision_any (qs : List Qn) (qv : Value) (w : World) (hq : RdQ w qv qs) (hL : qs.length ≤ 1000000000) :
    Calls Try.prog 18 #[qv] w (CollR w qs) := by
  obtain ⟨aa, ac, rfl, -⟩ := id hq
  have HA := hid hq
  obtain ⟨n, hn⟩ : ∃ n, n = qs.length := ⟨_, rfl⟩
  have HN := hid hn
  rw [← hn] at HA hL ⊢
  clear hq hn
  go_enter Try.func18, Try.ntmps18
  go_wp2_with fail
  go_loopw [4] (fun jv wr => ∃ j : Nat, j ≤ n ∧ jv = .int .i64 j ∧ Hid (∀ k, k < j → noColl qs k) ∧ Hid (Ext w wr)) (fun jv _ => (n - (intOf jv).toNat))
  case atStart => exact ⟨0, by omega, rfl, hid (fun k hk => by omega), hid (Ext.refl _)⟩
  case round =>
    obtain ⟨j, hj, rfl, HNC, HX⟩ := hrel
    by_cases hlt : j < n
    · have hltB : decide ((j : Int) < (n : Int)) = true := by simp; omega
      obtain ⟨b, hb⟩ : ∃ b, qs[j]? = some b := ⟨_, List.getElem?_eq_getElem (by have := HN.out; omega)⟩
      obtain ⟨ab, ao, u, rfl, -, -, e2, -⟩ := HA.out.at hb
      have HB := hid hb
      have HE2 := hid e2
      have hjl : (j : Int) < (n : Int) := by omega
      have hj0 : (0 : Int) ≤ (j : Int) := Int.natCast_nonneg _
      clear hb e2
      go_wp2_with fail
      go_loopw [5] (fun iv wv => ∃ i : Nat, i ≤ j ∧ iv = .int .i64 i ∧ Hid (∀ i', i' < i → ∀ a, qs[i']? = some a → a.answer ≠ b.answer) ∧ Hid (Ext w wv)) (fun iv _ => (j - (intOf iv).toNat))
      case atStart => exact ⟨0, by omega, rfl, hid (fun k hk => by omega), HX⟩
      case round =>
        obtain ⟨i, hi, rfl, HNI, HXI⟩ := hrel
        by_cases hlt2 : i < j
        · have hltB2 : decide ((i : Int) < (j : Int)) = true := by simp; omega
          obtain ⟨a, ha⟩ : ∃ a, qs[i]? = some a := ⟨_, List.getElem?_eq_getElem (by have := HN.out; omega)⟩
          obtain ⟨ab', ao', u', he, -, -, f2, -⟩ := HA.out.at ha
          injection he with he
          injection he with he1 he2
          subst he1 he2
          have HAA := hid ha
          have hil : (i : Int) < (n : Int) := by omega
          have hi0 : (0 : Int) ≤ (i : Int) := Int.natCast_nonneg _
          have H2 : Hid (∀ v, Ext w v → v.cell? ⟨ab, ao + i * 3 + 2, none⟩ = some (uv a.answer) ∧ v.cell? ⟨ab, ao + j * 3 + 2, none⟩ = some (uv b.answer)) := by
            have h1 := f2
            have h2 := HE2.out
            exact hid fun v k => ⟨k.cell_some h1, k.cell_some h2⟩
          clear ha f2
          go_wp2_with fail
          refine wp_region_T (fun v => (v.cell? ⟨ab, ao + i * 3 + 2, none⟩ = some (uv a.answer) ∧ v.cell? ⟨ab, ao + j * 3 + 2, none⟩ = some (uv b.answer)) ∧ Ext w v) 10 [(0, true), (1, true), (2, true), (3, true), (4, true), (5, true), (6, true), (7, true), (8, true), (9, true), (10, false)] (by kernel_rfl) (by kernel_rfl) (by intro c a d v w h; cases d <;> exact h) ?_
          intro ops hops
          have HS : _ ∧ Ext w wr.drew := ⟨H2.out _ HXI.out.drew, HXI.out.drew⟩
          iterate 10
            refine wpT_take (v := ?_) (by rw [hops, List.getElem?_toArray]; rfl) (by first | rfl | (rw [hops]; rfl)) ?_ HS ?_
            rotate_left
            · intro v h; go_simp; with_reducible rfl
            simp only [Act.put, List.getElem_toArray, List.getElem_cons_zero, List.getElem_cons_succ, List.setIfInBounds_toArray, List.set_cons_zero, List.set_cons_succ]
          rcases hab : ((a.answer.toNat : Int) == (b.answer.toNat : Int)) with _ | _
          · refine wpT_step (by rw [hops, List.getElem?_toArray]; rfl) (by first | rfl | (rw [hops]; rfl)) ?_
            intro K hK
            go_wp2_with fail
            refine ⟨fun h => absurd h (by decide), ?_⟩
            rw [wpT_nil]
            clear hops ops
            clear HS
            have HNE : Hid (a.answer ≠ b.answer) := hid (by rintro h; rw [h] at hab; simp at hab)
            clear hab
            go_wp2_with fail
            go_roundw
            case rel =>
              refine ⟨i + 1, by omega, by go_num, hid fun i' hi' x hx => ?_, hid HXI.out.drew⟩
              rcases Nat.lt_or_ge i' i with h1 | h1
              · exact HNI.out i' h1 x hx
              · obtain rfl : i' = i := by omega
                obtain rfl := Option.some.inj (HAA.out.symm.trans hx)
                exact HNE.out
            case measure => simp [intOf]; omega
          · refine wpT_step (by rw [hops, List.getElem?_toArray]; rfl) (by first | rfl | (rw [hops]; rfl)) ?_
            intro K hK
            go_wp2_with fail
            refine ⟨fun h => absurd h (by decide), ?_⟩
            rw [wpT_nil]
            clear hops ops
            clear HS
            have HEQ : Hid (a.answer = b.answer) := hid (eqB_true hab)
            clear hab
            go_wp2_with fail
            exact bodyPost_ret (v := .tuple #[.int .i64 i, .int .i64 j]) (by simp [results, Try.results18, go_sem]) rfl ⟨HXI.out.drew, .inl ⟨i, j, a, b, hlt2, HAA.out, HB.out, HEQ.out, HNC.out, rfl⟩⟩
        · have hij : i = j := by omega
          have hltB2 : decide ((i : Int) < (j : Int)) = false := by simp; omega
          go_wp2_with fail
          go_roundw
          case rel =>
            refine ⟨j + 1, by omega, by go_num, hid fun k hk => ?_, HXI⟩
            rcases Nat.lt_or_ge k j with h1 | h1
            · exact HNC.out k h1
            · obtain rfl : k = j := by omega
              intro i' hi' x y hx hy
              obtain rfl := Option.some.inj (HB.out.symm.trans hy)
              exact HNI.out i' (by omega) x hx
          case measure => simp [intOf]; omega
    · have hjn : j = n := by omega
      have hltB : decide ((j : Int) < (n : Int)) = false := by simp; omega
      go_wp2_with fail
      exact bodyPost_ret (v := .tuple #[.int .i64 (-1), .int .i64 (-1)]) (by simp [results, Try.results18, go_sem]) rfl ⟨HX.out, .inr ⟨fun k hk => HNC.out k (by have := HN.out; omega), rfl⟩⟩
end Go.Proofs.Ytdkilbnocmnekaa
