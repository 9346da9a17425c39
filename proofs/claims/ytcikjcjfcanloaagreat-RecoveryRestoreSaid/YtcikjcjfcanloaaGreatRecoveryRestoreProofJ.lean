/- RecoveryRestore: the given statement, proved. -/
import Derived.Test.YtcikjcjfcanloaaGreatJr1
import Derived.Test.YtcikjcjfcanloaaGreatJr10
import Derived.Test.YtcikjcjfcanloaaGreatJr11
import Derived.Test.YtcikjcjfcanloaaGreatJr12
import Derived.Test.YtcikjcjfcanloaaGreatJr13
import Derived.Test.YtcikjcjfcanloaaGreatJr14
import Derived.Test.YtcikjcjfcanloaaGreatJr15
import Derived.Test.YtcikjcjfcanloaaGreatJr16
import Derived.Test.YtcikjcjfcanloaaGreatJr17
import Derived.Test.YtcikjcjfcanloaaGreatJr18
import Derived.Test.YtcikjcjfcanloaaGreatJr19
import Derived.Test.YtcikjcjfcanloaaGreatJr2
import Derived.Test.YtcikjcjfcanloaaGreatJr20
import Derived.Test.YtcikjcjfcanloaaGreatJr21
import Derived.Test.YtcikjcjfcanloaaGreatJr22
import Derived.Test.YtcikjcjfcanloaaGreatJr23
import Derived.Test.YtcikjcjfcanloaaGreatJr24
import Derived.Test.YtcikjcjfcanloaaGreatJr25
import Derived.Test.YtcikjcjfcanloaaGreatJr3
import Derived.Test.YtcikjcjfcanloaaGreatJr4
import Derived.Test.YtcikjcjfcanloaaGreatJr5
import Derived.Test.YtcikjcjfcanloaaGreatJr6
import Derived.Test.YtcikjcjfcanloaaGreatJr7
import Derived.Test.YtcikjcjfcanloaaGreatJr8
import Derived.Test.YtcikjcjfcanloaaGreatJr9
import Derived.Test.YtcikjcjfcanloaaGreatJt1
import Derived.Test.YtcikjcjfcanloaaGreatJt4
namespace Go.Proofs.YtcikjcjfcanloaaGreat.recoveryRestore
open Go.ChangeShapes Go.WideShapes Go.ChangeAt Go.RowKit Go.Joins
set_option maxRecDepth 100000 in
theorem contract (H : Type) (enc : TypeId × Value → H) (W : World) (base : Nat) (args : Array Value) (ds gs : List (DataW H)) (before : List MemPlace)
    (hval : ∀ (j : Nat) t v, Tryz.f12.params[j]? = some t → args[j]? = some v → Value.okWide Tryz.prog W .any base t v)
    (hW : DataW.Whole enc Tryz.prog Tryz.f12.params.toList Rows.recoveryRestoreSpec.vars false W args.toList ds gs before) :
    Calls Tryz.prog 12 args W fun e W' => ∃ v, e = .returned v ∧ Rows.recoveryRestoreSpec.post enc Tryz.prog Tryz.f12 false true false false W args v W' := by
  have hW' := hW
  obtain ⟨p, q, hA0, hV, rfl, hfz, hnd⟩ := hW
  have hA : DataW.TrodAll enc Tryz.prog W 0 (fun _ => true) true Tryz.f12.params.toList args.toList ds p := hA0
  rw [Tryz.params12] at hA hval
  obtain ⟨v0, vs0, d0, ds0, p0, q0, hargs, rfl, rfl, h0, r0⟩ := trodAll_cons hA
  obtain ⟨rfl, rfl, rfl⟩ := trodAll_nil r0
  obtain rfl : args = #[v0] := by cases args; simp_all
  obtain ⟨rfl, rfl⟩ := trodVars_none hV
  clear hA0
  simp only [List.append_nil] at hW'
  have hlt0 : ∀ x ∈ p0, x.block < W.heap.size := fun x hx => by simpa using hW'.lt x (by simp [hx])
  have fin : ∀ (e : Ending) (W' : World), (e = .returned (.bool true) ∧ Ext W W') → ∃ v, e = .returned v ∧ Rows.recoveryRestoreSpec.post enc Tryz.prog Tryz.f12 false true false false W #[v0] v W' := by
    rintro e W' ⟨rfl, hb⟩
    refine ⟨_, rfl, _, _, _, [], p0, [], hW', ?_, ?_, rfl, hb.frame _, fun h => by cases h⟩
    · exact trodAll_cons_mk (shut_bool Tryz.underlying4 _) trodAll_mk0
    · exact trodAll_mk1 (Below.trod laidOut (by kernel_rfl) (of_decide_eq_true (by kernel_rfl)) h0 hb hlt0)
  have hv0 := hval 0 83 v0 rfl rfl
  obtain ⟨d, s, lv, ls, rc, hc⟩ := open_case51 hv0 h0
  rw [rc] at fin ⊢
  exact (recoveryRestore_any d s lv ls W hc).mono fun e W' h => fin e W' h

set_option maxRecDepth 100000 in
theorem lifted (os : Os) (started : os.Started) (H : Type) (enc : TypeId × Value → H) :
    ReturnsInHanded {} Tryz.checked os 12 .any (Rows.recoveryRestoreSpec.pre6 enc Tryz.prog Tryz.f12 Rows.recoveryRestoreRow.domain false) (Rows.recoveryRestoreSpec.post enc Tryz.prog Tryz.f12 false true false false) := by
  refine returnsInHanded_of_change (C := Tryz.checked) own started (by kernel_rfl) Tryz.func12
    (ChangeSpec.witness6 (enc := enc) (C := Tryz.checked) false ⟨#[], #[.agg #[.int .i64 0, .int .u64 0, .slice none 0 0]], []⟩ 8 (by kernel_rfl) (by kernel_rfl) (by kernel_rfl) (by kernel_rfl)) ?_
  intro W base args ds gs before hval hW _ _
  exact contract H enc W base args ds gs before hval hW

set_option maxHeartbeats 12800000 in
theorem closed : joinedFacts Tryz.prog 12 Tryz.f12 Rows.recoveryRestoreSpec Rows.recoveryRestoreRow = true := by
  unfold joinedFacts
  simp only [Bool.and_eq_true]
  repeat' apply And.intro
  all_goals (as_aux_lemma => kernel_rfl)
theorem proved : Rows.RecoveryRestoreSaid :=
  OpenClaim.holds_of_wide 12 Tryz.f12 rfl rfl rfl rfl rfl rfl rfl ⟨rfl, rfl, rfl, rfl, rfl⟩ rfl rfl rfl rfl rfl (by kernel_rfl) Tryz.func12 closed
    (of_decide_eq_true (by kernel_rfl)) (by unfold Func.isWrapper; first | (rw [if_pos (by decide +kernel)]; kernel_rfl) | (rw [if_neg (by decide +kernel)]; exact ⟨rfl, rfl⟩))
    (fun os started H enc _ => lifted os started H enc)
end Go.Proofs.YtcikjcjfcanloaaGreat.recoveryRestore
