/- RecoveryHeight: the given statement, proved, for arguments of bulk at most 1048576. -/
import Derived.JoinedCond
import Derived.Test.YtcikjcjfcanloaaGreatJr26
import Derived.Test.YtcikjcjfcanloaaGreatJr32
namespace Go.Proofs.YtcikjcjfcanloaaGreat.recoveryHeight
open Go.ChangeShapes Go.WideShapes Go.ChangeAt Go.RowKit Go.Joins
set_option maxRecDepth 100000 in
theorem contract (H : Type) (enc : TypeId × Value → H) (W : World) (base : Nat) (args : Array Value) (ds gs : List (DataW H)) (before : List MemPlace)
    (hval : ∀ (j : Nat) t v, Tryz.f15.params[j]? = some t → args[j]? = some v → Value.okWide Tryz.prog W .any base t v)
    (hW : DataW.Whole enc Tryz.prog Tryz.f15.params.toList Rows.recoveryHeightSpec.vars false W args.toList ds gs before) (hk : Rows.uptoSmall H (ds ++ gs) = true) :
    Calls Tryz.prog 15 args W fun e W' => ∃ v, e = .returned v ∧ Rows.recoveryHeightSpec.post enc Tryz.prog Tryz.f15 false true false false W args v W' := by
  have hW' := hW
  obtain ⟨p, q, hA0, hV, rfl, hfz, hnd⟩ := hW
  have hA : DataW.TrodAll enc Tryz.prog W 0 (fun _ => true) true Tryz.f15.params.toList args.toList ds p := hA0
  rw [Tryz.params15] at hA hval
  obtain ⟨v0, vs0, d0, ds0, p0, q0, hargs, rfl, rfl, h0, r0⟩ := trodAll_cons hA
  obtain ⟨rfl, rfl, rfl⟩ := trodAll_nil r0
  obtain rfl : args = #[v0] := by cases args; simp_all
  obtain ⟨rfl, rfl⟩ := trodVars_none hV
  clear hA0
  simp only [List.append_nil] at hW' hk
  have HK : Rows.uptoBulkAll [d0] ≤ 1048576 := of_decide_eq_true hk
  clear hk
  have hlt0 : ∀ x ∈ p0, x.block < W.heap.size := fun x hx => by simpa using hW'.lt x (by simp [hx])
  have fin : ∀ (e : Ending) (W' : World), (e = .returned (.bool true) ∧ Ext W W') → ∃ v, e = .returned v ∧ Rows.recoveryHeightSpec.post enc Tryz.prog Tryz.f15 false true false false W #[v0] v W' := by
    rintro e W' ⟨rfl, hb⟩
    refine ⟨_, rfl, _, _, _, [], p0, [], hW', ?_, ?_, rfl, hb.frame _, fun h => by cases h⟩
    · exact trodAll_cons_mk (shut_bool Tryz.underlying4 _) trodAll_mk0
    · exact trodAll_mk1 (Below.trod laidOut (by kernel_rfl) (of_decide_eq_true (by kernel_rfl)) h0 hb hlt0)
  have hv0 := hval 0 83 v0 rfl rfl
  obtain ⟨dd, s, lv, ls, rc, hc, hb⟩ := open_case51K hv0 h0
  rw [rc] at fin ⊢
  simp only [Rows.uptoBulkAll] at HK
  exact (recoveryHeight_any dd s lv ls W hc (bkLs_wide (by omega))).mono fun e W' h => fin e W' h

set_option maxRecDepth 100000 in
theorem lifted (os : Os) (started : os.Started) (H : Type) (enc : TypeId × Value → H) (F : Stop.Interp) :
    ReturnsInHanded {} Tryz.checked os 15 .any ((Rows.OpenSpec.upto Rows.recoveryHeightSpec).pre6 enc Tryz.prog Tryz.f15 Rows.recoveryHeightUptoRow.domain false) (((Rows.OpenSpec.upto Rows.recoveryHeightSpec).at F).post enc Tryz.prog Tryz.f15 false true false false) := by
  refine returnsInHanded_of_cond (C := Tryz.checked) (s := (Rows.OpenSpec.upto Rows.recoveryHeightSpec)) (k := Rows.uptoSmall) rfl own started (by kernel_rfl) Tryz.func15
    (OpenSpec.witness (enc := enc) (C := Tryz.checked) (s := (Rows.OpenSpec.upto Rows.recoveryHeightSpec)) (k := Rows.uptoSmall) rfl false ⟨#[], #[.agg #[.int .i64 0, .int .u64 0, .slice none 0 0]], []⟩ 8 (by kernel_rfl) (by kernel_rfl) (by kernel_rfl)
      (x := ([.agg [.lit (.int .i64 0), .lit (.int .u64 0), .nil]], [], [])) (by kernel_rfl) rfl (by kernel_rfl)) ?_
  intro W base args ds gs before hval hW _ hk _
  exact contract H enc W base args ds gs before hval hW hk

set_option maxHeartbeats 12800000 in
theorem closed : joinedFacts Tryz.prog 15 Tryz.f15 (Rows.OpenSpec.upto Rows.recoveryHeightSpec).bare Rows.recoveryHeightUptoRow = true := by
  unfold joinedFacts
  simp only [Bool.and_eq_true]
  repeat' apply And.intro
  all_goals (as_aux_lemma => kernel_rfl)
theorem proved : Rows.RecoveryHeightUptoSaid :=
  OpenClaim.holds_of_cond 15 Tryz.f15 rfl rfl rfl rfl rfl rfl rfl ⟨rfl, rfl, rfl, rfl, rfl⟩ rfl rfl rfl rfl rfl (by kernel_rfl) Tryz.func15 closed
    (of_decide_eq_true (by kernel_rfl)) (by unfold Func.isWrapper; first | (rw [if_pos (by decide +kernel)]; kernel_rfl) | (rw [if_neg (by decide +kernel)]; exact ⟨rfl, rfl⟩))
    (fun os started H enc _ F => lifted os started H enc F)
end Go.Proofs.YtcikjcjfcanloaaGreat.recoveryHeight
