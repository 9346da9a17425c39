/-
  No cell of these rows narrows 'for every input' (looked for: loops, veiled, ifaces, maps, wideKeys, modest, calm, conditions, laid).
  DERIVED. THE GIVEN ROWS OF THIS SEAT. 15 by the template 'for every input the law returns true; each argument reads behind the call as it read before'; 0 by the template 'total and deterministic' (their statements: YtcikjcjfcanloaaGreatTotals.lean).
  GIVEN WITH THE SEED: the statements are not yours to turn. If you find one false, say at which input.
  Laid BY PROGRAM, IN A SANDBOX (cutbox-rows.mjs): the forced cells as the released guide's own fill.sh prints them over the translation 58ddcebfe016bb50… (all of the seat's roots in one cut). By AI agents, Wed Nov 11 2026. No macro, syntax, notation, axiom, sorry.
-/
import Derived.Test.YtcikjcjfcanloaaGreatChecked
import GoSem.Claim
import GoSem.ClaimJoined
import GoSem.ClaimMapViews
import Derived.JoinedTies
import Derived.KernelRfl
namespace Go.Proofs.YtcikjcjfcanloaaGreat
/- THE CELL 'sum', in the pinned program and in every row, IS THE sha256 OF THE DUMP (.gsa) THAT YtcikjcjfcanloaaGreatProg.lean LOADS. Nothing in Lean hashes anything: it is a label: what it is worth is what the hold of that sum in a sandbox is worth. -/
noncomputable def Tryz.pinned : Pinned := { name := "ytcikjcjfcanloaagreat", sum := "58ddcebfe016bb502f2e37d4006202f5073f7cec7a37454ba4d189ce58df8894", checked := Tryz.checked }
namespace Rows
def none {H : Type} : Left H := { results := [], args := [] }

/-- 'moidorelaw49.WalletForeign': WHATEVER THE INPUT: true; the input reads as it did. -/
def walletForeignSpec : ChangeSpec := { name := "walletForeign", fn := fun _ => fun
  | [d1, d2, d3] => { results := [.lit (.bool true)], args := [d1, d2, d3] }
  | _ => none }
def walletForeignRow : OpenClaim := { program := "ytcikjcjfcanloaagreat", sum := "58ddcebfe016bb502f2e37d4006202f5073f7cec7a37454ba4d189ce58df8894", func := "moidore/moidorelaw49.WalletForeign", spec := "walletForeign", inPlace := ["math/bits.Add64"], named := ["math/bits.divideError", "math/bits.overflowError"], apart := false }
def WalletForeignSaid : Prop := walletForeignRow.holds Tryz.pinned (OpenSpec.ofChange walletForeignSpec)

/-- ITS FALSE NEIGHBOUR: 'it returns false'. Refute it at one input. -/
def walletForeignWrong : ChangeSpec := { name := "walletForeign", fn := fun _ => fun
  | [d1, d2, d3] => { results := [.lit (.bool false)], args := [d1, d2, d3] }
  | _ => none }
def WalletForeignWrongFalsely : Prop := walletForeignRow.holds Tryz.pinned (OpenSpec.ofChange walletForeignWrong)

/-- 'moidorelaw49.WalletNew': WHATEVER THE INPUT: true; the input reads as it did. -/
def walletNewSpec : ChangeSpec := { name := "walletNew", fn := fun _ => fun
  | [d1, d2, d3] => { results := [.lit (.bool true)], args := [d1, d2, d3] }
  | _ => none }
def walletNewRow : OpenClaim := { program := "ytcikjcjfcanloaagreat", sum := "58ddcebfe016bb502f2e37d4006202f5073f7cec7a37454ba4d189ce58df8894", func := "moidore/moidorelaw49.WalletNew", spec := "walletNew", inPlace := ["math/bits.Add64"], named := ["math/bits.divideError", "math/bits.overflowError"], apart := false }
def WalletNewSaid : Prop := walletNewRow.holds Tryz.pinned (OpenSpec.ofChange walletNewSpec)

/-- ITS FALSE NEIGHBOUR: 'it returns false'. Refute it at one input. -/
def walletNewWrong : ChangeSpec := { name := "walletNew", fn := fun _ => fun
  | [d1, d2, d3] => { results := [.lit (.bool false)], args := [d1, d2, d3] }
  | _ => none }
def WalletNewWrongFalsely : Prop := walletNewRow.holds Tryz.pinned (OpenSpec.ofChange walletNewWrong)

/-- 'moidorelaw49.WalletMatchesScan': WHATEVER THE INPUT: true; the input reads as it did. -/
def walletMatchesScanSpec : ChangeSpec := { name := "walletMatchesScan", fn := fun _ => fun
  | [d1, d2] => { results := [.lit (.bool true)], args := [d1, d2] }
  | _ => none }
def walletMatchesScanRow : OpenClaim := { program := "ytcikjcjfcanloaagreat", sum := "58ddcebfe016bb502f2e37d4006202f5073f7cec7a37454ba4d189ce58df8894", func := "moidore/moidorelaw49.WalletMatchesScan", spec := "walletMatchesScan", inPlace := ["math/bits.Add64"], recurses := true, named := ["math/bits.divideError", "math/bits.overflowError"], apart := false }
def WalletMatchesScanSaid : Prop := walletMatchesScanRow.holds Tryz.pinned (OpenSpec.ofChange walletMatchesScanSpec)

/-- ITS FALSE NEIGHBOUR: 'it returns false'. Refute it at one input. -/
def walletMatchesScanWrong : ChangeSpec := { name := "walletMatchesScan", fn := fun _ => fun
  | [d1, d2] => { results := [.lit (.bool false)], args := [d1, d2] }
  | _ => none }
def WalletMatchesScanWrongFalsely : Prop := walletMatchesScanRow.holds Tryz.pinned (OpenSpec.ofChange walletMatchesScanWrong)

/-- 'moidorelaw49.WalletSteps': WHATEVER THE INPUT: true; the input reads as it did. -/
def walletStepsSpec : ChangeSpec := { name := "walletSteps", fn := fun _ => fun
  | [d1, d2] => { results := [.lit (.bool true)], args := [d1, d2] }
  | _ => none }
def walletStepsRow : OpenClaim := { program := "ytcikjcjfcanloaagreat", sum := "58ddcebfe016bb502f2e37d4006202f5073f7cec7a37454ba4d189ce58df8894", func := "moidore/moidorelaw49.WalletSteps", spec := "walletSteps", inPlace := ["math/bits.Add64"], recurses := true, named := ["math/bits.divideError", "math/bits.overflowError"], apart := false }
def WalletStepsSaid : Prop := walletStepsRow.holds Tryz.pinned (OpenSpec.ofChange walletStepsSpec)

/-- ITS FALSE NEIGHBOUR: 'it returns false'. Refute it at one input. -/
def walletStepsWrong : ChangeSpec := { name := "walletSteps", fn := fun _ => fun
  | [d1, d2] => { results := [.lit (.bool false)], args := [d1, d2] }
  | _ => none }
def WalletStepsWrongFalsely : Prop := walletStepsRow.holds Tryz.pinned (OpenSpec.ofChange walletStepsWrong)

/-- 'moidorelaw49.WalletSpent': WHATEVER THE INPUT: true; the input reads as it did. -/
def walletSpentSpec : ChangeSpec := { name := "walletSpent", fn := fun _ => fun
  | [d1, d2, d3] => { results := [.lit (.bool true)], args := [d1, d2, d3] }
  | _ => none }
def walletSpentRow : OpenClaim := { program := "ytcikjcjfcanloaagreat", sum := "58ddcebfe016bb502f2e37d4006202f5073f7cec7a37454ba4d189ce58df8894", func := "moidore/moidorelaw49.WalletSpent", spec := "walletSpent", inPlace := ["math/bits.Add64"], recurses := true, named := ["math/bits.divideError", "math/bits.overflowError"], apart := false }
def WalletSpentSaid : Prop := walletSpentRow.holds Tryz.pinned (OpenSpec.ofChange walletSpentSpec)

/-- ITS FALSE NEIGHBOUR: 'it returns false'. Refute it at one input. -/
def walletSpentWrong : ChangeSpec := { name := "walletSpent", fn := fun _ => fun
  | [d1, d2, d3] => { results := [.lit (.bool false)], args := [d1, d2, d3] }
  | _ => none }
def WalletSpentWrongFalsely : Prop := walletSpentRow.holds Tryz.pinned (OpenSpec.ofChange walletSpentWrong)

/-- 'moidorelaw49.WalletEncode': WHATEVER THE INPUT: true; the input reads as it did. -/
def walletEncodeSpec : ChangeSpec := { name := "walletEncode", fn := fun _ => fun
  | [d1, d2] => { results := [.lit (.bool true)], args := [d1, d2] }
  | _ => none }
def walletEncodeRow : OpenClaim := { program := "ytcikjcjfcanloaagreat", sum := "58ddcebfe016bb502f2e37d4006202f5073f7cec7a37454ba4d189ce58df8894", func := "moidore/moidorelaw49.WalletEncode", spec := "walletEncode", inPlace := ["math/bits.Add64"], named := ["math/bits.divideError", "math/bits.overflowError"], apart := false }
def WalletEncodeSaid : Prop := walletEncodeRow.holds Tryz.pinned (OpenSpec.ofChange walletEncodeSpec)

/-- ITS FALSE NEIGHBOUR: 'it returns false'. Refute it at one input. -/
def walletEncodeWrong : ChangeSpec := { name := "walletEncode", fn := fun _ => fun
  | [d1, d2] => { results := [.lit (.bool false)], args := [d1, d2] }
  | _ => none }
def WalletEncodeWrongFalsely : Prop := walletEncodeRow.holds Tryz.pinned (OpenSpec.ofChange walletEncodeWrong)

/-- 'moidorelaw49.WalletHistory': WHATEVER THE INPUT: true; the input reads as it did. -/
def walletHistorySpec : ChangeSpec := { name := "walletHistory", fn := fun _ => fun
  | [d1, d2] => { results := [.lit (.bool true)], args := [d1, d2] }
  | _ => none }
def walletHistoryRow : OpenClaim := { program := "ytcikjcjfcanloaagreat", sum := "58ddcebfe016bb502f2e37d4006202f5073f7cec7a37454ba4d189ce58df8894", func := "moidore/moidorelaw49.WalletHistory", spec := "walletHistory", inPlace := ["math/bits.Add64"], named := ["math/bits.divideError", "math/bits.overflowError"], apart := false }
def WalletHistorySaid : Prop := walletHistoryRow.holds Tryz.pinned (OpenSpec.ofChange walletHistorySpec)

/-- ITS FALSE NEIGHBOUR: 'it returns false'. Refute it at one input. -/
def walletHistoryWrong : ChangeSpec := { name := "walletHistory", fn := fun _ => fun
  | [d1, d2] => { results := [.lit (.bool false)], args := [d1, d2] }
  | _ => none }
def WalletHistoryWrongFalsely : Prop := walletHistoryRow.holds Tryz.pinned (OpenSpec.ofChange walletHistoryWrong)

/-- 'moidorelaw49.WalletUndo': WHATEVER THE INPUT: true; the input reads as it did. -/
def walletUndoSpec : ChangeSpec := { name := "walletUndo", fn := fun _ => fun
  | [d1, d2, d3] => { results := [.lit (.bool true)], args := [d1, d2, d3] }
  | _ => none }
def walletUndoRow : OpenClaim := { program := "ytcikjcjfcanloaagreat", sum := "58ddcebfe016bb502f2e37d4006202f5073f7cec7a37454ba4d189ce58df8894", func := "moidore/moidorelaw49.WalletUndo", spec := "walletUndo", inPlace := ["math/bits.Add64"], recurses := true, named := ["math/bits.divideError", "math/bits.overflowError"], apart := false }
def WalletUndoSaid : Prop := walletUndoRow.holds Tryz.pinned (OpenSpec.ofChange walletUndoSpec)

/-- ITS FALSE NEIGHBOUR: 'it returns false'. Refute it at one input. -/
def walletUndoWrong : ChangeSpec := { name := "walletUndo", fn := fun _ => fun
  | [d1, d2, d3] => { results := [.lit (.bool false)], args := [d1, d2, d3] }
  | _ => none }
def WalletUndoWrongFalsely : Prop := walletUndoRow.holds Tryz.pinned (OpenSpec.ofChange walletUndoWrong)

/-- 'moidorelaw51.RecoveryRules': WHATEVER THE INPUT: true; the input reads as it did. -/
def recoveryRulesSpec : ChangeSpec := { name := "recoveryRules", fn := fun _ => fun
  | [d1, d2, d3] => { results := [.lit (.bool true)], args := [d1, d2, d3] }
  | _ => none }
def recoveryRulesRow : OpenClaim := { program := "ytcikjcjfcanloaagreat", sum := "58ddcebfe016bb502f2e37d4006202f5073f7cec7a37454ba4d189ce58df8894", func := "moidore/moidorelaw51.RecoveryRules", spec := "recoveryRules", inPlace := ["math/bits.Add64"], unfollowed := true, recurses := true, named := ["math/bits.divideError", "math/bits.overflowError"], apart := false }
def RecoveryRulesSaid : Prop := recoveryRulesRow.holds Tryz.pinned (OpenSpec.ofChange recoveryRulesSpec)

/-- ITS FALSE NEIGHBOUR: 'it returns false'. Refute it at one input. -/
def recoveryRulesWrong : ChangeSpec := { name := "recoveryRules", fn := fun _ => fun
  | [d1, d2, d3] => { results := [.lit (.bool false)], args := [d1, d2, d3] }
  | _ => none }
def RecoveryRulesWrongFalsely : Prop := recoveryRulesRow.holds Tryz.pinned (OpenSpec.ofChange recoveryRulesWrong)

/-- 'moidorelaw51.RecoveryRestore': WHATEVER THE INPUT: true; the input reads as it did. -/
def recoveryRestoreSpec : ChangeSpec := { name := "recoveryRestore", fn := fun _ => fun
  | [d] => { results := [.lit (.bool true)], args := [d] }
  | _ => none }
def recoveryRestoreRow : OpenClaim := { program := "ytcikjcjfcanloaagreat", sum := "58ddcebfe016bb502f2e37d4006202f5073f7cec7a37454ba4d189ce58df8894", func := "moidore/moidorelaw51.RecoveryRestore", spec := "recoveryRestore", inPlace := ["math/bits.Add64"], unfollowed := true, recurses := true, named := ["math/bits.divideError", "math/bits.overflowError"], apart := false }
def RecoveryRestoreSaid : Prop := recoveryRestoreRow.holds Tryz.pinned (OpenSpec.ofChange recoveryRestoreSpec)

/-- ITS FALSE NEIGHBOUR: 'it returns false'. Refute it at one input. -/
def recoveryRestoreWrong : ChangeSpec := { name := "recoveryRestore", fn := fun _ => fun
  | [d] => { results := [.lit (.bool false)], args := [d] }
  | _ => none }
def RecoveryRestoreWrongFalsely : Prop := recoveryRestoreRow.holds Tryz.pinned (OpenSpec.ofChange recoveryRestoreWrong)

/-- 'moidorelaw51.RecoveryFollow': WHATEVER THE INPUT: true; the input reads as it did. -/
def recoveryFollowSpec : ChangeSpec := { name := "recoveryFollow", fn := fun _ => fun
  | [d] => { results := [.lit (.bool true)], args := [d] }
  | _ => none }
def recoveryFollowRow : OpenClaim := { program := "ytcikjcjfcanloaagreat", sum := "58ddcebfe016bb502f2e37d4006202f5073f7cec7a37454ba4d189ce58df8894", func := "moidore/moidorelaw51.RecoveryFollow", spec := "recoveryFollow", inPlace := ["math/bits.Add64"], unfollowed := true, recurses := true, named := ["math/bits.divideError", "math/bits.overflowError"], apart := false }
def RecoveryFollowSaid : Prop := recoveryFollowRow.holds Tryz.pinned (OpenSpec.ofChange recoveryFollowSpec)

/-- ITS FALSE NEIGHBOUR: 'it returns false'. Refute it at one input. -/
def recoveryFollowWrong : ChangeSpec := { name := "recoveryFollow", fn := fun _ => fun
  | [d] => { results := [.lit (.bool false)], args := [d] }
  | _ => none }
def RecoveryFollowWrongFalsely : Prop := recoveryFollowRow.holds Tryz.pinned (OpenSpec.ofChange recoveryFollowWrong)

/-- 'moidorelaw51.RecoveryBack': WHATEVER THE INPUT: true; the input reads as it did. -/
def recoveryBackSpec : ChangeSpec := { name := "recoveryBack", fn := fun _ => fun
  | [d] => { results := [.lit (.bool true)], args := [d] }
  | _ => none }
def recoveryBackRow : OpenClaim := { program := "ytcikjcjfcanloaagreat", sum := "58ddcebfe016bb502f2e37d4006202f5073f7cec7a37454ba4d189ce58df8894", func := "moidore/moidorelaw51.RecoveryBack", spec := "recoveryBack", inPlace := ["math/bits.Add64"], unfollowed := true, recurses := true, named := ["math/bits.divideError", "math/bits.overflowError"], apart := false }
def RecoveryBackSaid : Prop := recoveryBackRow.holds Tryz.pinned (OpenSpec.ofChange recoveryBackSpec)

/-- ITS FALSE NEIGHBOUR: 'it returns false'. Refute it at one input. -/
def recoveryBackWrong : ChangeSpec := { name := "recoveryBack", fn := fun _ => fun
  | [d] => { results := [.lit (.bool false)], args := [d] }
  | _ => none }
def RecoveryBackWrongFalsely : Prop := recoveryBackRow.holds Tryz.pinned (OpenSpec.ofChange recoveryBackWrong)

/-- 'moidorelaw51.RecoveryHeight': WHATEVER THE INPUT: true; the input reads as it did. -/
def recoveryHeightSpec : ChangeSpec := { name := "recoveryHeight", fn := fun _ => fun
  | [d] => { results := [.lit (.bool true)], args := [d] }
  | _ => none }
def recoveryHeightRow : OpenClaim := { program := "ytcikjcjfcanloaagreat", sum := "58ddcebfe016bb502f2e37d4006202f5073f7cec7a37454ba4d189ce58df8894", func := "moidore/moidorelaw51.RecoveryHeight", spec := "recoveryHeight", inPlace := ["math/bits.Add64"], unfollowed := true, recurses := true, named := ["math/bits.divideError", "math/bits.overflowError"], apart := false }
def RecoveryHeightSaid : Prop := recoveryHeightRow.holds Tryz.pinned (OpenSpec.ofChange recoveryHeightSpec)

/-- ITS FALSE NEIGHBOUR: 'it returns false'. Refute it at one input. -/
def recoveryHeightWrong : ChangeSpec := { name := "recoveryHeight", fn := fun _ => fun
  | [d] => { results := [.lit (.bool false)], args := [d] }
  | _ => none }
def RecoveryHeightWrongFalsely : Prop := recoveryHeightRow.holds Tryz.pinned (OpenSpec.ofChange recoveryHeightWrong)

/-- 'moidorelaw51.RecoveryRoad': WHATEVER THE INPUT: true; the input reads as it did. -/
def recoveryRoadSpec : ChangeSpec := { name := "recoveryRoad", fn := fun _ => fun
  | [d] => { results := [.lit (.bool true)], args := [d] }
  | _ => none }
def recoveryRoadRow : OpenClaim := { program := "ytcikjcjfcanloaagreat", sum := "58ddcebfe016bb502f2e37d4006202f5073f7cec7a37454ba4d189ce58df8894", func := "moidore/moidorelaw51.RecoveryRoad", spec := "recoveryRoad", inPlace := ["math/bits.Add64"], unfollowed := true, recurses := true, named := ["math/bits.divideError", "math/bits.overflowError"], apart := false }
def RecoveryRoadSaid : Prop := recoveryRoadRow.holds Tryz.pinned (OpenSpec.ofChange recoveryRoadSpec)

/-- ITS FALSE NEIGHBOUR: 'it returns false'. Refute it at one input. -/
def recoveryRoadWrong : ChangeSpec := { name := "recoveryRoad", fn := fun _ => fun
  | [d] => { results := [.lit (.bool false)], args := [d] }
  | _ => none }
def RecoveryRoadWrongFalsely : Prop := recoveryRoadRow.holds Tryz.pinned (OpenSpec.ofChange recoveryRoadWrong)

/-- 'moidorelaw51.RecoverySame': WHATEVER THE INPUT: true; the input reads as it did. -/
def recoverySameSpec : ChangeSpec := { name := "recoverySame", fn := fun _ => fun
  | [d1, d2] => { results := [.lit (.bool true)], args := [d1, d2] }
  | _ => none }
def recoverySameRow : OpenClaim := { program := "ytcikjcjfcanloaagreat", sum := "58ddcebfe016bb502f2e37d4006202f5073f7cec7a37454ba4d189ce58df8894", func := "moidore/moidorelaw51.RecoverySame", spec := "recoverySame", inPlace := ["math/bits.Add64"], unfollowed := true, recurses := true, named := ["math/bits.divideError", "math/bits.overflowError"], apart := false }
def RecoverySameSaid : Prop := recoverySameRow.holds Tryz.pinned (OpenSpec.ofChange recoverySameSpec)

/-- ITS FALSE NEIGHBOUR: 'it returns false'. Refute it at one input. -/
def recoverySameWrong : ChangeSpec := { name := "recoverySame", fn := fun _ => fun
  | [d1, d2] => { results := [.lit (.bool false)], args := [d1, d2] }
  | _ => none }
def RecoverySameWrongFalsely : Prop := recoverySameRow.holds Tryz.pinned (OpenSpec.ofChange recoverySameWrong)

/- THE SECOND FORM. 'bulk': how many values and letters a reading holds, each counted each time it is reached (what is shared counts as often as it is met; a slice's spare places count too). A statement '..UptoSaid' is the law's where the arguments, and the package variables that the reading takes, are together of bulk at most 1048576: NARROWER than '..Said'. Prove '..Said' where nothing that the law and all that it calls make is longer than what came in: it says more and counts as full. Else prove '..UptoSaid'. A law counts once. -/
mutual
def uptoBulk {H : Type} : DataW H → Nat
  | .lit (.string bytes) => bytes.length + 1
  | .lit _ => 1
  | .nil => 1
  | .ptr d => uptoBulk d + 1
  | .slice elems spare => uptoBulkAll elems + uptoBulkAll spare + 1
  | .agg parts => uptoBulkAll parts + 1
  | .iface _ d => uptoBulk d + 1
  | .map entries => uptoBulkEntries entries + 1
  | .held _ => 1
def uptoBulkAll {H : Type} : List (DataW H) → Nat
  | [] => 0
  | d :: r => uptoBulk d + uptoBulkAll r
def uptoBulkEntries {H : Type} : List (Lit × DataW H) → Nat
  | [] => 0
  | x :: r => uptoBulkEntry x + uptoBulkEntries r
def uptoBulkEntry {H : Type} : Lit × DataW H → Nat
  | (.string bytes, d) => bytes.length + uptoBulk d + 1
  | (_, d) => uptoBulk d + 1
 end
def uptoSmall : (H : Type) → List (DataW H) → Bool := fun _ ds => decide (uptoBulkAll ds ≤ 1048576)
def OpenSpec.upto (s : _root_.Go.ChangeSpec) : _root_.Go.OpenSpec := { _root_.Go.OpenSpec.ofChange s with cond := some uptoSmall }

/-- 'moidorelaw49.WalletForeign', WHERE WHAT IT READS IS OF BULK AT MOST 1048576: true; the input reads as it did. -/
def walletForeignUptoRow : OpenClaim := { program := "ytcikjcjfcanloaagreat", sum := "58ddcebfe016bb502f2e37d4006202f5073f7cec7a37454ba4d189ce58df8894", func := "moidore/moidorelaw49.WalletForeign", spec := "walletForeign", inPlace := ["math/bits.Add64"], named := ["math/bits.divideError", "math/bits.overflowError"], apart := false, narrowed := true }
def WalletForeignUptoSaid : Prop := walletForeignUptoRow.holds Tryz.pinned (OpenSpec.upto walletForeignSpec)

/-- 'moidorelaw49.WalletNew', WHERE WHAT IT READS IS OF BULK AT MOST 1048576: true; the input reads as it did. -/
def walletNewUptoRow : OpenClaim := { program := "ytcikjcjfcanloaagreat", sum := "58ddcebfe016bb502f2e37d4006202f5073f7cec7a37454ba4d189ce58df8894", func := "moidore/moidorelaw49.WalletNew", spec := "walletNew", inPlace := ["math/bits.Add64"], named := ["math/bits.divideError", "math/bits.overflowError"], apart := false, narrowed := true }
def WalletNewUptoSaid : Prop := walletNewUptoRow.holds Tryz.pinned (OpenSpec.upto walletNewSpec)

/-- 'moidorelaw49.WalletMatchesScan', WHERE WHAT IT READS IS OF BULK AT MOST 1048576: true; the input reads as it did. -/
def walletMatchesScanUptoRow : OpenClaim := { program := "ytcikjcjfcanloaagreat", sum := "58ddcebfe016bb502f2e37d4006202f5073f7cec7a37454ba4d189ce58df8894", func := "moidore/moidorelaw49.WalletMatchesScan", spec := "walletMatchesScan", inPlace := ["math/bits.Add64"], recurses := true, named := ["math/bits.divideError", "math/bits.overflowError"], apart := false, narrowed := true }
def WalletMatchesScanUptoSaid : Prop := walletMatchesScanUptoRow.holds Tryz.pinned (OpenSpec.upto walletMatchesScanSpec)

/-- 'moidorelaw49.WalletSteps', WHERE WHAT IT READS IS OF BULK AT MOST 1048576: true; the input reads as it did. -/
def walletStepsUptoRow : OpenClaim := { program := "ytcikjcjfcanloaagreat", sum := "58ddcebfe016bb502f2e37d4006202f5073f7cec7a37454ba4d189ce58df8894", func := "moidore/moidorelaw49.WalletSteps", spec := "walletSteps", inPlace := ["math/bits.Add64"], recurses := true, named := ["math/bits.divideError", "math/bits.overflowError"], apart := false, narrowed := true }
def WalletStepsUptoSaid : Prop := walletStepsUptoRow.holds Tryz.pinned (OpenSpec.upto walletStepsSpec)

/-- 'moidorelaw49.WalletSpent', WHERE WHAT IT READS IS OF BULK AT MOST 1048576: true; the input reads as it did. -/
def walletSpentUptoRow : OpenClaim := { program := "ytcikjcjfcanloaagreat", sum := "58ddcebfe016bb502f2e37d4006202f5073f7cec7a37454ba4d189ce58df8894", func := "moidore/moidorelaw49.WalletSpent", spec := "walletSpent", inPlace := ["math/bits.Add64"], recurses := true, named := ["math/bits.divideError", "math/bits.overflowError"], apart := false, narrowed := true }
def WalletSpentUptoSaid : Prop := walletSpentUptoRow.holds Tryz.pinned (OpenSpec.upto walletSpentSpec)

/-- 'moidorelaw49.WalletEncode', WHERE WHAT IT READS IS OF BULK AT MOST 1048576: true; the input reads as it did. -/
def walletEncodeUptoRow : OpenClaim := { program := "ytcikjcjfcanloaagreat", sum := "58ddcebfe016bb502f2e37d4006202f5073f7cec7a37454ba4d189ce58df8894", func := "moidore/moidorelaw49.WalletEncode", spec := "walletEncode", inPlace := ["math/bits.Add64"], named := ["math/bits.divideError", "math/bits.overflowError"], apart := false, narrowed := true }
def WalletEncodeUptoSaid : Prop := walletEncodeUptoRow.holds Tryz.pinned (OpenSpec.upto walletEncodeSpec)

/-- 'moidorelaw49.WalletHistory', WHERE WHAT IT READS IS OF BULK AT MOST 1048576: true; the input reads as it did. -/
def walletHistoryUptoRow : OpenClaim := { program := "ytcikjcjfcanloaagreat", sum := "58ddcebfe016bb502f2e37d4006202f5073f7cec7a37454ba4d189ce58df8894", func := "moidore/moidorelaw49.WalletHistory", spec := "walletHistory", inPlace := ["math/bits.Add64"], named := ["math/bits.divideError", "math/bits.overflowError"], apart := false, narrowed := true }
def WalletHistoryUptoSaid : Prop := walletHistoryUptoRow.holds Tryz.pinned (OpenSpec.upto walletHistorySpec)

/-- 'moidorelaw49.WalletUndo', WHERE WHAT IT READS IS OF BULK AT MOST 1048576: true; the input reads as it did. -/
def walletUndoUptoRow : OpenClaim := { program := "ytcikjcjfcanloaagreat", sum := "58ddcebfe016bb502f2e37d4006202f5073f7cec7a37454ba4d189ce58df8894", func := "moidore/moidorelaw49.WalletUndo", spec := "walletUndo", inPlace := ["math/bits.Add64"], recurses := true, named := ["math/bits.divideError", "math/bits.overflowError"], apart := false, narrowed := true }
def WalletUndoUptoSaid : Prop := walletUndoUptoRow.holds Tryz.pinned (OpenSpec.upto walletUndoSpec)

/-- 'moidorelaw51.RecoveryRules', WHERE WHAT IT READS IS OF BULK AT MOST 1048576: true; the input reads as it did. -/
def recoveryRulesUptoRow : OpenClaim := { program := "ytcikjcjfcanloaagreat", sum := "58ddcebfe016bb502f2e37d4006202f5073f7cec7a37454ba4d189ce58df8894", func := "moidore/moidorelaw51.RecoveryRules", spec := "recoveryRules", inPlace := ["math/bits.Add64"], unfollowed := true, recurses := true, named := ["math/bits.divideError", "math/bits.overflowError"], apart := false, narrowed := true }
def RecoveryRulesUptoSaid : Prop := recoveryRulesUptoRow.holds Tryz.pinned (OpenSpec.upto recoveryRulesSpec)

/-- 'moidorelaw51.RecoveryRestore', WHERE WHAT IT READS IS OF BULK AT MOST 1048576: true; the input reads as it did. -/
def recoveryRestoreUptoRow : OpenClaim := { program := "ytcikjcjfcanloaagreat", sum := "58ddcebfe016bb502f2e37d4006202f5073f7cec7a37454ba4d189ce58df8894", func := "moidore/moidorelaw51.RecoveryRestore", spec := "recoveryRestore", inPlace := ["math/bits.Add64"], unfollowed := true, recurses := true, named := ["math/bits.divideError", "math/bits.overflowError"], apart := false, narrowed := true }
def RecoveryRestoreUptoSaid : Prop := recoveryRestoreUptoRow.holds Tryz.pinned (OpenSpec.upto recoveryRestoreSpec)

/-- 'moidorelaw51.RecoveryFollow', WHERE WHAT IT READS IS OF BULK AT MOST 1048576: true; the input reads as it did. -/
def recoveryFollowUptoRow : OpenClaim := { program := "ytcikjcjfcanloaagreat", sum := "58ddcebfe016bb502f2e37d4006202f5073f7cec7a37454ba4d189ce58df8894", func := "moidore/moidorelaw51.RecoveryFollow", spec := "recoveryFollow", inPlace := ["math/bits.Add64"], unfollowed := true, recurses := true, named := ["math/bits.divideError", "math/bits.overflowError"], apart := false, narrowed := true }
def RecoveryFollowUptoSaid : Prop := recoveryFollowUptoRow.holds Tryz.pinned (OpenSpec.upto recoveryFollowSpec)

/-- 'moidorelaw51.RecoveryBack', WHERE WHAT IT READS IS OF BULK AT MOST 1048576: true; the input reads as it did. -/
def recoveryBackUptoRow : OpenClaim := { program := "ytcikjcjfcanloaagreat", sum := "58ddcebfe016bb502f2e37d4006202f5073f7cec7a37454ba4d189ce58df8894", func := "moidore/moidorelaw51.RecoveryBack", spec := "recoveryBack", inPlace := ["math/bits.Add64"], unfollowed := true, recurses := true, named := ["math/bits.divideError", "math/bits.overflowError"], apart := false, narrowed := true }
def RecoveryBackUptoSaid : Prop := recoveryBackUptoRow.holds Tryz.pinned (OpenSpec.upto recoveryBackSpec)

/-- 'moidorelaw51.RecoveryHeight', WHERE WHAT IT READS IS OF BULK AT MOST 1048576: true; the input reads as it did. -/
def recoveryHeightUptoRow : OpenClaim := { program := "ytcikjcjfcanloaagreat", sum := "58ddcebfe016bb502f2e37d4006202f5073f7cec7a37454ba4d189ce58df8894", func := "moidore/moidorelaw51.RecoveryHeight", spec := "recoveryHeight", inPlace := ["math/bits.Add64"], unfollowed := true, recurses := true, named := ["math/bits.divideError", "math/bits.overflowError"], apart := false, narrowed := true }
def RecoveryHeightUptoSaid : Prop := recoveryHeightUptoRow.holds Tryz.pinned (OpenSpec.upto recoveryHeightSpec)

/-- 'moidorelaw51.RecoveryRoad', WHERE WHAT IT READS IS OF BULK AT MOST 1048576: true; the input reads as it did. -/
def recoveryRoadUptoRow : OpenClaim := { program := "ytcikjcjfcanloaagreat", sum := "58ddcebfe016bb502f2e37d4006202f5073f7cec7a37454ba4d189ce58df8894", func := "moidore/moidorelaw51.RecoveryRoad", spec := "recoveryRoad", inPlace := ["math/bits.Add64"], unfollowed := true, recurses := true, named := ["math/bits.divideError", "math/bits.overflowError"], apart := false, narrowed := true }
def RecoveryRoadUptoSaid : Prop := recoveryRoadUptoRow.holds Tryz.pinned (OpenSpec.upto recoveryRoadSpec)

/-- 'moidorelaw51.RecoverySame', WHERE WHAT IT READS IS OF BULK AT MOST 1048576: true; the input reads as it did. -/
def recoverySameUptoRow : OpenClaim := { program := "ytcikjcjfcanloaagreat", sum := "58ddcebfe016bb502f2e37d4006202f5073f7cec7a37454ba4d189ce58df8894", func := "moidore/moidorelaw51.RecoverySame", spec := "recoverySame", inPlace := ["math/bits.Add64"], unfollowed := true, recurses := true, named := ["math/bits.divideError", "math/bits.overflowError"], apart := false, narrowed := true }
def RecoverySameUptoSaid : Prop := recoverySameUptoRow.holds Tryz.pinned (OpenSpec.upto recoverySameSpec)

end Rows
end Go.Proofs.YtcikjcjfcanloaaGreat
