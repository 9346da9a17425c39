/-
  No cell of these rows narrows 'for every input' (looked for: loops, veiled, ifaces, maps, wideKeys, modest, calm, conditions, laid).
  DERIVED. THE GIVEN ROWS OF THIS SEAT. 8 by the template 'for every input the law returns true; each argument reads behind the call as it read before'; 0 by the template 'total and deterministic' (their statements: YtdkilbnocmnekaaTotals.lean).
  GIVEN WITH THE SEED: the statements are not yours to turn. If you find one false, say at which input.
  Laid BY PROGRAM, IN A SANDBOX (cutbox-rows.mjs): the forced cells as the released guide's own fill.sh prints them over the translation 879dfdce8b02bfab… (all of the seat's roots in one cut). By AI agents, Wed Nov 11 2026. No macro, syntax, notation, axiom, sorry.
-/
import Derived.Test.YtdkilbnocmnekaaChecked
import GoSem.Claim
import GoSem.ClaimJoined
import GoSem.ClaimMapViews
import Derived.JoinedTies
import Derived.KernelRfl
namespace Go.Proofs.Ytdkilbnocmnekaa
/- THE CELL 'sum', in the pinned program and in every row, IS THE sha256 OF THE DUMP (.gsa) THAT YtdkilbnocmnekaaProg.lean LOADS. Nothing in Lean hashes anything: it is a label: what it is worth is what the hold of that sum in a sandbox is worth. -/
noncomputable def Try.pinned : Pinned := { name := "ytdkilbnocmnekaa", sum := "879dfdce8b02bfabd612c0087d854e9050cc33e6966c953adbf99e91423fcfa3", checked := Try.checked }
namespace Rows
def none {H : Type} : Left H := { results := [], args := [] }

/-- 'moidorelaw10.OracleCollision': WHATEVER THE INPUT: true; the input reads as it did. -/
def oracleCollisionSpec : ChangeSpec := { name := "oracleCollision", fn := fun _ => fun
  | [d1, d2] => { results := [.lit (.bool true)], args := [d1, d2] }
  | _ => none }
def oracleCollisionRow : OpenClaim := { program := "ytdkilbnocmnekaa", sum := "879dfdce8b02bfabd612c0087d854e9050cc33e6966c953adbf99e91423fcfa3", func := "moidore/moidorelaw10.OracleCollision", spec := "oracleCollision", inPlace := ["math/bits.Add64"], named := ["math/bits.divideError", "math/bits.overflowError"], apart := false }
def OracleCollisionSaid : Prop := oracleCollisionRow.holds Try.pinned (OpenSpec.ofChange oracleCollisionSpec)

/-- ITS FALSE NEIGHBOUR: 'it returns false'. Refute it at one input. -/
def oracleCollisionWrong : ChangeSpec := { name := "oracleCollision", fn := fun _ => fun
  | [d1, d2] => { results := [.lit (.bool false)], args := [d1, d2] }
  | _ => none }
def OracleCollisionWrongFalsely : Prop := oracleCollisionRow.holds Try.pinned (OpenSpec.ofChange oracleCollisionWrong)

/-- 'moidorelaw34.NotePlain': WHATEVER THE INPUT: true; the input reads as it did. -/
def notePlainSpec : ChangeSpec := { name := "notePlain", fn := fun _ => fun
  | [d] => { results := [.lit (.bool true)], args := [d] }
  | _ => none }
def notePlainRow : OpenClaim := { program := "ytdkilbnocmnekaa", sum := "879dfdce8b02bfabd612c0087d854e9050cc33e6966c953adbf99e91423fcfa3", func := "moidore/moidorelaw34.NotePlain", spec := "notePlain", inPlace := ["math/bits.Add64"], named := ["math/bits.divideError", "math/bits.overflowError"], apart := false }
def NotePlainSaid : Prop := notePlainRow.holds Try.pinned (OpenSpec.ofChange notePlainSpec)

/-- ITS FALSE NEIGHBOUR: 'it returns false'. Refute it at one input. -/
def notePlainWrong : ChangeSpec := { name := "notePlain", fn := fun _ => fun
  | [d] => { results := [.lit (.bool false)], args := [d] }
  | _ => none }
def NotePlainWrongFalsely : Prop := notePlainRow.holds Try.pinned (OpenSpec.ofChange notePlainWrong)

/-- 'moidorelaw34.NoteHidden': WHATEVER THE INPUT: true; the input reads as it did. -/
def noteHiddenSpec : ChangeSpec := { name := "noteHidden", fn := fun _ => fun
  | [d1, d2, d3] => { results := [.lit (.bool true)], args := [d1, d2, d3] }
  | _ => none }
def noteHiddenRow : OpenClaim := { program := "ytdkilbnocmnekaa", sum := "879dfdce8b02bfabd612c0087d854e9050cc33e6966c953adbf99e91423fcfa3", func := "moidore/moidorelaw34.NoteHidden", spec := "noteHidden", inPlace := ["math/bits.Add64"], named := ["math/bits.divideError", "math/bits.overflowError"], apart := false }
def NoteHiddenSaid : Prop := noteHiddenRow.holds Try.pinned (OpenSpec.ofChange noteHiddenSpec)

/-- ITS FALSE NEIGHBOUR: 'it returns false'. Refute it at one input. -/
def noteHiddenWrong : ChangeSpec := { name := "noteHidden", fn := fun _ => fun
  | [d1, d2, d3] => { results := [.lit (.bool false)], args := [d1, d2, d3] }
  | _ => none }
def NoteHiddenWrongFalsely : Prop := noteHiddenRow.holds Try.pinned (OpenSpec.ofChange noteHiddenWrong)

/-- 'moidorelaw34.NoteBinds': WHATEVER THE INPUT: true; the input reads as it did. -/
def noteBindsSpec : ChangeSpec := { name := "noteBinds", fn := fun _ => fun
  | [d1, d2, d3] => { results := [.lit (.bool true)], args := [d1, d2, d3] }
  | _ => none }
def noteBindsRow : OpenClaim := { program := "ytdkilbnocmnekaa", sum := "879dfdce8b02bfabd612c0087d854e9050cc33e6966c953adbf99e91423fcfa3", func := "moidore/moidorelaw34.NoteBinds", spec := "noteBinds", inPlace := ["math/bits.Add64"], named := ["math/bits.divideError", "math/bits.overflowError"], apart := false }
def NoteBindsSaid : Prop := noteBindsRow.holds Try.pinned (OpenSpec.ofChange noteBindsSpec)

/-- ITS FALSE NEIGHBOUR: 'it returns false'. Refute it at one input. -/
def noteBindsWrong : ChangeSpec := { name := "noteBinds", fn := fun _ => fun
  | [d1, d2, d3] => { results := [.lit (.bool false)], args := [d1, d2, d3] }
  | _ => none }
def NoteBindsWrongFalsely : Prop := noteBindsRow.holds Try.pinned (OpenSpec.ofChange noteBindsWrong)

/-- 'moidorelaw34.NoteMarks': WHATEVER THE INPUT: true; the input reads as it did. -/
def noteMarksSpec : ChangeSpec := { name := "noteMarks", fn := fun _ => fun
  | [d1, d2, d3] => { results := [.lit (.bool true)], args := [d1, d2, d3] }
  | _ => none }
def noteMarksRow : OpenClaim := { program := "ytdkilbnocmnekaa", sum := "879dfdce8b02bfabd612c0087d854e9050cc33e6966c953adbf99e91423fcfa3", func := "moidore/moidorelaw34.NoteMarks", spec := "noteMarks", inPlace := ["math/bits.Add64"], named := ["math/bits.divideError", "math/bits.overflowError"], apart := false }
def NoteMarksSaid : Prop := noteMarksRow.holds Try.pinned (OpenSpec.ofChange noteMarksSpec)

/-- ITS FALSE NEIGHBOUR: 'it returns false'. Refute it at one input. -/
def noteMarksWrong : ChangeSpec := { name := "noteMarks", fn := fun _ => fun
  | [d1, d2, d3] => { results := [.lit (.bool false)], args := [d1, d2, d3] }
  | _ => none }
def NoteMarksWrongFalsely : Prop := noteMarksRow.holds Try.pinned (OpenSpec.ofChange noteMarksWrong)

/-- 'moidorelaw34.NoteAsks': WHATEVER THE INPUT: true; the input reads as it did. -/
def noteAsksSpec : ChangeSpec := { name := "noteAsks", fn := fun _ => fun
  | [d1, d2, d3] => { results := [.lit (.bool true)], args := [d1, d2, d3] }
  | _ => none }
def noteAsksRow : OpenClaim := { program := "ytdkilbnocmnekaa", sum := "879dfdce8b02bfabd612c0087d854e9050cc33e6966c953adbf99e91423fcfa3", func := "moidore/moidorelaw34.NoteAsks", spec := "noteAsks", inPlace := ["math/bits.Add64"], named := ["math/bits.divideError", "math/bits.overflowError"], apart := false }
def NoteAsksSaid : Prop := noteAsksRow.holds Try.pinned (OpenSpec.ofChange noteAsksSpec)

/-- ITS FALSE NEIGHBOUR: 'it returns false'. Refute it at one input. -/
def noteAsksWrong : ChangeSpec := { name := "noteAsks", fn := fun _ => fun
  | [d1, d2, d3] => { results := [.lit (.bool false)], args := [d1, d2, d3] }
  | _ => none }
def NoteAsksWrongFalsely : Prop := noteAsksRow.holds Try.pinned (OpenSpec.ofChange noteAsksWrong)

/-- 'moidorelaw10.OracleSeal': WHATEVER THE INPUT: true; the input reads as it did. -/
def oracleSealSpec : ChangeSpec := { name := "oracleSeal", fn := fun _ => fun
  | [d1, d2, d3] => { results := [.lit (.bool true)], args := [d1, d2, d3] }
  | _ => none }
def oracleSealRow : OpenClaim := { program := "ytdkilbnocmnekaa", sum := "879dfdce8b02bfabd612c0087d854e9050cc33e6966c953adbf99e91423fcfa3", func := "moidore/moidorelaw10.OracleSeal", spec := "oracleSeal", inPlace := ["math/bits.Add64"], named := ["math/bits.divideError", "math/bits.overflowError"], apart := false }
def OracleSealSaid : Prop := oracleSealRow.holds Try.pinned (OpenSpec.ofChange oracleSealSpec)

/-- ITS FALSE NEIGHBOUR: 'it returns false'. Refute it at one input. -/
def oracleSealWrong : ChangeSpec := { name := "oracleSeal", fn := fun _ => fun
  | [d1, d2, d3] => { results := [.lit (.bool false)], args := [d1, d2, d3] }
  | _ => none }
def OracleSealWrongFalsely : Prop := oracleSealRow.holds Try.pinned (OpenSpec.ofChange oracleSealWrong)

/-- 'moidorelaw10.OracleIsolated': WHATEVER THE INPUT: true; the input reads as it did. -/
def oracleIsolatedSpec : ChangeSpec := { name := "oracleIsolated", fn := fun _ => fun
  | [d1, d2, d3] => { results := [.lit (.bool true)], args := [d1, d2, d3] }
  | _ => none }
def oracleIsolatedRow : OpenClaim := { program := "ytdkilbnocmnekaa", sum := "879dfdce8b02bfabd612c0087d854e9050cc33e6966c953adbf99e91423fcfa3", func := "moidore/moidorelaw10.OracleIsolated", spec := "oracleIsolated", inPlace := ["math/bits.Add64"], named := ["math/bits.divideError", "math/bits.overflowError"], apart := false }
def OracleIsolatedSaid : Prop := oracleIsolatedRow.holds Try.pinned (OpenSpec.ofChange oracleIsolatedSpec)

/-- ITS FALSE NEIGHBOUR: 'it returns false'. Refute it at one input. -/
def oracleIsolatedWrong : ChangeSpec := { name := "oracleIsolated", fn := fun _ => fun
  | [d1, d2, d3] => { results := [.lit (.bool false)], args := [d1, d2, d3] }
  | _ => none }
def OracleIsolatedWrongFalsely : Prop := oracleIsolatedRow.holds Try.pinned (OpenSpec.ofChange oracleIsolatedWrong)

/- THE SECOND FORM. 'bulk': how many values and letters a reading holds, each counted each time it is reached (what is shared counts as often as it is met; a slice's spare places count too). A statement '..UptoSaid' is the law's where the arguments, and the package variables that the reading takes, are together of bulk at most 1048576: NARROWER than '..Said'. Prove '..Said' where nothing that the law and all that it calls make is longer than what came in: it says more and counts as full. Else prove '..UptoSaid'. A law counts once. -/
mutual
def uptoBulk {H : Type} : DataW H → Nat
  | .lit (.string bytes) => bytes.length + 1
  | .lit _ => 1
  | .nil => 1
  | .ptr d => uptoBulk d + 1
  | .slice elems spare => uptoBulkAll elems + uptoBulkAll spare + 1
  | .agg parts => uptoBulkAll parts + 1
  | .iface _ d => uptoBulk d + 1
  | .map entries => uptoBulkEntries entries + 1
  | .held _ => 1
def uptoBulkAll {H : Type} : List (DataW H) → Nat
  | [] => 0
  | d :: r => uptoBulk d + uptoBulkAll r
def uptoBulkEntries {H : Type} : List (Lit × DataW H) → Nat
  | [] => 0
  | x :: r => uptoBulkEntry x + uptoBulkEntries r
def uptoBulkEntry {H : Type} : Lit × DataW H → Nat
  | (.string bytes, d) => bytes.length + uptoBulk d + 1
  | (_, d) => uptoBulk d + 1
 end
def uptoSmall : (H : Type) → List (DataW H) → Bool := fun _ ds => decide (uptoBulkAll ds ≤ 1048576)
def OpenSpec.upto (s : _root_.Go.ChangeSpec) : _root_.Go.OpenSpec := { _root_.Go.OpenSpec.ofChange s with cond := some uptoSmall }

/-- 'moidorelaw10.OracleCollision', WHERE WHAT IT READS IS OF BULK AT MOST 1048576: true; the input reads as it did. -/
def oracleCollisionUptoRow : OpenClaim := { program := "ytdkilbnocmnekaa", sum := "879dfdce8b02bfabd612c0087d854e9050cc33e6966c953adbf99e91423fcfa3", func := "moidore/moidorelaw10.OracleCollision", spec := "oracleCollision", inPlace := ["math/bits.Add64"], named := ["math/bits.divideError", "math/bits.overflowError"], apart := false, narrowed := true }
def OracleCollisionUptoSaid : Prop := oracleCollisionUptoRow.holds Try.pinned (OpenSpec.upto oracleCollisionSpec)

/-- 'moidorelaw34.NotePlain', WHERE WHAT IT READS IS OF BULK AT MOST 1048576: true; the input reads as it did. -/
def notePlainUptoRow : OpenClaim := { program := "ytdkilbnocmnekaa", sum := "879dfdce8b02bfabd612c0087d854e9050cc33e6966c953adbf99e91423fcfa3", func := "moidore/moidorelaw34.NotePlain", spec := "notePlain", inPlace := ["math/bits.Add64"], named := ["math/bits.divideError", "math/bits.overflowError"], apart := false, narrowed := true }
def NotePlainUptoSaid : Prop := notePlainUptoRow.holds Try.pinned (OpenSpec.upto notePlainSpec)

/-- 'moidorelaw34.NoteHidden', WHERE WHAT IT READS IS OF BULK AT MOST 1048576: true; the input reads as it did. -/
def noteHiddenUptoRow : OpenClaim := { program := "ytdkilbnocmnekaa", sum := "879dfdce8b02bfabd612c0087d854e9050cc33e6966c953adbf99e91423fcfa3", func := "moidore/moidorelaw34.NoteHidden", spec := "noteHidden", inPlace := ["math/bits.Add64"], named := ["math/bits.divideError", "math/bits.overflowError"], apart := false, narrowed := true }
def NoteHiddenUptoSaid : Prop := noteHiddenUptoRow.holds Try.pinned (OpenSpec.upto noteHiddenSpec)

/-- 'moidorelaw34.NoteBinds', WHERE WHAT IT READS IS OF BULK AT MOST 1048576: true; the input reads as it did. -/
def noteBindsUptoRow : OpenClaim := { program := "ytdkilbnocmnekaa", sum := "879dfdce8b02bfabd612c0087d854e9050cc33e6966c953adbf99e91423fcfa3", func := "moidore/moidorelaw34.NoteBinds", spec := "noteBinds", inPlace := ["math/bits.Add64"], named := ["math/bits.divideError", "math/bits.overflowError"], apart := false, narrowed := true }
def NoteBindsUptoSaid : Prop := noteBindsUptoRow.holds Try.pinned (OpenSpec.upto noteBindsSpec)

/-- 'moidorelaw34.NoteMarks', WHERE WHAT IT READS IS OF BULK AT MOST 1048576: true; the input reads as it did. -/
def noteMarksUptoRow : OpenClaim := { program := "ytdkilbnocmnekaa", sum := "879dfdce8b02bfabd612c0087d854e9050cc33e6966c953adbf99e91423fcfa3", func := "moidore/moidorelaw34.NoteMarks", spec := "noteMarks", inPlace := ["math/bits.Add64"], named := ["math/bits.divideError", "math/bits.overflowError"], apart := false, narrowed := true }
def NoteMarksUptoSaid : Prop := noteMarksUptoRow.holds Try.pinned (OpenSpec.upto noteMarksSpec)

/-- 'moidorelaw34.NoteAsks', WHERE WHAT IT READS IS OF BULK AT MOST 1048576: true; the input reads as it did. -/
def noteAsksUptoRow : OpenClaim := { program := "ytdkilbnocmnekaa", sum := "879dfdce8b02bfabd612c0087d854e9050cc33e6966c953adbf99e91423fcfa3", func := "moidore/moidorelaw34.NoteAsks", spec := "noteAsks", inPlace := ["math/bits.Add64"], named := ["math/bits.divideError", "math/bits.overflowError"], apart := false, narrowed := true }
def NoteAsksUptoSaid : Prop := noteAsksUptoRow.holds Try.pinned (OpenSpec.upto noteAsksSpec)

/-- 'moidorelaw10.OracleSeal', WHERE WHAT IT READS IS OF BULK AT MOST 1048576: true; the input reads as it did. -/
def oracleSealUptoRow : OpenClaim := { program := "ytdkilbnocmnekaa", sum := "879dfdce8b02bfabd612c0087d854e9050cc33e6966c953adbf99e91423fcfa3", func := "moidore/moidorelaw10.OracleSeal", spec := "oracleSeal", inPlace := ["math/bits.Add64"], named := ["math/bits.divideError", "math/bits.overflowError"], apart := false, narrowed := true }
def OracleSealUptoSaid : Prop := oracleSealUptoRow.holds Try.pinned (OpenSpec.upto oracleSealSpec)

/-- 'moidorelaw10.OracleIsolated', WHERE WHAT IT READS IS OF BULK AT MOST 1048576: true; the input reads as it did. -/
def oracleIsolatedUptoRow : OpenClaim := { program := "ytdkilbnocmnekaa", sum := "879dfdce8b02bfabd612c0087d854e9050cc33e6966c953adbf99e91423fcfa3", func := "moidore/moidorelaw10.OracleIsolated", spec := "oracleIsolated", inPlace := ["math/bits.Add64"], named := ["math/bits.divideError", "math/bits.overflowError"], apart := false, narrowed := true }
def OracleIsolatedUptoSaid : Prop := oracleIsolatedUptoRow.holds Try.pinned (OpenSpec.upto oracleIsolatedSpec)

end Rows
end Go.Proofs.Ytdkilbnocmnekaa
