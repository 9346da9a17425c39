/-
  No cell of these rows narrows 'for every input' (looked for: loops, veiled, ifaces, maps, wideKeys, modest, calm, conditions, laid).
  DERIVED. THE GIVEN ROWS OF THIS SEAT. 2 by the template 'for every input the law returns true; each argument reads behind the call as it read before'; 0 by the template 'total and deterministic' (their statements: YtgfmjfkdogcnhaaGreatTotals.lean).
  GIVEN WITH THE SEED: the statements are not yours to turn. If you find one false, say at which input.
  Laid BY PROGRAM, IN A SANDBOX (cutbox-rows.mjs): the forced cells as the released guide's own fill.sh prints them over the translation 208016b3e17ccf08… (all of the seat's roots in one cut). By AI agents, Wed Nov 11 2026. No macro, syntax, notation, axiom, sorry.
-/
import Derived.Test.YtgfmjfkdogcnhaaGreatChecked
import GoSem.Claim
import GoSem.ClaimJoined
import GoSem.ClaimMapViews
import Derived.JoinedTies
import Derived.KernelRfl
namespace Go.Proofs.YtgfmjfkdogcnhaaGreat
/- THE CELL 'sum', in the pinned program and in every row, IS THE sha256 OF THE DUMP (.gsa) THAT YtgfmjfkdogcnhaaGreatProg.lean LOADS. Nothing in Lean hashes anything: it is a label: what it is worth is what the hold of that sum in a sandbox is worth. -/
noncomputable def Tryz.pinned : Pinned := { name := "ytgfmjfkdogcnhaagreat", sum := "208016b3e17ccf08e003632071b654fcb804a1df7cc729c78fb0eccc3a90c28f", checked := Tryz.checked }
namespace Rows
def none {H : Type} : Left H := { results := [], args := [] }

/-- 'moidorelaw35.EnvelopeTryAny': WHATEVER THE INPUT: true; the input reads as it did. -/
def envelopeTryAnySpec : ChangeSpec := { name := "envelopeTryAny", fn := fun _ => fun
  | [d1, d2, d3] => { results := [.lit (.bool true)], args := [d1, d2, d3] }
  | _ => none }
def envelopeTryAnyRow : OpenClaim := { program := "ytgfmjfkdogcnhaagreat", sum := "208016b3e17ccf08e003632071b654fcb804a1df7cc729c78fb0eccc3a90c28f", func := "moidore/moidorelaw35.EnvelopeTryAny", spec := "envelopeTryAny", inPlace := ["math/bits.Add64"], named := ["math/bits.divideError", "math/bits.overflowError"], apart := false }
def EnvelopeTryAnySaid : Prop := envelopeTryAnyRow.holds Tryz.pinned (OpenSpec.ofChange envelopeTryAnySpec)

/-- ITS FALSE NEIGHBOUR: 'it returns false'. Refute it at one input. -/
def envelopeTryAnyWrong : ChangeSpec := { name := "envelopeTryAny", fn := fun _ => fun
  | [d1, d2, d3] => { results := [.lit (.bool false)], args := [d1, d2, d3] }
  | _ => none }
def EnvelopeTryAnyWrongFalsely : Prop := envelopeTryAnyRow.holds Tryz.pinned (OpenSpec.ofChange envelopeTryAnyWrong)

/-- 'moidorelaw35.EnvelopeTry': WHATEVER THE INPUT: true; the input reads as it did. -/
def envelopeTrySpec : ChangeSpec := { name := "envelopeTry", fn := fun _ => fun
  | [d1, d2, d3] => { results := [.lit (.bool true)], args := [d1, d2, d3] }
  | _ => none }
def envelopeTryRow : OpenClaim := { program := "ytgfmjfkdogcnhaagreat", sum := "208016b3e17ccf08e003632071b654fcb804a1df7cc729c78fb0eccc3a90c28f", func := "moidore/moidorelaw35.EnvelopeTry", spec := "envelopeTry", inPlace := ["math/bits.Add64"], named := ["math/bits.divideError", "math/bits.overflowError"], apart := false }
def EnvelopeTrySaid : Prop := envelopeTryRow.holds Tryz.pinned (OpenSpec.ofChange envelopeTrySpec)

/-- ITS FALSE NEIGHBOUR: 'it returns false'. Refute it at one input. -/
def envelopeTryWrong : ChangeSpec := { name := "envelopeTry", fn := fun _ => fun
  | [d1, d2, d3] => { results := [.lit (.bool false)], args := [d1, d2, d3] }
  | _ => none }
def EnvelopeTryWrongFalsely : Prop := envelopeTryRow.holds Tryz.pinned (OpenSpec.ofChange envelopeTryWrong)

/- THE SECOND FORM. 'bulk': how many values and letters a reading holds, each counted each time it is reached (what is shared counts as often as it is met; a slice's spare places count too). A statement '..UptoSaid' is the law's where the arguments, and the package variables that the reading takes, are together of bulk at most 1048576: NARROWER than '..Said'. Prove '..Said' where nothing that the law and all that it calls make is longer than what came in: it says more and counts as full. Else prove '..UptoSaid'. A law counts once. -/
mutual
def uptoBulk {H : Type} : DataW H → Nat
  | .lit (.string bytes) => bytes.length + 1
  | .lit _ => 1
  | .nil => 1
  | .ptr d => uptoBulk d + 1
  | .slice elems spare => uptoBulkAll elems + uptoBulkAll spare + 1
  | .agg parts => uptoBulkAll parts + 1
  | .iface _ d => uptoBulk d + 1
  | .map entries => uptoBulkEntries entries + 1
  | .held _ => 1
def uptoBulkAll {H : Type} : List (DataW H) → Nat
  | [] => 0
  | d :: r => uptoBulk d + uptoBulkAll r
def uptoBulkEntries {H : Type} : List (Lit × DataW H) → Nat
  | [] => 0
  | x :: r => uptoBulkEntry x + uptoBulkEntries r
def uptoBulkEntry {H : Type} : Lit × DataW H → Nat
  | (.string bytes, d) => bytes.length + uptoBulk d + 1
  | (_, d) => uptoBulk d + 1
 end
def uptoSmall : (H : Type) → List (DataW H) → Bool := fun _ ds => decide (uptoBulkAll ds ≤ 1048576)
def OpenSpec.upto (s : _root_.Go.ChangeSpec) : _root_.Go.OpenSpec := { _root_.Go.OpenSpec.ofChange s with cond := some uptoSmall }

/-- 'moidorelaw35.EnvelopeTryAny', WHERE WHAT IT READS IS OF BULK AT MOST 1048576: true; the input reads as it did. -/
def envelopeTryAnyUptoRow : OpenClaim := { program := "ytgfmjfkdogcnhaagreat", sum := "208016b3e17ccf08e003632071b654fcb804a1df7cc729c78fb0eccc3a90c28f", func := "moidore/moidorelaw35.EnvelopeTryAny", spec := "envelopeTryAny", inPlace := ["math/bits.Add64"], named := ["math/bits.divideError", "math/bits.overflowError"], apart := false, narrowed := true }
def EnvelopeTryAnyUptoSaid : Prop := envelopeTryAnyUptoRow.holds Tryz.pinned (OpenSpec.upto envelopeTryAnySpec)

/-- 'moidorelaw35.EnvelopeTry', WHERE WHAT IT READS IS OF BULK AT MOST 1048576: true; the input reads as it did. -/
def envelopeTryUptoRow : OpenClaim := { program := "ytgfmjfkdogcnhaagreat", sum := "208016b3e17ccf08e003632071b654fcb804a1df7cc729c78fb0eccc3a90c28f", func := "moidore/moidorelaw35.EnvelopeTry", spec := "envelopeTry", inPlace := ["math/bits.Add64"], named := ["math/bits.divideError", "math/bits.overflowError"], apart := false, narrowed := true }
def EnvelopeTryUptoSaid : Prop := envelopeTryUptoRow.holds Tryz.pinned (OpenSpec.upto envelopeTrySpec)

end Rows
end Go.Proofs.YtgfmjfkdogcnhaaGreat
