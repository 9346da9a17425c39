/-
  No cell of these rows narrows 'for every input' (looked for: loops, veiled, ifaces, maps, wideKeys, modest, calm, conditions, laid).
  DERIVED. THE GIVEN ROWS OF THIS SEAT. 12 by the template 'for every input the law returns true; each argument reads behind the call as it read before'; 0 by the template 'total and deterministic' (their statements: YtdpgfjnpcjpdpaaTotals.lean).
  GIVEN WITH THE SEED: the statements are not yours to turn. If you find one false, say at which input.
  Laid BY PROGRAM, IN A SANDBOX (cutbox-rows.mjs): the forced cells as the released guide's own fill.sh prints them over the translation 748cb1af05be50bf… (all of the seat's roots in one cut). By AI agents, Wed Nov 11 2026. No macro, syntax, notation, axiom, sorry.
-/
import Derived.Test.YtdpgfjnpcjpdpaaChecked
import GoSem.Claim
import GoSem.ClaimJoined
import GoSem.ClaimMapViews
import Derived.JoinedTies
import Derived.KernelRfl
namespace Go.Proofs.Ytdpgfjnpcjpdpaa
/- THE CELL 'sum', in the pinned program and in every row, IS THE sha256 OF THE DUMP (.gsa) THAT YtdpgfjnpcjpdpaaProg.lean LOADS. Nothing in Lean hashes anything: it is a label: what it is worth is what the hold of that sum in a sandbox is worth. -/
noncomputable def Try.pinned : Pinned := { name := "ytdpgfjnpcjpdpaa", sum := "748cb1af05be50bf11669a759c0665f579c12a160de40411c65f2689774b047a", checked := Try.checked }
namespace Rows
def none {H : Type} : Left H := { results := [], args := [] }

/-- 'moidorelaw12.MerklePath': WHATEVER THE INPUT: true; the input reads as it did. -/
def merklePathSpec : ChangeSpec := { name := "merklePath", fn := fun _ => fun
  | [d1, d2] => { results := [.lit (.bool true)], args := [d1, d2] }
  | _ => none }
def merklePathRow : OpenClaim := { program := "ytdpgfjnpcjpdpaa", sum := "748cb1af05be50bf11669a759c0665f579c12a160de40411c65f2689774b047a", func := "moidore/moidorelaw12.MerklePath", spec := "merklePath", inPlace := ["math/bits.Add64"], unfollowed := true, recurses := true, named := ["math/bits.divideError", "math/bits.overflowError"], apart := false }
def MerklePathSaid : Prop := merklePathRow.holds Try.pinned (OpenSpec.ofChange merklePathSpec)

/-- ITS FALSE NEIGHBOUR: 'it returns false'. Refute it at one input. -/
def merklePathWrong : ChangeSpec := { name := "merklePath", fn := fun _ => fun
  | [d1, d2] => { results := [.lit (.bool false)], args := [d1, d2] }
  | _ => none }
def MerklePathWrongFalsely : Prop := merklePathRow.holds Try.pinned (OpenSpec.ofChange merklePathWrong)

/-- 'moidoretop.TopCommitmentsBind': WHATEVER THE INPUT: true; the input reads as it did. -/
def topCommitmentsBindSpec : ChangeSpec := { name := "topCommitmentsBind", fn := fun _ => fun
  | [d1, d2] => { results := [.lit (.bool true)], args := [d1, d2] }
  | _ => none }
def topCommitmentsBindRow : OpenClaim := { program := "ytdpgfjnpcjpdpaa", sum := "748cb1af05be50bf11669a759c0665f579c12a160de40411c65f2689774b047a", func := "moidore/moidoretop.TopCommitmentsBind", spec := "topCommitmentsBind", inPlace := ["math/bits.Add64"], named := ["math/bits.divideError", "math/bits.overflowError"], apart := false }
def TopCommitmentsBindSaid : Prop := topCommitmentsBindRow.holds Try.pinned (OpenSpec.ofChange topCommitmentsBindSpec)

/-- ITS FALSE NEIGHBOUR: 'it returns false'. Refute it at one input. -/
def topCommitmentsBindWrong : ChangeSpec := { name := "topCommitmentsBind", fn := fun _ => fun
  | [d1, d2] => { results := [.lit (.bool false)], args := [d1, d2] }
  | _ => none }
def TopCommitmentsBindWrongFalsely : Prop := topCommitmentsBindRow.holds Try.pinned (OpenSpec.ofChange topCommitmentsBindWrong)

/-- 'moidorelaw12.MerkleUnknown': WHATEVER THE INPUT: true; the input reads as it did. -/
def merkleUnknownSpec : ChangeSpec := { name := "merkleUnknown", fn := fun _ => fun
  | [d1, d2] => { results := [.lit (.bool true)], args := [d1, d2] }
  | _ => none }
def merkleUnknownRow : OpenClaim := { program := "ytdpgfjnpcjpdpaa", sum := "748cb1af05be50bf11669a759c0665f579c12a160de40411c65f2689774b047a", func := "moidore/moidorelaw12.MerkleUnknown", spec := "merkleUnknown", inPlace := ["math/bits.Add64"], unfollowed := true, recurses := true, named := ["math/bits.divideError", "math/bits.overflowError"], apart := false }
def MerkleUnknownSaid : Prop := merkleUnknownRow.holds Try.pinned (OpenSpec.ofChange merkleUnknownSpec)

/-- ITS FALSE NEIGHBOUR: 'it returns false'. Refute it at one input. -/
def merkleUnknownWrong : ChangeSpec := { name := "merkleUnknown", fn := fun _ => fun
  | [d1, d2] => { results := [.lit (.bool false)], args := [d1, d2] }
  | _ => none }
def MerkleUnknownWrongFalsely : Prop := merkleUnknownRow.holds Try.pinned (OpenSpec.ofChange merkleUnknownWrong)

/-- 'moidorelaw12.MerkleOpens': WHATEVER THE INPUT: true; the input reads as it did. -/
def merkleOpensSpec : ChangeSpec := { name := "merkleOpens", fn := fun _ => fun
  | [d1, d2, d3] => { results := [.lit (.bool true)], args := [d1, d2, d3] }
  | _ => none }
def merkleOpensRow : OpenClaim := { program := "ytdpgfjnpcjpdpaa", sum := "748cb1af05be50bf11669a759c0665f579c12a160de40411c65f2689774b047a", func := "moidore/moidorelaw12.MerkleOpens", spec := "merkleOpens", inPlace := ["math/bits.Add64"], unfollowed := true, recurses := true, named := ["math/bits.divideError", "math/bits.overflowError"], apart := false }
def MerkleOpensSaid : Prop := merkleOpensRow.holds Try.pinned (OpenSpec.ofChange merkleOpensSpec)

/-- ITS FALSE NEIGHBOUR: 'it returns false'. Refute it at one input. -/
def merkleOpensWrong : ChangeSpec := { name := "merkleOpens", fn := fun _ => fun
  | [d1, d2, d3] => { results := [.lit (.bool false)], args := [d1, d2, d3] }
  | _ => none }
def MerkleOpensWrongFalsely : Prop := merkleOpensRow.holds Try.pinned (OpenSpec.ofChange merkleOpensWrong)

/-- 'moidorelaw35.EnvelopeInjective': WHATEVER THE INPUT: true; the input reads as it did. -/
def envelopeInjectiveSpec : ChangeSpec := { name := "envelopeInjective", fn := fun _ => fun
  | [d1, d2, d3] => { results := [.lit (.bool true)], args := [d1, d2, d3] }
  | _ => none }
def envelopeInjectiveRow : OpenClaim := { program := "ytdpgfjnpcjpdpaa", sum := "748cb1af05be50bf11669a759c0665f579c12a160de40411c65f2689774b047a", func := "moidore/moidorelaw35.EnvelopeInjective", spec := "envelopeInjective", inPlace := ["math/bits.Add64"], named := ["math/bits.divideError", "math/bits.overflowError"], apart := false }
def EnvelopeInjectiveSaid : Prop := envelopeInjectiveRow.holds Try.pinned (OpenSpec.ofChange envelopeInjectiveSpec)

/-- ITS FALSE NEIGHBOUR: 'it returns false'. Refute it at one input. -/
def envelopeInjectiveWrong : ChangeSpec := { name := "envelopeInjective", fn := fun _ => fun
  | [d1, d2, d3] => { results := [.lit (.bool false)], args := [d1, d2, d3] }
  | _ => none }
def EnvelopeInjectiveWrongFalsely : Prop := envelopeInjectiveRow.holds Try.pinned (OpenSpec.ofChange envelopeInjectiveWrong)

/-- 'moidoretop.TopCiphersBind': WHATEVER THE INPUT: true; the input reads as it did. -/
def topCiphersBindSpec : ChangeSpec := { name := "topCiphersBind", fn := fun _ => fun
  | [d1, d2, d3] => { results := [.lit (.bool true)], args := [d1, d2, d3] }
  | _ => none }
def topCiphersBindRow : OpenClaim := { program := "ytdpgfjnpcjpdpaa", sum := "748cb1af05be50bf11669a759c0665f579c12a160de40411c65f2689774b047a", func := "moidore/moidoretop.TopCiphersBind", spec := "topCiphersBind", inPlace := ["math/bits.Add64"], named := ["math/bits.divideError", "math/bits.overflowError"], apart := false }
def TopCiphersBindSaid : Prop := topCiphersBindRow.holds Try.pinned (OpenSpec.ofChange topCiphersBindSpec)

/-- ITS FALSE NEIGHBOUR: 'it returns false'. Refute it at one input. -/
def topCiphersBindWrong : ChangeSpec := { name := "topCiphersBind", fn := fun _ => fun
  | [d1, d2, d3] => { results := [.lit (.bool false)], args := [d1, d2, d3] }
  | _ => none }
def TopCiphersBindWrongFalsely : Prop := topCiphersBindRow.holds Try.pinned (OpenSpec.ofChange topCiphersBindWrong)

/-- 'moidorelaw35.EnvelopeSeal': WHATEVER THE INPUT: true; the input reads as it did. -/
def envelopeSealSpec : ChangeSpec := { name := "envelopeSeal", fn := fun _ => fun
  | [d1, d2] => { results := [.lit (.bool true)], args := [d1, d2] }
  | _ => none }
def envelopeSealRow : OpenClaim := { program := "ytdpgfjnpcjpdpaa", sum := "748cb1af05be50bf11669a759c0665f579c12a160de40411c65f2689774b047a", func := "moidore/moidorelaw35.EnvelopeSeal", spec := "envelopeSeal", inPlace := ["math/bits.Add64"], named := ["math/bits.divideError", "math/bits.overflowError"], apart := false }
def EnvelopeSealSaid : Prop := envelopeSealRow.holds Try.pinned (OpenSpec.ofChange envelopeSealSpec)

/-- ITS FALSE NEIGHBOUR: 'it returns false'. Refute it at one input. -/
def envelopeSealWrong : ChangeSpec := { name := "envelopeSeal", fn := fun _ => fun
  | [d1, d2] => { results := [.lit (.bool false)], args := [d1, d2] }
  | _ => none }
def EnvelopeSealWrongFalsely : Prop := envelopeSealRow.holds Try.pinned (OpenSpec.ofChange envelopeSealWrong)

/-- 'moidorelaw35.EnvelopeForged': WHATEVER THE INPUT: true; the input reads as it did. -/
def envelopeForgedSpec : ChangeSpec := { name := "envelopeForged", fn := fun _ => fun
  | [d1, d2, d3] => { results := [.lit (.bool true)], args := [d1, d2, d3] }
  | _ => none }
def envelopeForgedRow : OpenClaim := { program := "ytdpgfjnpcjpdpaa", sum := "748cb1af05be50bf11669a759c0665f579c12a160de40411c65f2689774b047a", func := "moidore/moidorelaw35.EnvelopeForged", spec := "envelopeForged", inPlace := ["math/bits.Add64"], named := ["math/bits.divideError", "math/bits.overflowError"], apart := false }
def EnvelopeForgedSaid : Prop := envelopeForgedRow.holds Try.pinned (OpenSpec.ofChange envelopeForgedSpec)

/-- ITS FALSE NEIGHBOUR: 'it returns false'. Refute it at one input. -/
def envelopeForgedWrong : ChangeSpec := { name := "envelopeForged", fn := fun _ => fun
  | [d1, d2, d3] => { results := [.lit (.bool false)], args := [d1, d2, d3] }
  | _ => none }
def EnvelopeForgedWrongFalsely : Prop := envelopeForgedRow.holds Try.pinned (OpenSpec.ofChange envelopeForgedWrong)

/-- 'moidorelaw12.MerkleCommit': WHATEVER THE INPUT: true; the input reads as it did. -/
def merkleCommitSpec : ChangeSpec := { name := "merkleCommit", fn := fun _ => fun
  | [d1, d2, d3] => { results := [.lit (.bool true)], args := [d1, d2, d3] }
  | _ => none }
def merkleCommitRow : OpenClaim := { program := "ytdpgfjnpcjpdpaa", sum := "748cb1af05be50bf11669a759c0665f579c12a160de40411c65f2689774b047a", func := "moidore/moidorelaw12.MerkleCommit", spec := "merkleCommit", inPlace := ["math/bits.Add64"], unfollowed := true, recurses := true, named := ["math/bits.divideError", "math/bits.overflowError"], apart := false }
def MerkleCommitSaid : Prop := merkleCommitRow.holds Try.pinned (OpenSpec.ofChange merkleCommitSpec)

/-- ITS FALSE NEIGHBOUR: 'it returns false'. Refute it at one input. -/
def merkleCommitWrong : ChangeSpec := { name := "merkleCommit", fn := fun _ => fun
  | [d1, d2, d3] => { results := [.lit (.bool false)], args := [d1, d2, d3] }
  | _ => none }
def MerkleCommitWrongFalsely : Prop := merkleCommitRow.holds Try.pinned (OpenSpec.ofChange merkleCommitWrong)

/-- 'moidorelaw35.EnvelopeOpen': WHATEVER THE INPUT: true; the input reads as it did. -/
def envelopeOpenSpec : ChangeSpec := { name := "envelopeOpen", fn := fun _ => fun
  | [d1, d2, d3] => { results := [.lit (.bool true)], args := [d1, d2, d3] }
  | _ => none }
def envelopeOpenRow : OpenClaim := { program := "ytdpgfjnpcjpdpaa", sum := "748cb1af05be50bf11669a759c0665f579c12a160de40411c65f2689774b047a", func := "moidore/moidorelaw35.EnvelopeOpen", spec := "envelopeOpen", inPlace := ["math/bits.Add64"], named := ["math/bits.divideError", "math/bits.overflowError"], apart := false }
def EnvelopeOpenSaid : Prop := envelopeOpenRow.holds Try.pinned (OpenSpec.ofChange envelopeOpenSpec)

/-- ITS FALSE NEIGHBOUR: 'it returns false'. Refute it at one input. -/
def envelopeOpenWrong : ChangeSpec := { name := "envelopeOpen", fn := fun _ => fun
  | [d1, d2, d3] => { results := [.lit (.bool false)], args := [d1, d2, d3] }
  | _ => none }
def EnvelopeOpenWrongFalsely : Prop := envelopeOpenRow.holds Try.pinned (OpenSpec.ofChange envelopeOpenWrong)

/-- 'moidorelaw12.MerkleBinding': WHATEVER THE INPUT: true; the input reads as it did. -/
def merkleBindingSpec : ChangeSpec := { name := "merkleBinding", fn := fun _ => fun
  | [d1, d2] => { results := [.lit (.bool true)], args := [d1, d2] }
  | _ => none }
def merkleBindingRow : OpenClaim := { program := "ytdpgfjnpcjpdpaa", sum := "748cb1af05be50bf11669a759c0665f579c12a160de40411c65f2689774b047a", func := "moidore/moidorelaw12.MerkleBinding", spec := "merkleBinding", inPlace := ["math/bits.Add64"], unfollowed := true, recurses := true, named := ["math/bits.divideError", "math/bits.overflowError"], apart := false }
def MerkleBindingSaid : Prop := merkleBindingRow.holds Try.pinned (OpenSpec.ofChange merkleBindingSpec)

/-- ITS FALSE NEIGHBOUR: 'it returns false'. Refute it at one input. -/
def merkleBindingWrong : ChangeSpec := { name := "merkleBinding", fn := fun _ => fun
  | [d1, d2] => { results := [.lit (.bool false)], args := [d1, d2] }
  | _ => none }
def MerkleBindingWrongFalsely : Prop := merkleBindingRow.holds Try.pinned (OpenSpec.ofChange merkleBindingWrong)

/-- 'moidorelaw12.MerkleClash': WHATEVER THE INPUT: true; the input reads as it did. -/
def merkleClashSpec : ChangeSpec := { name := "merkleClash", fn := fun _ => fun
  | [d1, d2, d3] => { results := [.lit (.bool true)], args := [d1, d2, d3] }
  | _ => none }
def merkleClashRow : OpenClaim := { program := "ytdpgfjnpcjpdpaa", sum := "748cb1af05be50bf11669a759c0665f579c12a160de40411c65f2689774b047a", func := "moidore/moidorelaw12.MerkleClash", spec := "merkleClash", inPlace := ["math/bits.Add64"], unfollowed := true, recurses := true, named := ["math/bits.divideError", "math/bits.overflowError"], apart := false }
def MerkleClashSaid : Prop := merkleClashRow.holds Try.pinned (OpenSpec.ofChange merkleClashSpec)

/-- ITS FALSE NEIGHBOUR: 'it returns false'. Refute it at one input. -/
def merkleClashWrong : ChangeSpec := { name := "merkleClash", fn := fun _ => fun
  | [d1, d2, d3] => { results := [.lit (.bool false)], args := [d1, d2, d3] }
  | _ => none }
def MerkleClashWrongFalsely : Prop := merkleClashRow.holds Try.pinned (OpenSpec.ofChange merkleClashWrong)

/- THE SECOND FORM. 'bulk': how many values and letters a reading holds, each counted each time it is reached (what is shared counts as often as it is met; a slice's spare places count too). A statement '..UptoSaid' is the law's where the arguments, and the package variables that the reading takes, are together of bulk at most 1048576: NARROWER than '..Said'. Prove '..Said' where nothing that the law and all that it calls make is longer than what came in: it says more and counts as full. Else prove '..UptoSaid'. A law counts once. -/
mutual
def uptoBulk {H : Type} : DataW H → Nat
  | .lit (.string bytes) => bytes.length + 1
  | .lit _ => 1
  | .nil => 1
  | .ptr d => uptoBulk d + 1
  | .slice elems spare => uptoBulkAll elems + uptoBulkAll spare + 1
  | .agg parts => uptoBulkAll parts + 1
  | .iface _ d => uptoBulk d + 1
  | .map entries => uptoBulkEntries entries + 1
  | .held _ => 1
def uptoBulkAll {H : Type} : List (DataW H) → Nat
  | [] => 0
  | d :: r => uptoBulk d + uptoBulkAll r
def uptoBulkEntries {H : Type} : List (Lit × DataW H) → Nat
  | [] => 0
  | x :: r => uptoBulkEntry x + uptoBulkEntries r
def uptoBulkEntry {H : Type} : Lit × DataW H → Nat
  | (.string bytes, d) => bytes.length + uptoBulk d + 1
  | (_, d) => uptoBulk d + 1
 end
def uptoSmall : (H : Type) → List (DataW H) → Bool := fun _ ds => decide (uptoBulkAll ds ≤ 1048576)
def OpenSpec.upto (s : _root_.Go.ChangeSpec) : _root_.Go.OpenSpec := { _root_.Go.OpenSpec.ofChange s with cond := some uptoSmall }

/-- 'moidorelaw12.MerklePath', WHERE WHAT IT READS IS OF BULK AT MOST 1048576: true; the input reads as it did. -/
def merklePathUptoRow : OpenClaim := { program := "ytdpgfjnpcjpdpaa", sum := "748cb1af05be50bf11669a759c0665f579c12a160de40411c65f2689774b047a", func := "moidore/moidorelaw12.MerklePath", spec := "merklePath", inPlace := ["math/bits.Add64"], unfollowed := true, recurses := true, named := ["math/bits.divideError", "math/bits.overflowError"], apart := false, narrowed := true }
def MerklePathUptoSaid : Prop := merklePathUptoRow.holds Try.pinned (OpenSpec.upto merklePathSpec)

/-- 'moidoretop.TopCommitmentsBind', WHERE WHAT IT READS IS OF BULK AT MOST 1048576: true; the input reads as it did. -/
def topCommitmentsBindUptoRow : OpenClaim := { program := "ytdpgfjnpcjpdpaa", sum := "748cb1af05be50bf11669a759c0665f579c12a160de40411c65f2689774b047a", func := "moidore/moidoretop.TopCommitmentsBind", spec := "topCommitmentsBind", inPlace := ["math/bits.Add64"], named := ["math/bits.divideError", "math/bits.overflowError"], apart := false, narrowed := true }
def TopCommitmentsBindUptoSaid : Prop := topCommitmentsBindUptoRow.holds Try.pinned (OpenSpec.upto topCommitmentsBindSpec)

/-- 'moidorelaw12.MerkleUnknown', WHERE WHAT IT READS IS OF BULK AT MOST 1048576: true; the input reads as it did. -/
def merkleUnknownUptoRow : OpenClaim := { program := "ytdpgfjnpcjpdpaa", sum := "748cb1af05be50bf11669a759c0665f579c12a160de40411c65f2689774b047a", func := "moidore/moidorelaw12.MerkleUnknown", spec := "merkleUnknown", inPlace := ["math/bits.Add64"], unfollowed := true, recurses := true, named := ["math/bits.divideError", "math/bits.overflowError"], apart := false, narrowed := true }
def MerkleUnknownUptoSaid : Prop := merkleUnknownUptoRow.holds Try.pinned (OpenSpec.upto merkleUnknownSpec)

/-- 'moidorelaw12.MerkleOpens', WHERE WHAT IT READS IS OF BULK AT MOST 1048576: true; the input reads as it did. -/
def merkleOpensUptoRow : OpenClaim := { program := "ytdpgfjnpcjpdpaa", sum := "748cb1af05be50bf11669a759c0665f579c12a160de40411c65f2689774b047a", func := "moidore/moidorelaw12.MerkleOpens", spec := "merkleOpens", inPlace := ["math/bits.Add64"], unfollowed := true, recurses := true, named := ["math/bits.divideError", "math/bits.overflowError"], apart := false, narrowed := true }
def MerkleOpensUptoSaid : Prop := merkleOpensUptoRow.holds Try.pinned (OpenSpec.upto merkleOpensSpec)

/-- 'moidorelaw35.EnvelopeInjective', WHERE WHAT IT READS IS OF BULK AT MOST 1048576: true; the input reads as it did. -/
def envelopeInjectiveUptoRow : OpenClaim := { program := "ytdpgfjnpcjpdpaa", sum := "748cb1af05be50bf11669a759c0665f579c12a160de40411c65f2689774b047a", func := "moidore/moidorelaw35.EnvelopeInjective", spec := "envelopeInjective", inPlace := ["math/bits.Add64"], named := ["math/bits.divideError", "math/bits.overflowError"], apart := false, narrowed := true }
def EnvelopeInjectiveUptoSaid : Prop := envelopeInjectiveUptoRow.holds Try.pinned (OpenSpec.upto envelopeInjectiveSpec)

/-- 'moidoretop.TopCiphersBind', WHERE WHAT IT READS IS OF BULK AT MOST 1048576: true; the input reads as it did. -/
def topCiphersBindUptoRow : OpenClaim := { program := "ytdpgfjnpcjpdpaa", sum := "748cb1af05be50bf11669a759c0665f579c12a160de40411c65f2689774b047a", func := "moidore/moidoretop.TopCiphersBind", spec := "topCiphersBind", inPlace := ["math/bits.Add64"], named := ["math/bits.divideError", "math/bits.overflowError"], apart := false, narrowed := true }
def TopCiphersBindUptoSaid : Prop := topCiphersBindUptoRow.holds Try.pinned (OpenSpec.upto topCiphersBindSpec)

/-- 'moidorelaw35.EnvelopeSeal', WHERE WHAT IT READS IS OF BULK AT MOST 1048576: true; the input reads as it did. -/
def envelopeSealUptoRow : OpenClaim := { program := "ytdpgfjnpcjpdpaa", sum := "748cb1af05be50bf11669a759c0665f579c12a160de40411c65f2689774b047a", func := "moidore/moidorelaw35.EnvelopeSeal", spec := "envelopeSeal", inPlace := ["math/bits.Add64"], named := ["math/bits.divideError", "math/bits.overflowError"], apart := false, narrowed := true }
def EnvelopeSealUptoSaid : Prop := envelopeSealUptoRow.holds Try.pinned (OpenSpec.upto envelopeSealSpec)

/-- 'moidorelaw35.EnvelopeForged', WHERE WHAT IT READS IS OF BULK AT MOST 1048576: true; the input reads as it did. -/
def envelopeForgedUptoRow : OpenClaim := { program := "ytdpgfjnpcjpdpaa", sum := "748cb1af05be50bf11669a759c0665f579c12a160de40411c65f2689774b047a", func := "moidore/moidorelaw35.EnvelopeForged", spec := "envelopeForged", inPlace := ["math/bits.Add64"], named := ["math/bits.divideError", "math/bits.overflowError"], apart := false, narrowed := true }
def EnvelopeForgedUptoSaid : Prop := envelopeForgedUptoRow.holds Try.pinned (OpenSpec.upto envelopeForgedSpec)

/-- 'moidorelaw12.MerkleCommit', WHERE WHAT IT READS IS OF BULK AT MOST 1048576: true; the input reads as it did. -/
def merkleCommitUptoRow : OpenClaim := { program := "ytdpgfjnpcjpdpaa", sum := "748cb1af05be50bf11669a759c0665f579c12a160de40411c65f2689774b047a", func := "moidore/moidorelaw12.MerkleCommit", spec := "merkleCommit", inPlace := ["math/bits.Add64"], unfollowed := true, recurses := true, named := ["math/bits.divideError", "math/bits.overflowError"], apart := false, narrowed := true }
def MerkleCommitUptoSaid : Prop := merkleCommitUptoRow.holds Try.pinned (OpenSpec.upto merkleCommitSpec)

/-- 'moidorelaw35.EnvelopeOpen', WHERE WHAT IT READS IS OF BULK AT MOST 1048576: true; the input reads as it did. -/
def envelopeOpenUptoRow : OpenClaim := { program := "ytdpgfjnpcjpdpaa", sum := "748cb1af05be50bf11669a759c0665f579c12a160de40411c65f2689774b047a", func := "moidore/moidorelaw35.EnvelopeOpen", spec := "envelopeOpen", inPlace := ["math/bits.Add64"], named := ["math/bits.divideError", "math/bits.overflowError"], apart := false, narrowed := true }
def EnvelopeOpenUptoSaid : Prop := envelopeOpenUptoRow.holds Try.pinned (OpenSpec.upto envelopeOpenSpec)

/-- 'moidorelaw12.MerkleBinding', WHERE WHAT IT READS IS OF BULK AT MOST 1048576: true; the input reads as it did. -/
def merkleBindingUptoRow : OpenClaim := { program := "ytdpgfjnpcjpdpaa", sum := "748cb1af05be50bf11669a759c0665f579c12a160de40411c65f2689774b047a", func := "moidore/moidorelaw12.MerkleBinding", spec := "merkleBinding", inPlace := ["math/bits.Add64"], unfollowed := true, recurses := true, named := ["math/bits.divideError", "math/bits.overflowError"], apart := false, narrowed := true }
def MerkleBindingUptoSaid : Prop := merkleBindingUptoRow.holds Try.pinned (OpenSpec.upto merkleBindingSpec)

/-- 'moidorelaw12.MerkleClash', WHERE WHAT IT READS IS OF BULK AT MOST 1048576: true; the input reads as it did. -/
def merkleClashUptoRow : OpenClaim := { program := "ytdpgfjnpcjpdpaa", sum := "748cb1af05be50bf11669a759c0665f579c12a160de40411c65f2689774b047a", func := "moidore/moidorelaw12.MerkleClash", spec := "merkleClash", inPlace := ["math/bits.Add64"], unfollowed := true, recurses := true, named := ["math/bits.divideError", "math/bits.overflowError"], apart := false, narrowed := true }
def MerkleClashUptoSaid : Prop := merkleClashUptoRow.holds Try.pinned (OpenSpec.upto merkleClashSpec)

end Rows
end Go.Proofs.Ytdpgfjnpcjpdpaa
