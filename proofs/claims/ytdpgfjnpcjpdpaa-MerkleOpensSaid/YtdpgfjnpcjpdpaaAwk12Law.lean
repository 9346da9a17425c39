/- Plain: the examples of the chapter merkle. -/
import Derived.Test.YtdpgfjnpcjpdpaaFolLaw
import Derived.Test.YtdpgfjnpcjpdpaaOrc2
namespace Go.Proofs.Ytdpgfjnpcjpdpaa
open Go.RowKit
def awL : Lv := [[1], [2], [3], [4]]
def awS : List UInt64 := [5, 6, 7, 8]
def awT : Lv × Orc := (Orc.fresh true 1).commitT awL awS
theorem awT_eq : (Orc.fresh true 1).commitT awL awS = awT := rfl
theorem aw_ok : commitOk awL awS = true := by decide +kernel
theorem aw_lens : awT.1.map List.length = [4, 2, 1] := by decide +kernel
theorem aw_formed : formed awT.1 = true := by decide +kernel
theorem aw_qs : awT.2.qs.length = 7 := by decide +kernel
theorem aw_draws : awT.2.draws = 7 := by decide +kernel
theorem aw_ideal : awT.2.ideal = true := by decide +kernel
theorem aw_path : pathL awT.1 2 = [at2 awT.1 0 3, at2 awT.1 1 0] := by decide +kernel
theorem aw_yes : (awT.2.verify (rootL awT.1) 4 2 ⟨[3], 7, [at2 awT.1 0 3, at2 awT.1 1 0]⟩).1 = true := by decide +kernel
theorem aw_no : (awT.2.verify (rootL awT.1) 4 3 ⟨[3], 7, [at2 awT.1 0 3, at2 awT.1 1 0]⟩).1 = false := by decide +kernel
theorem verify_ideal {M : Orc} (h : M.ideal = true) (root : UInt64) (n i : Int) (x : Opn) : (M.verify root n i x).2 = M := by
  unfold Orc.verify
  split
  · exact peekF_orc _ _ _ _
  · rfl
end Go.Proofs.Ytdpgfjnpcjpdpaa
