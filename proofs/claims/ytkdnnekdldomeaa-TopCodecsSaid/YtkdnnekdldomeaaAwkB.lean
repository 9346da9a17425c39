/- awake47's two blocks: both valid, with different identifiers (plain). -/
import Derived.Test.YtkdnnekdldomeaaBlkLaw
namespace Go.Proofs.Ytkdnnekdldomeaa
open Go.RowKit
def awA : BlkT := { parent := 0, height := 1, miner := 5, work := 1, nonce := 0, txs := [] }
def awB : BlkT := { parent := 0, height := 1, miner := 5, work := 1, nonce := 1, txs := [] }
theorem awA_ok : blkV awA = 0 := by decide +kernel
theorem awB_ok : blkV awB = 0 := by decide +kernel
theorem awA_len : (blkB awA).length = 40 := by decide +kernel
theorem awAB_ids : ¬ blkId awA = blkId awB := by decide +kernel
end Go.Proofs.Ytkdnnekdldomeaa
