/- Comparisons with the prime. -/
import Derived.Test.YtdpgfjnpcjpdpaaSame
import Derived.Test.YtdpgfjnpcjpdpaaQs
namespace Go.Proofs.Ytdpgfjnpcjpdpaa
open Go.RowKit
theorem ge_big_dec (x : UInt64) : decide ((18446744069414584321 : Int) ≤ (x.toNat : Int)) = !decide (x < big) := by
  rw [← lt_big_dec]
  by_cases h : (x.toNat : Int) < 18446744069414584321
  · rw [decide_eq_true h, decide_eq_false (by omega)]; rfl
  · rw [decide_eq_false h, decide_eq_true (by omega)]; rfl
end Go.Proofs.Ytdpgfjnpcjpdpaa
