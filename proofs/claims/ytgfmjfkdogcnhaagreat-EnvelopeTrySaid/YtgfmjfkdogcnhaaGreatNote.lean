/- The note package: elements. -/
import Derived.Test.YtgfmjfkdogcnhaaGreatNoteV
set_option linter.unusedSimpArgs false
namespace Go.Proofs.YtgfmjfkdogcnhaaGreat
open Go.RowKit
attribute [local irreducible] perm fAdd fMul fPow fSub fNeg fRed

set_option maxRecDepth 100000 in
set_option maxHeartbeats 1600000 in
theorem noteElements_any (n : Nt) (w : World) : Calls Tryz.prog 42 #[nv n] w (NewL w n.list) := by
  obtain ⟨a, b, c, d⟩ := n
  unfold nv
  simp only
  go_enter Tryz.func42, Tryz.ntmps42
  go_wp2
  go_ret
  have h := (Ext.refl w).alloc (.cells #[uv a, uv b, uv c, uv d] 42)
  have := newL_of (T := 22) (cs := #[uv a, uv b, uv c, uv d]) h (l := [a, b, c, d]) rfl (by simp)
  rw [World.size_alloc] at this
  exact this

end Go.Proofs.YtgfmjfkdogcnhaaGreat
