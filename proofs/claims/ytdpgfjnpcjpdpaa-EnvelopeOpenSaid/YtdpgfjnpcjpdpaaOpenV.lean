/- A list of view exponents, an argument, opened. -/
import Derived.Test.YtdpgfjnpcjpdpaaOpenP
namespace Go.Proofs.Ytdpgfjnpcjpdpaa
open Go.ChangeShapes Go.WideShapes Go.ChangeAt Go.RowKit Go.Joins
section
variable {H : Type} {enc : TypeId × Value → H} {W : World} {base : Nat} {sp : Nat → Bool} {held : Bool}
set_option maxRecDepth 100000 in
theorem open_views {r : Reach} {v : Value} {d : DataW H} {p : List MemPlace} (hv : Value.okWide Try.prog W r base 24 v) {b' : Nat} (h : DataW.Trod enc Try.prog W b' sp held 24 v d p) : ∃ l : List UInt64, RdU' W v l := by
  have ht : Try.prog.underlying 24 = some (.slice 28) := Try.underlying24
  obtain ⟨a, len, cap, rfl⟩ := okWide_slice ht hv
  obtain ⟨fuel, hf⟩ := h
  exact open_u64s hf
end
end Go.Proofs.Ytdpgfjnpcjpdpaa
