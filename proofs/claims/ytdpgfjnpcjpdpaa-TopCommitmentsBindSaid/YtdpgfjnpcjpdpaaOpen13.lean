/- Arguments opened: lists of leaves with their salts. -/
import Derived.Test.YtdpgfjnpcjpdpaaOpenL
namespace Go.Proofs.Ytdpgfjnpcjpdpaa
open Go.ChangeShapes Go.WideShapes Go.ChangeAt Go.RowKit Go.Joins
theorem list13_cells : Try.prog.cellsOf 36 = 2 := by kernel_rfl
theorem lists_cell13 : Try.prog.cellsOf 22 = 1 := by kernel_rfl
section
variable {H : Type} {enc : TypeId × Value → H} {W : World} {base : Nat} {sp : Nat → Bool} {held : Bool}
set_option maxRecDepth 100000 in
theorem open_list13 {r : Reach} {v : Value} {d : DataW H} {p : List MemPlace} {b0 : Nat} (hv : Value.okWide Try.prog W r b0 36 v) {b' : Nat} (h : DataW.Trod enc Try.prog W b' sp held 36 v d p) :
    ∃ (lv sv : Value) (leaves : Lv) (salts : List UInt64), v = .agg #[lv, sv] ∧ RdL W lv leaves ∧ RdU W sv salts := by
  have hv' := hv
  unfold Value.okWide at hv'
  rw [Try.underlying36] at hv'
  obtain ⟨cs0, he0, -, ts, hts, -, hrow⟩ := hv'
  have hct : Try.prog.cellTypes Try.prog.depth 36 = some [22, 24] := by kernel_rfl
  rw [hct] at hts
  obtain rfl := Option.some.inj hts
  obtain ⟨cs, rfl, hsz⟩ := okWide_struct Try.underlying36 hv
  rw [list13_cells] at hsz
  injection he0 with he0
  subst he0
  obtain ⟨fuel, hf⟩ := h
  obtain ⟨y0, y1, m, -, -, h0, h1⟩ := trod_struct2 Try.underlying36 hf
  obtain ⟨cl⟩ := cs
  match cl, hsz with
  | [c0, c1], _ =>
    simp only [lists_cell13, u64s_cell1] at h0 h1
    have k0 : Value.okWide Try.prog W r b0 22 c0 := by
      obtain ⟨t, ht, hok⟩ := hrow 0 c0 rfl
      obtain rfl : t = 22 := (Option.some.inj ht).symm
      unfold Value.okWide
      rw [Try.underlying22]
      exact hok
    have k1 : Value.okWide Try.prog W r b0 24 c1 := by
      obtain ⟨t, ht, hok⟩ := hrow 1 c1 rfl
      obtain rfl : t = 24 := (Option.some.inj ht).symm
      unfold Value.okWide
      rw [Try.underlying24]
      exact hok
    obtain ⟨a0, l0, e0, rfl⟩ := okWide_slice Try.underlying22 k0
    obtain ⟨a1, l1, e1, rfl⟩ := okWide_slice Try.underlying24 k1
    obtain ⟨leaves, hl⟩ := open_lists k0 ⟨_, h0⟩
    obtain ⟨salts, hs⟩ := open_nums k1 ⟨_, h1⟩
    exact ⟨_, _, leaves, salts, rfl, hl, hs⟩
end
end Go.Proofs.Ytdpgfjnpcjpdpaa
