/- Texts of this claim, joined: NoteIn. -/
import Derived.Laws.StructEq
import Derived.Test.YtcikjcjfcanloaaGreatJa25
import Derived.Test.YtcikjcjfcanloaaGreatJb1
set_option linter.unusedSimpArgs false
namespace Go.Proofs.YtcikjcjfcanloaaGreat
open Go.RowKit
theorem noteEqIn (a b : Nt) (w : World) : (Op.equalIn 10000 37 (nv a) (nv b)).run Tryz.prog w = .ok (a.same b) w := by
  unfold nv
  rw [show (10000 : Nat) = 9999 + 1 from rfl, run_equalIn_struct w 9999 37 _ _ Tryz.note_struct Tryz.note_held]
  have hf := Tryz.note_fields
  generalize (Tryz.prog.fieldsOf 37).toList = fs at hf
  obtain ⟨f0, f1, f2, f3, rfl⟩ : ∃ f0 f1 f2 f3, fs = [f0, f1, f2, f3] := by
    have hl : fs.length = 4 := by have := congrArg List.length hf; rwa [List.length_map] at this
    match fs, hl with
    | [a, b, c, d], _ => exact ⟨a, b, c, d, rfl⟩
  simp only [List.map_cons, List.map_nil, List.cons.injEq, Prod.mk.injEq, and_true, decide_eq_true_eq] at hf
  obtain ⟨⟨n0, t0, o0⟩, ⟨n1, t1, o1⟩, ⟨n2, t2, o2⟩, n3, t3, o3⟩ := hf
  have hu : Tryz.prog.underlying 22 = some (.int .u64) := Tryz.underlying22
  simp [Op.eqFields, n0, n1, n2, n3, t0, t1, t2, t3, o0, o1, o2, o3, go_sem, hu, u_beq, Nt.same]
  by_cases h0 : a.value = b.value <;> by_cases h1 : a.owner = b.owner <;> by_cases h2 : a.rho = b.rho <;> by_cases h3 : a.blind = b.blind <;> simp [h0, h1, h2, h3]
end Go.Proofs.YtcikjcjfcanloaaGreat
