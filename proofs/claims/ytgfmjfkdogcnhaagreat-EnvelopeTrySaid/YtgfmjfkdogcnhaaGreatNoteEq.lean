/- Two notes compared. -/
import Derived.Test.YtgfmjfkdogcnhaaGreatNote
import Derived.Laws.StructEq
set_option linter.unusedSimpArgs false
namespace Go.Proofs.YtgfmjfkdogcnhaaGreat
open Go.RowKit
def Nt.same (a b : Nt) : Bool := a.value == b.value && a.owner == b.owner && a.rho == b.rho && a.blind == b.blind
theorem Nt.same_iff {a b : Nt} : a.same b = true ↔ a = b := by
  obtain ⟨a1, a2, a3, a4⟩ := a
  obtain ⟨b1, b2, b3, b4⟩ := b
  simp [Nt.same, and_assoc]
theorem u_beq (x y : UInt64) : ((x.toNat : Int) == (y.toNat : Int)) = (x == y) := by
  rw [Bool.eq_iff_iff]
  simp only [beq_iff_eq]
  constructor
  · intro h; exact UInt64.toNat_inj.1 (by omega)
  · rintro rfl; rfl
theorem Tryz.note_struct : Tryz.prog.underlying 42 = some (.struct (Tryz.prog.fieldsOf 42)) := by kernel_rfl
theorem Tryz.note_held : Tryz.prog.stoodInHeld 42 = false := by kernel_rfl
theorem Tryz.note_fields : (Tryz.prog.fieldsOf 42).toList.map (fun f => (decide (f.name ≠ "_"), f.type, f.offset)) = [(true, 22, 0), (true, 22, 1), (true, 22, 2), (true, 22, 3)] := by kernel_rfl
theorem noteEq (a b : Nt) (w : World) : (binOp .eql 42 (nv a) (nv b)).run Tryz.prog w = .ok (.bool (a.same b)) w := by
  unfold nv
  rw [run_eql_struct, show (10000 : Nat) = 9999 + 1 from rfl, run_equalIn_struct w 9999 42 _ _ Tryz.note_struct Tryz.note_held]
  have hf := Tryz.note_fields
  generalize (Tryz.prog.fieldsOf 42).toList = fs at hf
  obtain ⟨f0, f1, f2, f3, rfl⟩ : ∃ f0 f1 f2 f3, fs = [f0, f1, f2, f3] := by
    have hl : fs.length = 4 := by have := congrArg List.length hf; rwa [List.length_map] at this
    obtain ⟨f0, fs, rfl⟩ := List.exists_cons_of_length_eq_add_one hl
    obtain ⟨f1, fs, rfl⟩ := List.exists_cons_of_length_eq_add_one (Nat.succ.inj hl)
    obtain ⟨f2, fs, rfl⟩ := List.exists_cons_of_length_eq_add_one (Nat.succ.inj (Nat.succ.inj hl))
    obtain ⟨f3, fs, rfl⟩ := List.exists_cons_of_length_eq_add_one (Nat.succ.inj (Nat.succ.inj (Nat.succ.inj hl)))
    have : fs = [] := List.eq_nil_of_length_eq_zero (Nat.succ.inj (Nat.succ.inj (Nat.succ.inj (Nat.succ.inj hl))))
    exact ⟨f0, f1, f2, f3, by rw [this]⟩
  · simp only [List.map_cons, List.map_nil, List.cons.injEq, Prod.mk.injEq, and_true, decide_eq_true_eq] at hf
    obtain ⟨⟨n0, t0, o0⟩, ⟨n1, t1, o1⟩, ⟨n2, t2, o2⟩, n3, t3, o3⟩ := hf
    have hu : Tryz.prog.underlying 22 = some (.int .u64) := Tryz.underlying22
    simp [Op.eqFields, n0, n1, n2, n3, t0, t1, t2, t3, o0, o1, o2, o3, go_sem, hu, u_beq, Nt.same]
    by_cases h0 : a.value = b.value <;> by_cases h1 : a.owner = b.owner <;> by_cases h2 : a.rho = b.rho <;> by_cases h3 : a.blind = b.blind <;> simp [h0, h1, h2, h3]
end Go.Proofs.YtgfmjfkdogcnhaaGreat
