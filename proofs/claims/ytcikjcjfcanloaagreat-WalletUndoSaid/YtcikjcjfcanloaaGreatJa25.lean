/- Texts of this claim, joined: R37, NoteEq, OwEq, L49f, L49Mat. -/
import Derived.Laws.StructEq
import Derived.Test.YtcikjcjfcanloaaGreatJa5
import Derived.Test.YtcikjcjfcanloaaGreatJa8
import Derived.Test.YtcikjcjfcanloaaGreatJa10
import Derived.Test.YtcikjcjfcanloaaGreatJa14
import Derived.Test.YtcikjcjfcanloaaGreatJa16
import Derived.Test.YtcikjcjfcanloaaGreatJa22
import Derived.Test.YtcikjcjfcanloaaGreatJa23
import Derived.Test.YtcikjcjfcanloaaGreatJa24
set_option linter.unusedSimpArgs false
namespace Go.Proofs.YtcikjcjfcanloaaGreat
open Go.RowKit
attribute [local irreducible] perm fAdd fMul fPow fSub fNeg fRed hashU
set_option maxRecDepth 100000 in
set_option maxHeartbeats 1600000 in
theorem rEmpty37_any (d : Nat) (hd : d ≤ 12) (w : World) : Calls Tryz.prog 110 #[.int .i64 (d : Int)] w fun e w' => e = .returned (uv (emptyU d)) ∧ Ext w w' := by
  have H0 : Hid (Calls Tryz.prog 64 #[.int .u64 18446744069414584321, .int .u64 6, .slice none 0 0] w fun e w' => e = .returned (uv (emptyU 0)) ∧ Ext w w') := hid (rHash_any 18446744069414584321 rfl 6 _ [] w ((show OwnU w (.slice none 0 0) [] from World.ownsRow_nil _ _ _ _).rdu) (by simp))
  have HN : Hid (∀ (k : Nat) (v : World), Calls Tryz.prog 64 #[.int .u64 18446744069414584321, .int .u64 6, .slice (some ⟨v.heap.size, 0, none⟩) 2 2] (v.alloc (.cells #[uv (emptyU k), uv (emptyU k)] 22)) fun e w' => e = .returned (uv (emptyU (k + 1))) ∧ Ext v w') := hid fun k v => rhash2_any 6 (emptyU k) (emptyU k) v
  have hdI : (d : Int) ≤ 12 := by omega
  have hd0 : 0 ≤ (d : Int) := Int.natCast_nonneg _
  have HD := hid hd
  clear hd
  obtain ⟨E, hE⟩ : ∃ E : Nat → UInt64, E = emptyU := ⟨_, rfl⟩
  rw [← hE] at H0 HN ⊢
  clear hE
  go_enter Tryz.func110, Tryz.ntmps110
  go_wp2_with fail
  refine (H0.out).mono ?_
  rintro e w1 ⟨rfl, hx⟩
  have HX1 := hid hx
  clear hx H0
  go_wp2_with fail
  go_loopw [3, 4] (fun av iv wr => ∃ i : Nat, i ≤ d ∧ av = uv (E i) ∧ iv = .int .i64 i ∧ Hid (Ext w wr)) (fun _ iv _ => d - (intOf iv).toNat)
  case atStart => exact ⟨0, by omega, rfl, rfl, HX1⟩
  case round =>
    obtain ⟨i, hi, rfl, rfl, HXR⟩ := hrel
    have hi0 : (0 : Int) ≤ (i : Int) := Int.natCast_nonneg _
    by_cases hlt : i < d
    · have hltB : decide ((i : Int) < (d : Int)) = true := by simp; omega
      have hil : (i : Int) < (d : Int) := by omega
      go_wp2_with fail
      refine (HN.out i _).mono ?_
      rintro e w2 ⟨rfl, hx⟩
      have HX2 := hid (HXR.out.trans hx)
      clear hx
      go_wp2_with fail
      go_roundw
      case rel => exact ⟨i + 1, by omega, rfl, by go_num, HX2⟩
      case measure => simp [intOf]; omega
    · have hie : i = d := by omega
      have hltB : decide ((i : Int) < (d : Int)) = false := by simp; omega
      subst hie
      go_wp2_with fail
      go_ret
      exact ⟨rfl, HXR.out⟩
set_option maxRecDepth 100000 in
set_option maxHeartbeats 3200000 in
theorem rNode_any (l : List UInt64) (hl : l.length ≤ 100000) : ∀ (k i : Nat), k ≤ 12 → i * 2 ^ k ≤ 1000000 → ∀ (lv : Value) (w : World), RdU' w lv l → Calls Tryz.prog 78 #[lv, .int .i64 (k : Int), .int .i64 (i : Int)] w fun e w' => e = .returned (uv (nodeR l k i)) ∧ Ext w w' := by
  intro k
  induction k with
  | zero =>
    intro i _ hi lv w h
    rw [Nat.pow_zero, Nat.mul_one] at hi
    have EM : Hid (∀ u, Calls Tryz.prog 110 #[.int .i64 0] u fun e w' => e = .returned (uv (emptyU 0)) ∧ Ext u w') := hid fun u => rEmpty37_any 0 (by omega) u
    have HX := hid h
    obtain ⟨la, lc, rfl, -⟩ := id h
    clear h
    have hi0 : (0 : Int) ≤ (i : Int) := Int.natCast_nonneg _
    have hiI : (i : Int) ≤ 1000000 := by omega
    have hlI : (l.length : Int) ≤ 100000 := by omega
    by_cases hlt : i < l.length
    · obtain ⟨y, hy⟩ : ∃ y, l[i]? = some y := ⟨_, List.getElem?_eq_getElem hlt⟩
      have hR : nodeR l 0 i = y := by show digU 0 l i = y; unfold digU; rw [hy]; rfl
      rw [hR]
      obtain ⟨b, o, rfl, hc⟩ := HX.out.uat hy
      have hB : decide ((l.length : Int) ≤ (i : Int)) = false := by simp; omega
      have hB2 : decide (l.length ≤ i) = false := by simp; omega
      have hil : (i : Int) < (l.length : Int) := by omega
      have hw : IntKind.i64.wrap (i : Int) = (i : Int) := by rw [IntKind.wrap_i64]; omega
      have hw2 : IntKind.u64.wrap (0 : Int) = 0 := rfl
      clear hy hR
      show Calls Tryz.prog 78 #[.slice (some ⟨b, o, none⟩) l.length lc, .int .i64 0, .int .i64 (i : Int)] w fun e w' => e = .returned (uv y) ∧ Ext w w'
      go_enter Tryz.func78, Tryz.ntmps78
      go_wp2_with fail
      go_ret
      exact ⟨rfl, Ext.refl w⟩
    · have hR : nodeR l 0 i = emptyU 0 := by show digU 0 l i = emptyU 0; unfold digU; rw [List.getElem?_eq_none (by omega)]; rfl
      rw [hR]
      have hB : decide ((l.length : Int) ≤ (i : Int)) = true := by simp; omega
      have hB2 : decide (l.length ≤ i) = true := by simp; omega
      have hw : IntKind.i64.wrap (i : Int) = (i : Int) := by rw [IntKind.wrap_i64]; omega
      have hw2 : IntKind.u64.wrap (0 : Int) = 0 := rfl
      clear hR
      show Calls Tryz.prog 78 #[.slice la l.length lc, .int .i64 0, .int .i64 (i : Int)] w fun e w' => e = .returned (uv (emptyU 0)) ∧ Ext w w'
      go_enter Tryz.func78, Tryz.ntmps78
      go_wp2_with fail
      refine (EM.out _).mono ?_
      rintro e w1 ⟨rfl, hx⟩
      have X1 := hid hx
      clear hx EM
      go_wp2_with fail
      go_ret
      exact ⟨rfl, X1.out⟩
  | succ k ih =>
    intro i hk hi lv w h
    have EM : Hid (∀ u, Calls Tryz.prog 110 #[.int .i64 ((k + 1 : Nat) : Int)] u fun e w' => e = .returned (uv (emptyU (k + 1))) ∧ Ext u w') := hid fun u => rEmpty37_any (k + 1) (by omega) u
    have HX := hid h
    obtain ⟨la, lc, rfl, -⟩ := id h
    clear h
    have h2d : 2 ^ (k + 1) ≤ 2 ^ 12 := Nat.pow_le_pow_right (by omega) hk
    have hp1 : 2 ^ (k + 1) = 2 * 2 ^ k := by rw [Nat.pow_succ, Nat.mul_comm]
    have hpos : 0 < 2 ^ k := Nat.two_pow_pos k
    have hile : i ≤ 1000000 := Nat.le_trans (Nat.le_mul_of_pos_right i (by omega)) hi
    have hi0 : (0 : Int) ≤ (i : Int) := Int.natCast_nonneg _
    have hiI : (i : Int) ≤ 1000000 := by omega
    have hlI : (l.length : Int) ≤ 100000 := by omega
    obtain ⟨P, hP⟩ : ∃ P, P = i * 2 ^ (k + 1) := ⟨_, rfl⟩
    rw [← hP] at hi
    have hPI : (i : Int) * 2 ^ (k + 1) = (P : Int) := by rw [hP]; push_cast; rfl
    obtain ⟨K, hK⟩ : ∃ K, K = k + 1 := ⟨_, rfl⟩
    have hK0 : (0 : Int) ≤ (K : Int) := Int.natCast_nonneg _
    have hKI : (K : Int) ≤ 12 := by omega
    have hK1 : (1 : Int) ≤ (K : Int) := by omega
    rw [← hK] at hPI EM ⊢
    have hw : IntKind.i64.wrap ((i : Int) * 2 ^ K) = (P : Int) := by rw [hPI, IntKind.wrap_i64]; omega
    have hwm : IntKind.i64.wrap ((i : Int) * 2 ^ (min K 64)) = (P : Int) := by rw [Nat.min_eq_left (by omega)]; exact hw
    have hw2 : IntKind.u64.wrap (K : Int) = (K : Int) := by rw [IntKind.wrap_u64]; omega
    have hKz : decide ((K : Int) = 0) = false := by simp; omega
    have hKz2 : ((K : Int) == 0) = false := by rw [beq_eq_false_iff_ne]; omega
    have HIH : Hid (∀ (i : Nat), i * 2 ^ k ≤ 1000000 → ∀ u, Ext w u → Calls Tryz.prog 78 #[.slice la l.length lc, .int .i64 (k : Int), .int .i64 (i : Int)] u fun e w' => e = .returned (uv (nodeR l k i)) ∧ Ext u w') := hid fun i hi u ku => ih i (by omega) hi _ u (HX.out.ext ku)
    have HPP := hid (And.intro hP (And.intro hp1 h2d))
    have HK := hid hK
    have hkI : (K : Int) - 1 = (k : Int) := by omega
    clear ih hP hPI hp1 hpos h2d hk hK
    by_cases hlt : P < l.length
    · have hB : decide ((l.length : Int) ≤ (P : Int)) = false := by simp; omega
      have hB2 : decide (l.length ≤ P) = false := by simp; omega
      have A1 : Hid (2 * i * 2 ^ k ≤ 1000000) := hid (by
        have : 2 * i * 2 ^ k = P := by rw [HPP.out.1, HPP.out.2.1, Nat.mul_comm 2 i, Nat.mul_assoc]
        omega)
      have A2 : Hid ((2 * i + 1) * 2 ^ k ≤ 1000000) := hid (by
        have : 2 * i * 2 ^ k = P := by rw [HPP.out.1, HPP.out.2.1, Nat.mul_comm 2 i, Nat.mul_assoc]
        have h3 := HPP.out.2
        rw [Nat.add_mul, this]
        omega)
      have C1 := hid (HIH.out (2 * i) A1.out)
      have C2 := hid (HIH.out (2 * i + 1) A2.out)
      have HR : Hid (nodeR l K i = nodeU (nodeR l k (2 * i)) (nodeR l k (2 * i + 1))) := hid (by
        rw [HK.out]
        show (if l.length ≤ i * 2 ^ (k + 1) then _ else _) = _
        rw [← HPP.out.1, if_neg (by omega)])
      rw [HR.out]
      obtain ⟨a, ha⟩ : ∃ a, a = nodeR l k (2 * i) := ⟨_, rfl⟩
      obtain ⟨b, hb⟩ : ∃ b, b = nodeR l k (2 * i + 1) := ⟨_, rfl⟩
      rw [← ha] at C1 ⊢
      rw [← hb] at C2 ⊢
      have HH : Hid (∀ v : World, Calls Tryz.prog 64 #[.int .u64 18446744069414584321, .int .u64 6, .slice (some ⟨v.heap.size, 0, none⟩) 2 2] (v.alloc (.cells #[uv a, uv b] 22)) fun e w' => e = .returned (uv (nodeU a b)) ∧ Ext v w') := hid fun v => rhash2_any 6 a b v
      have C1' : Hid (∀ u, Ext w u → Calls Tryz.prog 78 #[.slice la l.length lc, .int .i64 (k : Int), .int .i64 (2 * (i : Int))] u fun e w' => e = .returned (uv a) ∧ Ext u w') := hid fun u ku => by
        have := C1.out u ku
        rw [show ((2 * i : Nat) : Int) = 2 * (i : Int) by push_cast; rfl] at this
        exact this
      have C2' : Hid (∀ u, Ext w u → Calls Tryz.prog 78 #[.slice la l.length lc, .int .i64 (k : Int), .int .i64 (2 * (i : Int) + 1)] u fun e w' => e = .returned (uv b) ∧ Ext u w') := hid fun u ku => by
        have := C2.out u ku
        rw [show ((2 * i + 1 : Nat) : Int) = 2 * (i : Int) + 1 by push_cast; rfl] at this
        exact this
      generalize nodeU a b = r at *
      clear ha hb C1 C2 HIH EM HR A1 A2
      go_enter Tryz.func78, Tryz.ntmps78
      go_wp2_with fail
      refine (C1'.out _ (Ext.refl w)).mono ?_
      rintro e w1 ⟨rfl, hx⟩
      have X1 := hid hx
      clear hx C1'
      go_wp2_with fail
      refine (C2'.out _ X1.out).mono ?_
      rintro e w2 ⟨rfl, hx⟩
      have X2 := hid (X1.out.trans hx)
      clear hx C2'
      go_wp2_with fail
      refine (HH.out _).mono ?_
      rintro e w3 ⟨rfl, hx⟩
      have X3 := hid (X2.out.trans hx)
      clear hx HH
      go_wp2_with fail
      go_ret
      exact ⟨rfl, X3.out⟩
    · have hB : decide ((l.length : Int) ≤ (P : Int)) = true := by simp; omega
      have hB2 : decide (l.length ≤ P) = true := by simp; omega
      have HR : Hid (nodeR l K i = emptyU K) := hid (by
        rw [HK.out]
        show (if l.length ≤ i * 2 ^ (k + 1) then _ else _) = _
        rw [← HPP.out.1, if_pos (by omega)])
      rw [HR.out]
      clear HIH HR
      go_enter Tryz.func78, Tryz.ntmps78
      go_wp2_with fail
      refine (EM.out _).mono ?_
      rintro e w1 ⟨rfl, hx⟩
      have X1 := hid hx
      clear hx EM
      go_wp2_with fail
      go_ret
      exact ⟨rfl, X1.out⟩
set_option maxRecDepth 100000 in
theorem rRoot_any (d : Nat) (hd : d ≤ 12) (lv : Value) (l : List UInt64) (w : World) (h : RdU' w lv l) (hl : l.length ≤ 100000) :
    Calls Tryz.prog 74 #[.int .i64 (d : Int), lv] w fun e w' => e = .returned (uv (rootU d l)) ∧ Ext w w' := by
  have ND : Hid (Calls Tryz.prog 78 #[lv, .int .i64 (d : Int), .int .i64 0] w fun e w' => e = .returned (uv (rootU d l)) ∧ Ext w w') := hid (by
    have := rNode_any l hl d 0 hd (by omega) lv w h
    rw [nodeR_dig] at this
    exact this)
  obtain ⟨la, lc, rfl, -⟩ := id h
  generalize rootU d l = r at *
  clear h
  go_enter Tryz.func74, Tryz.ntmps74
  go_wp2_with fail
  refine (ND.out).mono ?_
  rintro e w1 ⟨rfl, hx⟩
  have X1 := hid hx
  clear hx ND
  go_wp2_with fail
  go_ret
  exact ⟨rfl, X1.out⟩
end Go.Proofs.YtcikjcjfcanloaaGreat
namespace Go.Proofs.YtcikjcjfcanloaaGreat
open Go.RowKit
def Nt.same (a b : Nt) : Bool := a.value == b.value && a.owner == b.owner && a.rho == b.rho && a.blind == b.blind
theorem Nt.same_iff {a b : Nt} : a.same b = true ↔ a = b := by
  obtain ⟨a1, a2, a3, a4⟩ := a
  obtain ⟨b1, b2, b3, b4⟩ := b
  simp [Nt.same, and_assoc]
theorem u_beq (x y : UInt64) : ((x.toNat : Int) == (y.toNat : Int)) = (x == y) := by
  rw [Bool.eq_iff_iff]
  simp only [beq_iff_eq]
  constructor
  · intro h; exact UInt64.toNat_inj.1 (by omega)
  · rintro rfl; rfl
theorem Tryz.note_struct : Tryz.prog.underlying 37 = some (.struct (Tryz.prog.fieldsOf 37)) := by kernel_rfl
theorem Tryz.note_held : Tryz.prog.stoodInHeld 37 = false := by kernel_rfl
theorem Tryz.note_fields : (Tryz.prog.fieldsOf 37).toList.map (fun f => (decide (f.name ≠ "_"), f.type, f.offset)) = [(true, 22, 0), (true, 22, 1), (true, 22, 2), (true, 22, 3)] := by kernel_rfl
end Go.Proofs.YtcikjcjfcanloaaGreat
namespace Go.Proofs.YtcikjcjfcanloaaGreat
open Go.RowKit
theorem noteEqIn9 (a b : Nt) (w : World) : (Op.equalIn 9999 37 (.agg #[uv a.value, uv a.owner, uv a.rho, uv a.blind]) (.agg #[uv b.value, uv b.owner, uv b.rho, uv b.blind])).run Tryz.prog w = .ok (a.same b) w := by
  rw [show (9999 : Nat) = 9998 + 1 from rfl, run_equalIn_struct w 9998 37 _ _ Tryz.note_struct Tryz.note_held]
  have hf := Tryz.note_fields
  generalize (Tryz.prog.fieldsOf 37).toList = fs at hf
  obtain ⟨f0, f1, f2, f3, rfl⟩ : ∃ f0 f1 f2 f3, fs = [f0, f1, f2, f3] := by
    have hl : fs.length = 4 := by have := congrArg List.length hf; rwa [List.length_map] at this
    match fs, hl with
    | [a, b, c, d], _ => exact ⟨a, b, c, d, rfl⟩
  simp only [List.map_cons, List.map_nil, List.cons.injEq, Prod.mk.injEq, and_true, decide_eq_true_eq] at hf
  obtain ⟨⟨n0, t0, o0⟩, ⟨n1, t1, o1⟩, ⟨n2, t2, o2⟩, n3, t3, o3⟩ := hf
  have hu : Tryz.prog.underlying 22 = some (.int .u64) := Tryz.underlying22
  simp [Op.eqFields, n0, n1, n2, n3, t0, t1, t2, t3, o0, o1, o2, o3, go_sem, hu, u_beq, Nt.same]
  by_cases h0 : a.value = b.value <;> by_cases h1 : a.owner = b.owner <;> by_cases h2 : a.rho = b.rho <;> by_cases h3 : a.blind = b.blind <;> simp [h0, h1, h2, h3]
theorem Tryz.owned_struct : Tryz.prog.underlying 39 = some (.struct (Tryz.prog.fieldsOf 39)) := by kernel_rfl
theorem Tryz.owned_held : Tryz.prog.stoodInHeld 39 = false := by kernel_rfl
theorem Tryz.owned_fields : (Tryz.prog.fieldsOf 39).toList.map (fun f => (decide (f.name ≠ "_"), f.type, f.offset)) = [(true, 37, 0), (true, 3, 4), (true, 3, 5), (true, 3, 6), (true, 3, 7)] := by kernel_rfl
theorem note_cellsQ : Tryz.prog.cellsOf 37 = 4 := by kernel_rfl
theorem int_cellsQ : Tryz.prog.cellsOf 3 = 1 := by kernel_rfl
abbrev owVal (x : OwT) : Value := .agg #[uv x.note.value, uv x.note.owner, uv x.note.rho, uv x.note.blind, .int .i64 (x.number : Int), .int .i64 (x.pos : Int), .int .i64 (x.height : Int), .int .i64 (x.spent : Int)]
theorem owEqIn (a : OwT) (w : World) : (Op.equalIn 10000 39 (owVal a) (owVal a)).run Tryz.prog w = .ok true w := by
  rw [show (10000 : Nat) = 9999 + 1 from rfl, run_equalIn_struct w 9999 39 _ _ Tryz.owned_struct Tryz.owned_held]
  have hf := Tryz.owned_fields
  generalize (Tryz.prog.fieldsOf 39).toList = fs at hf
  obtain ⟨f0, f1, f2, f3, f4, rfl⟩ : ∃ f0 f1 f2 f3 f4, fs = [f0, f1, f2, f3, f4] := by
    have hl : fs.length = 5 := by have := congrArg List.length hf; rwa [List.length_map] at this
    match fs, hl with
    | [a, b, c, d, e], _ => exact ⟨a, b, c, d, e, rfl⟩
  simp only [List.map_cons, List.map_nil, List.cons.injEq, Prod.mk.injEq, and_true, decide_eq_true_eq] at hf
  obtain ⟨⟨n0, t0, o0⟩, ⟨n1, t1, o1⟩, ⟨n2, t2, o2⟩, ⟨n3, t3, o3⟩, n4, t4, o4⟩ := hf
  have hu : Tryz.prog.underlying 3 = some (.int .i64) := by kernel_rfl
  have h1 := noteEqIn9 a.note a.note w
  rw [Nt.same_iff.2 rfl] at h1
  simp [Op.eqFields, n0, n1, n2, n3, n4, t0, t1, t2, t3, t4, o0, o1, o2, o3, o4, go_sem, hu, note_cellsQ, int_cellsQ, h1]
end Go.Proofs.YtcikjcjfcanloaaGreat
namespace Go.Proofs.YtcikjcjfcanloaaGreat
open Go.RowKit
attribute [local irreducible] perm fAdd fMul fPow fSub fNeg fRed hashU drawOf nextState cipSeal
theorem ownN_row {w : World} {g n c : Nat} {l : List OwT} (h : OwnN w (.slice (some ⟨g, 0, none⟩) n c) l) {i : Nat} {x : OwT} (hx : l[i]? = some x) : ∀ j u, j < 8 → (owCells x)[j]? = some u → w.cell? ⟨g, i * 8 + j, none⟩ = some u := by
  have hn : n = l.length := by obtain ⟨a, c, e, -⟩ := ownsRow_rd h; injection e
  subst hn
  obtain ⟨b, o, e, hc⟩ := rows_at owCells_len (by omega) rfl (ownsRow_rd h).weak hx
  injection e with e
  injection e with e1 e2
  subst e1 e2
  intro j u hj hu
  have := hc j u hj hu
  rwa [Nat.zero_add] at this
theorem ownN_cells {w : World} {g n c : Nat} {l : List OwT} (h : OwnN w (.slice (some ⟨g, 0, none⟩) n c) l) {i : Nat} {x : OwT} (hx : l[i]? = some x) :
    w.cell? ⟨g, i * 8, none⟩ = some (uv x.note.value) ∧ w.cell? ⟨g, i * 8 + 1, none⟩ = some (uv x.note.owner) ∧ w.cell? ⟨g, i * 8 + 2, none⟩ = some (uv x.note.rho) ∧ w.cell? ⟨g, i * 8 + 3, none⟩ = some (uv x.note.blind) ∧ w.cell? ⟨g, i * 8 + 4, none⟩ = some (.int .i64 (x.number : Int)) ∧ w.cell? ⟨g, i * 8 + 5, none⟩ = some (.int .i64 (x.pos : Int)) ∧ w.cell? ⟨g, i * 8 + 6, none⟩ = some (.int .i64 (x.height : Int)) ∧ w.cell? ⟨g, i * 8 + 7, none⟩ = some (.int .i64 (x.spent : Int)) :=
  have r := ownN_row h hx
  ⟨r 0 _ (by omega) rfl, r 1 _ (by omega) rfl, r 2 _ (by omega) rfl, r 3 _ (by omega) rfl, r 4 _ (by omega) rfl, r 5 _ (by omega) rfl, r 6 _ (by omega) rfl, r 7 _ (by omega) rfl⟩
set_option maxRecDepth 100000 in
set_option maxHeartbeats 6400000 in
theorem rSameN_any (av bv : Value) (l : List OwT) (w : World) (ha : OwnN w av l) (hb : OwnN w bv l) (hl : l.length ≤ 10000) :
    Calls Tryz.prog 72 #[av, bv] w fun e w' => e = .returned (.bool true) ∧ Ext w w' := by
  obtain ⟨aa, ac, rfl, -⟩ := ownsRow_rd ha
  obtain ⟨ba, bc, rfl, -⟩ := ownsRow_rd hb
  have HA := hid ha
  have HB := hid hb
  have hlI : (l.length : Int) ≤ 10000 := by omega
  clear ha hb hl
  go_enter Tryz.func72, Tryz.ntmps72
  go_wp2_with fail
  go_loopw [5] (fun iv wr => ∃ i : Nat, i ≤ l.length ∧ iv = .int .i64 i ∧ Hid (Ext w wr)) (fun iv _ => l.length - (intOf iv).toNat)
  case atStart => exact ⟨0, by omega, rfl, hid (Ext.refl w)⟩
  case round =>
    obtain ⟨i, hi, rfl, HX⟩ := hrel
    have hi0 : (0 : Int) ≤ (i : Int) := Int.natCast_nonneg _
    by_cases hlt : i < l.length
    · have hltB : decide ((i : Int) < (l.length : Int)) = true := by simp; omega
      have hil : (i : Int) < (l.length : Int) := by omega
      obtain ⟨x, hxi⟩ : ∃ x, l[i]? = some x := ⟨_, List.getElem?_eq_getElem hlt⟩
      obtain ⟨g, rfl⟩ : ∃ g, aa = some ⟨g, 0, none⟩ := own_shape HA.out (by omega)
      obtain ⟨q, rfl⟩ : ∃ q, ba = some ⟨q, 0, none⟩ := own_shape HB.out (by omega)
      have HC : Hid (∀ u, Ext w u → ((u.cell? ⟨g, i * 8, none⟩ = some (uv x.note.value) ∧ u.cell? ⟨g, i * 8 + 1, none⟩ = some (uv x.note.owner) ∧ u.cell? ⟨g, i * 8 + 2, none⟩ = some (uv x.note.rho) ∧ u.cell? ⟨g, i * 8 + 3, none⟩ = some (uv x.note.blind) ∧ u.cell? ⟨g, i * 8 + 4, none⟩ = some (.int .i64 (x.number : Int)) ∧ u.cell? ⟨g, i * 8 + 5, none⟩ = some (.int .i64 (x.pos : Int)) ∧ u.cell? ⟨g, i * 8 + 6, none⟩ = some (.int .i64 (x.height : Int)) ∧ u.cell? ⟨g, i * 8 + 7, none⟩ = some (.int .i64 (x.spent : Int))) ∧ (u.cell? ⟨q, i * 8, none⟩ = some (uv x.note.value) ∧ u.cell? ⟨q, i * 8 + 1, none⟩ = some (uv x.note.owner) ∧ u.cell? ⟨q, i * 8 + 2, none⟩ = some (uv x.note.rho) ∧ u.cell? ⟨q, i * 8 + 3, none⟩ = some (uv x.note.blind) ∧ u.cell? ⟨q, i * 8 + 4, none⟩ = some (.int .i64 (x.number : Int)) ∧ u.cell? ⟨q, i * 8 + 5, none⟩ = some (.int .i64 (x.pos : Int)) ∧ u.cell? ⟨q, i * 8 + 6, none⟩ = some (.int .i64 (x.height : Int)) ∧ u.cell? ⟨q, i * 8 + 7, none⟩ = some (.int .i64 (x.spent : Int)))) ∧ Ext w u) := hid fun u k => ⟨⟨ownN_cells (ownsRow_ext HA.out k) hxi, ownN_cells (ownsRow_ext HB.out k) hxi⟩, k⟩
      have HEQ : ∀ u : World, (Op.equalIn 10000 39 (owVal x) (owVal x)).run Tryz.prog u = .ok true u := fun u => owEqIn x u
      have HXE := hid HX.out
      clear hxi
      go_wp2_with fail
      refine wp_region_T (fun u => ((u.cell? ⟨g, i * 8, none⟩ = some (uv x.note.value) ∧ u.cell? ⟨g, i * 8 + 1, none⟩ = some (uv x.note.owner) ∧ u.cell? ⟨g, i * 8 + 2, none⟩ = some (uv x.note.rho) ∧ u.cell? ⟨g, i * 8 + 3, none⟩ = some (uv x.note.blind) ∧ u.cell? ⟨g, i * 8 + 4, none⟩ = some (.int .i64 (x.number : Int)) ∧ u.cell? ⟨g, i * 8 + 5, none⟩ = some (.int .i64 (x.pos : Int)) ∧ u.cell? ⟨g, i * 8 + 6, none⟩ = some (.int .i64 (x.height : Int)) ∧ u.cell? ⟨g, i * 8 + 7, none⟩ = some (.int .i64 (x.spent : Int))) ∧ (u.cell? ⟨q, i * 8, none⟩ = some (uv x.note.value) ∧ u.cell? ⟨q, i * 8 + 1, none⟩ = some (uv x.note.owner) ∧ u.cell? ⟨q, i * 8 + 2, none⟩ = some (uv x.note.rho) ∧ u.cell? ⟨q, i * 8 + 3, none⟩ = some (uv x.note.blind) ∧ u.cell? ⟨q, i * 8 + 4, none⟩ = some (.int .i64 (x.number : Int)) ∧ u.cell? ⟨q, i * 8 + 5, none⟩ = some (.int .i64 (x.pos : Int)) ∧ u.cell? ⟨q, i * 8 + 6, none⟩ = some (.int .i64 (x.height : Int)) ∧ u.cell? ⟨q, i * 8 + 7, none⟩ = some (.int .i64 (x.spent : Int)))) ∧ Ext w u) 8 [(0, true), (1, true), (2, true), (3, true), (4, true), (5, true), (6, true), (7, true), (8, false)] (by kernel_rfl) (by kernel_rfl) (by intro c a d v w h; cases d <;> exact h) ?_
      intro ops hops
      have HS0 := HC.out _ (HX.out.trans (Ext.refl wr).drew)
      iterate 8
        refine wpT_take (v := ?_) (by rw [hops, List.getElem?_toArray]; rfl) (by first | rfl | (rw [hops]; rfl)) ?_ HS0 ?_
        rotate_left
        · intro v h; go_simp; with_reducible rfl
        simp only [Act.put, List.getElem_toArray, List.getElem_cons_zero, List.getElem_cons_succ, List.setIfInBounds_toArray, List.set_cons_zero, List.set_cons_succ]
      have HN := hid HS0.2
      clear HS0
      refine wpT_step (by rw [hops, List.getElem?_toArray]; rfl) (by first | rfl | (rw [hops]; rfl)) ?_
      intro K hK
      go_wp2_with fail
      clear HEQ
      refine ⟨fun h => absurd h (by decide), ?_⟩
      try rw [← hops]
      rw [wpT_nil]
      clear hops ops
      go_wp2_with fail
      go_roundw
      case rel => exact ⟨i + 1, by omega, by go_num, HN⟩
      case measure => simp [intOf]; omega
    · have hltB : decide ((i : Int) < (l.length : Int)) = false := by simp; omega
      obtain rfl : i = l.length := by omega
      go_wp2_with fail
      go_ret
      exact ⟨rfl, HX.out⟩
theorem wAnchor_any {w : World} {W d : Nat} {seed : UInt64} {l : List BlkT} {G : Nat → Prop} (h : WalAt w W d seed l G) :
    Calls Tryz.prog 38 #[.pointer (some ⟨W, 0, none⟩)] w fun e w' => e = .returned (uv (rootU d (leavesW l))) ∧ Ext w w' := by
  obtain ⟨r, ps, ob, LB, nv, pv, FO, FT, h1, h2, rfl⟩ := h
  have := walAnchor_any h1
  rwa [stW_leaves] at this
set_option maxRecDepth 100000 in
set_option maxHeartbeats 6400000 in
theorem same49_any {w : World} {W d : Nat} {seed : UInt64} {l : List BlkT} {G : Nat → Prop} (h : WalAt w W d (fRed seed) l G) (hok : okAll d l) (lv : Value) (hr : RdBs w w lv l) (hl : l.length ≤ 1000) (hs : ∀ b ∈ l, BSm b) :
    Calls Tryz.prog 31 #[.pointer (some ⟨W, 0, none⟩), .int .i64 (d : Int), uv seed, lv] w fun e w' => e = .returned (.bool true) ∧ Ext w w' := by
  obtain ⟨la, lc, rfl, -⟩ := hr.shape
  have hd := depth_le h
  have hv := okAll_valid hok
  have hp := pow12 hd
  have hLn : (leavesW l).length ≤ 4096 := by
    have h2 := fitsAll_stW ((okAll_fits (seed := seed)).2 hok)
    rw [stW_leaves] at h2
    omega
  have hnn := (stW_ok seed l).n
  simp only at hnn
  rw [stW_leaves] at hnn
  have SC := hid (rScan_any seed _ l w hr hl hs hv)
  have HT : Hid (∀ u, Ext w u → Calls Tryz.prog 29 #[.pointer (some ⟨W, 0, none⟩)] u fun e w' => e = .returned (.int .i64 (l.length : Int)) ∧ Ext u w') := hid fun u k => wHeight_any (h.ext k)
  have NT : Hid (∀ u, Ext w u → Calls Tryz.prog 23 #[.pointer (some ⟨W, 0, none⟩)] u fun e w' => ∃ v, e = .returned v ∧ OwnN w' v (stW seed l).notes ∧ Ext u w' ∧ ∀ k, blk v = some k → u.heap.size ≤ k) := hid fun u k => by
    have := wNotes_any (h.ext k) hok
    rwa [stW_red] at this
  have BL : Hid (∀ u, Ext w u → Calls Tryz.prog 57 #[.pointer (some ⟨W, 0, none⟩)] u fun e w' => e = .returned (uv (balW (stW seed l).notes)) ∧ Ext u w') := hid fun u k => by
    have := wBalance_any (h.ext k) hok
    rwa [stW_red] at this
  have AN : Hid (∀ u, Ext w u → Calls Tryz.prog 38 #[.pointer (some ⟨W, 0, none⟩)] u fun e w' => e = .returned (uv (rootU d (leavesW l))) ∧ Ext u w') := hid fun u k => wAnchor_any (h.ext k)
  have LV : Hid (∀ u, Ext w u → Calls Tryz.prog 32 #[.slice la l.length lc] u fun e w' => ∃ x, e = .returned x ∧ FrU u w' x (leavesW l)) := hid fun u k => rLeaves_any _ l u ((hr.ext k).old k) hl hs
  have RT : Hid (∀ u x, RdU' u x (leavesW l) → Calls Tryz.prog 74 #[.int .i64 (d : Int), x] u fun e w' => e = .returned (uv (rootU d (leavesW l))) ∧ Ext u w') := hid fun u x hx => rRoot_any d hd x _ u hx (by omega)
  have HNN : Hid ((stW seed l).notes.length ≤ 10000) := hid (by omega)
  generalize (stW seed l).notes = ns at *
  generalize rootU d (leavesW l) = rt at *
  generalize leavesW l = L at *
  have hlI : (l.length : Int) ≤ 1000 := by omega
  clear h hok hr hs hv hp hLn hd hl hnn
  go_enter Tryz.func31, Tryz.ntmps31
  go_wp2_with fail
  refine (SC.out).mono ?_
  rintro e w1 ⟨u1, rfl, ho1, hx1, -⟩
  obtain ⟨na, nc, rfl, -⟩ := ownsRow_rd ho1
  have X1 := hid hx1
  have O1 := hid ho1
  clear ho1 hx1 SC
  go_wp2_with fail
  refine (HT.out _ X1.out).mono ?_
  rintro e w2 ⟨rfl, hx⟩
  have X2 := hid (X1.out.trans hx)
  have O2 := hid (ownsRow_ext O1.out hx)
  clear hx HT O1
  go_wp2_with fail
  refine (NT.out _ X2.out).mono ?_
  rintro e w3 ⟨v3, rfl, ho3, hx3, -⟩
  obtain ⟨ma, mc, rfl, -⟩ := ownsRow_rd ho3
  have X3 := hid (X2.out.trans hx3)
  have O3 := hid (ownsRow_ext O2.out hx3)
  have SM := hid (rSameN_any _ _ ns w3 ho3 O3.out HNN.out)
  clear ho3 hx3 NT O2
  go_wp2_with fail
  refine (SM.out).mono ?_
  rintro e w4 ⟨rfl, hx⟩
  have X4 := hid (X3.out.trans hx)
  have O4 := hid (ownsRow_ext O3.out hx)
  clear hx SM O3
  go_wp2_with fail
  refine (BL.out _ X4.out).mono ?_
  rintro e w5 ⟨rfl, hx⟩
  have X5 := hid (X4.out.trans hx)
  have RB := hid (rBalance_any _ ns w5 (ownsRow_ext O4.out hx) HNN.out)
  clear hx BL O4
  go_wp2_with fail
  refine (RB.out).mono ?_
  rintro e w6 ⟨rfl, hx⟩
  have X6 := hid (X5.out.trans hx)
  clear hx RB
  go_wp2_with fail
  refine (AN.out _ X6.out).mono ?_
  rintro e w7 ⟨rfl, hx⟩
  have X7 := hid (X6.out.trans hx)
  clear hx AN
  go_wp2_with fail
  refine (LV.out _ X7.out).mono ?_
  rintro e w8 ⟨v8, rfl, ho8, hx8, -⟩
  obtain ⟨ra, rc, rfl, -⟩ := ownsRow_rd ho8
  have X8 := hid (X7.out.trans hx8)
  have RTC := hid (RT.out _ _ (ownsRow_rd ho8).weak)
  clear ho8 hx8 LV RT
  go_wp2_with fail
  refine (RTC.out).mono ?_
  rintro e w9 ⟨rfl, hx⟩
  have X9 := hid (X8.out.trans hx)
  clear hx RTC
  go_wp2_with fail
  go_ret
  exact ⟨rfl, X9.out⟩
end Go.Proofs.YtcikjcjfcanloaaGreat
namespace Go.Proofs.YtcikjcjfcanloaaGreat
open Go.RowKit
attribute [local irreducible] perm fAdd fMul fPow fSub fNeg fRed hashU drawOf nextState cipSeal
set_option maxRecDepth 100000 in
set_option maxHeartbeats 25600000 in
theorem walletMatches_any (seed : UInt64) (d : Int) (ov : Value) (ops : List OpT) (w : World) (h : RdWops w ov ops) :
    Calls Tryz.prog 5 #[uv seed, .agg #[.int .i64 d, ov]] w fun e w' => e = .returned (.bool true) ∧ Ext w w' := by
  have HH := hid h
  have AW := hid awake49_any
  have SM : Hid (∀ u, Ext w u → Calls Tryz.prog 19 #[.int .i64 d, ov] u fun e w' => e = .returned (.bool (smallW d ops)) ∧ Ext u w') := hid fun u k => small49_any d ov ops u (h.ext k)
  obtain ⟨oa, oc, rfl, -⟩ := h.shape
  obtain ⟨N, hN⟩ : ∃ N, N = w.heap.size := ⟨_, rfl⟩
  obtain ⟨w0, hw0⟩ : ∃ w0, w0 = w.alloc (.cells #[.int .i64 d, .slice oa ops.length oc] 25) := ⟨_, rfl⟩
  have hx0 : Ext w w0 := by rw [hw0]; exact (Ext.refl w).alloc _
  have hb0 : w0.heap[N]? = some (.cells #[.int .i64 d, .slice oa ops.length oc] 25 (0, 0)) := by rw [hw0, hN]; exact heap_new _ _
  have HB := hid hb0
  have HX0 := hid hx0
  have HW := hid hw0
  obtain ⟨S, hS⟩ : ∃ S, S = smallW d ops := ⟨_, rfl⟩
  rw [← hS] at SM
  have HS := hid hS
  have HC : Hid (∀ u, Ext w0 u → u.cell? ⟨N, 0, none⟩ = some (.int .i64 d) ∧ u.cell? ⟨N, 1, none⟩ = some (.slice oa ops.length oc)) := hid fun u k => ⟨cell_of (k.heap_some HB.out) 0, cell_of (k.heap_some HB.out) 1⟩
  clear h hw0 hx0 hb0 hS
  go_enter Tryz.func5, Tryz.ntmps5
  go_upto_region 1 with fail
  rw [← HW.out, ← hN]
  clear hN HW
  go_wp2_with fail
  refine (AW.out _).mono ?_
  rintro e w1 ⟨rfl, hx⟩
  have X1 := hid hx
  clear hx
  obtain ⟨c0, c1⟩ := HC.out w1 X1.out
  go_wp2_with fail
  refine (SM.out _ (HX0.out.trans X1.out)).mono ?_
  rintro e w2 ⟨rfl, hx⟩
  have X2 := hid (X1.out.trans hx)
  clear hx SM c0 c1
  cases S with
  | false =>
    go_wp2_with fail
    refine (AW.out _).mono ?_
    rintro e w3 ⟨rfl, hx⟩
    have X3 := hid (X2.out.trans hx)
    clear hx AW
    go_wp2_with fail
    go_ret
    exact ⟨rfl, HX0.out.trans X3.out⟩
  | true =>
    clear AW
    obtain ⟨n, rfl, h1, h6, h8, hbs⟩ := small_facts HS.out.symm
    have HD := hid (And.intro h1 h6)
    have PL := hid (play49_any n h1 (by omega) seed (.slice oa ops.length oc) ops w2 (HH.out.ext (HX0.out.trans X2.out)) hbs (by omega))
    have HOK := hid (playW_ok n ops)
    have HLE : Hid ((playW n ops).length ≤ 8) := hid (Nat.le_trans playW_len h8)
    have HMB : Hid (∀ b ∈ playW n ops, BSm b) := hid fun b hb => by
      obtain ⟨o, ho, rfl⟩ := playW_mem hb
      exact hbs o ho
    have HVL := hid (okAll_valid (playW_ok n ops))
    have HLN : Hid ((stW seed (playW n ops)).leaves.length ≤ 10000) := hid (by
      have h2 := fitsAll_stW ((okAll_fits (seed := seed)).2 (playW_ok n ops))
      have h3 := pow12 (d := n) (by omega)
      omega)
    obtain ⟨l, hl⟩ : ∃ l, l = playW n ops := ⟨_, rfl⟩
    rw [← hl] at PL HOK HLE HMB HVL HLN
    obtain ⟨c0, c1⟩ := HC.out w2 X2.out
    clear hl h1 h6 h8 hbs HH
    go_wp2_with fail
    refine (PL.out).mono ?_
    rintro e w3 ⟨W, lv, rfl, G, hwal, hgn, hrd, hng, hx⟩
    have HWAL := hid (And.intro hwal (hrd.old hx))
    have HXW := hid (HX0.out.trans (X2.out.trans hx))
    have X3B := hid (X2.out.trans hx)
    have HGN := hid hgn
    obtain ⟨la, lc, rfl, -⟩ := hrd.shape
    clear hwal hgn hrd hng hx c0 c1 PL
    have SAME : Hid (∀ u, Ext w3 u → Calls Tryz.prog 31 #[.pointer (some ⟨W, 0, none⟩), .int .i64 (n : Int), uv seed, .slice la l.length lc] u fun e w' => e = .returned (.bool true) ∧ Ext u w') := hid fun u k => same49_any (HWAL.out.1.ext k) HOK.out _ ((HWAL.out.2.ext k).old k) (by have := HLE.out; omega) HMB.out
    obtain ⟨c0, c1⟩ := HC.out w3 X3B.out
    go_wp2_with fail
    refine (SAME.out _ (Ext.refl w3)).mono ?_
    rintro e w4 ⟨rfl, hx⟩
    have X4 := hid (HXW.out.trans hx)
    clear hx SAME c0 c1
    go_wp2_with fail
    go_ret
    exact ⟨rfl, X4.out⟩
end Go.Proofs.YtcikjcjfcanloaaGreat
