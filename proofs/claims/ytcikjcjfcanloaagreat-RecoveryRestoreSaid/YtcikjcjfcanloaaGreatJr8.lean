/- Texts of this claim, joined: LogLaw, WalLaw, Front, Wire, PackB, TxMem. -/
import Derived.Laws.CopyOwn
import Derived.Laws.Bits64b
import Derived.Test.YtcikjcjfcanloaaGreatJr2
import Derived.Test.YtcikjcjfcanloaaGreatJr3
import Derived.Test.YtcikjcjfcanloaaGreatJr6
import Derived.Test.YtcikjcjfcanloaaGreatJr7
set_option linter.unusedSimpArgs false
namespace Go.Proofs.YtcikjcjfcanloaaGreat
open Go.RowKit
def nodeU (a b : UInt64) : UInt64 := hashU 6 [a, b]
def emptyU : Nat → UInt64
  | 0 => hashU 6 []
  | k + 1 => nodeU (emptyU k) (emptyU k)
/-- The digest of a place of a level. -/
def digU (k : Nat) (l : List UInt64) (i : Nat) : UInt64 := l[i]?.getD (emptyU k)
def valU (k : Nat) (l : List UInt64) (i : Nat) : UInt64 := nodeU (digU k l (2 * i)) (digU k l (2 * i + 1))
def upU (k : Nat) (l : List UInt64) : List UInt64 := (List.range ((l.length + 1) / 2)).map (valU k l)
def lvl : Nat → List UInt64 → List UInt64
  | 0, l => l
  | k + 1, l => upU k (lvl k l)
theorem upU_length (k : Nat) (l : List UInt64) : (upU k l).length = (l.length + 1) / 2 := by simp [upU]
theorem upU_at {k : Nat} {l : List UInt64} {i : Nat} (h : i < (l.length + 1) / 2) : (upU k l)[i]? = some (valU k l i) := by
  unfold upU
  rw [List.getElem?_map, List.getElem?_range h]
  rfl
theorem lvl_succ (k : Nat) (l : List UInt64) : lvl (k + 1) l = upU k (lvl k l) := rfl
theorem lvl_nil : ∀ k, lvl k [] = []
  | 0 => rfl
  | k + 1 => by rw [lvl_succ, lvl_nil k]; rfl
theorem lvl_pos {l : List UInt64} (h : 0 < l.length) : ∀ k, 0 < (lvl k l).length
  | 0 => h
  | k + 1 => by rw [lvl_succ, upU_length]; have := lvl_pos h k; omega
/-- v is level k of the tree, but perhaps for its last digest. -/
structure Near (k : Nat) (v l : List UInt64) : Prop where
  n : v.length = (lvl k l).length ∨ v.length + 1 = (lvl k l).length
  a : ∀ i, i + 1 < (lvl k l).length → v[i]? = (lvl k l)[i]?
theorem upU_near {k : Nat} {v l : List UInt64} (h : ∀ i, i + 1 < l.length → v[i]? = l[i]?) (i : Nat) (hi : i + 1 < (l.length + 1) / 2) : (upU k v)[i]? = (upU k l)[i]? := by
  have h1 := h (2 * i) (by omega)
  have h2 := h (2 * i + 1) (by omega)
  have hl2 : l[2 * i + 1]? = some l[2 * i + 1] := List.getElem?_eq_getElem (by omega)
  have hv : 2 * i + 1 < v.length := by rw [hl2] at h2; exact (List.getElem?_eq_some_iff.1 h2).1
  rw [upU_at (by omega), upU_at (by omega)]
  unfold valU digU
  rw [h1, h2]
/-- The digest above the last leaf is calculated anew. -/
def fixU (v : List UInt64) (i : Nat) (x : UInt64) : List UInt64 := if i < v.length then v.set i x else v ++ [x]
theorem fix_ok {k : Nat} {v l : List UInt64} (h : Near (k + 1) v l) (hl : 0 < l.length) : fixU v ((lvl (k + 1) l).length - 1) (valU k (lvl k l) ((lvl (k + 1) l).length - 1)) = lvl (k + 1) l := by
  have hp := lvl_pos hl (k + 1)
  have hn := h.n
  have hm : (lvl (k + 1) l).length = ((lvl k l).length + 1) / 2 := upU_length _ _
  apply List.ext_getElem?
  intro i
  have hu : ∀ j, j < (lvl (k + 1) l).length → (lvl (k + 1) l)[j]? = some (valU k (lvl k l) j) := fun j hj => by rw [lvl_succ]; exact upU_at (by rw [← hm]; exact hj)
  unfold fixU
  split
  · next hlt =>
    by_cases hi : i = (lvl (k + 1) l).length - 1
    · subst hi
      rw [List.getElem?_set_self hlt, hu _ (by omega)]
    · rw [List.getElem?_set_ne (fun e => hi e.symm)]
      by_cases hi2 : i + 1 < (lvl (k + 1) l).length
      · exact h.a i hi2
      · rw [List.getElem?_eq_none (by omega), List.getElem?_eq_none (by omega)]
  · next hge =>
    have hv : v.length = (lvl (k + 1) l).length - 1 := by omega
    rcases Nat.lt_trichotomy i v.length with hi | hi | hi
    · rw [List.getElem?_append_left hi]
      exact h.a i (by omega)
    · rw [hi, List.getElem?_append_right (Nat.le_refl _), Nat.sub_self, hu _ (by omega), hv]
      rfl
    · rw [List.getElem?_eq_none (by simp; omega), List.getElem?_eq_none (by omega)]
theorem near_append (l : List UInt64) (x : UInt64) : ∀ k, Near k (if k = 0 then l ++ [x] else lvl k l) (l ++ [x]) ∧ ((lvl k l).length = (lvl k (l ++ [x])).length ∨ (lvl k l).length + 1 = (lvl k (l ++ [x])).length) ∧ ∀ i, i + 1 < (lvl k (l ++ [x])).length → (lvl k l)[i]? = (lvl k (l ++ [x]))[i]?
  | 0 => by
    refine ⟨⟨.inl rfl, fun i _ => rfl⟩, .inr (by simp [lvl]), fun i hi => ?_⟩
    simp only [lvl, List.length_append, List.length_singleton] at hi ⊢
    rw [List.getElem?_append_left (by omega)]
  | k + 1 => by
    obtain ⟨-, h1, h2⟩ := near_append l x k
    have h3 : (lvl (k + 1) l).length = (lvl (k + 1) (l ++ [x])).length ∨ (lvl (k + 1) l).length + 1 = (lvl (k + 1) (l ++ [x])).length := by
      rw [lvl_succ, lvl_succ, upU_length, upU_length]; omega
    have h4 : ∀ i, i + 1 < (lvl (k + 1) (l ++ [x])).length → (lvl (k + 1) l)[i]? = (lvl (k + 1) (l ++ [x]))[i]? := fun i hi => by
      rw [lvl_succ, upU_length] at hi
      exact upU_near h2 i hi
    exact ⟨by rw [if_neg (by omega)]; exact ⟨h3, h4⟩, h3, h4⟩
/-- The size of a level of a tree with c leaves. -/
def sizeU (c : Nat) : Nat → Nat
  | 0 => c
  | k + 1 => (sizeU c k + 1) / 2
theorem lvl_size (l : List UInt64) : ∀ k, (lvl k l).length = sizeU l.length k
  | 0 => rfl
  | k + 1 => by rw [lvl_succ, upU_length, lvl_size l k]; rfl
theorem sizeU_le {c n : Nat} (h : c ≤ n) : ∀ k, sizeU c k ≤ sizeU n k
  | 0 => h
  | k + 1 => by have := sizeU_le h k; show (sizeU c k + 1) / 2 ≤ (sizeU n k + 1) / 2; omega
theorem near_take (l : List UInt64) {c : Nat} (hc : c ≤ l.length) : ∀ k, Near k ((lvl k l).take (sizeU c k)) (l.take c) ∧ ∀ i, i + 1 < (lvl k (l.take c)).length → (lvl k l)[i]? = (lvl k (l.take c))[i]? := fun k => by
  have hz : ∀ k, (lvl k (l.take c)).length = sizeU c k := fun k => by rw [lvl_size, List.length_take, Nat.min_eq_left hc]
  have ha : ∀ k, ∀ i, i + 1 < (lvl k (l.take c)).length → (lvl k l)[i]? = (lvl k (l.take c))[i]? := by
    intro k
    induction k with
    | zero =>
      intro i hi
      simp only [lvl, List.length_take] at hi ⊢
      rw [List.getElem?_take_of_lt (by omega)]
    | succ k ih =>
      intro i hi
      rw [lvl_succ, upU_length] at hi
      exact upU_near ih i hi
  refine ⟨⟨.inl ?_, fun i hi => ?_⟩, ha k⟩
  · rw [List.length_take, hz, lvl_size]
    exact Nat.min_eq_left (sizeU_le hc k)
  · rw [List.getElem?_take_of_lt (by rw [hz] at hi; omega)]
    exact ha k i hi
end Go.Proofs.YtcikjcjfcanloaaGreat
namespace Go.Proofs.YtcikjcjfcanloaaGreat
open Go.RowKit
structure OwT where
  note : Nt
  number : Nat
  pos : Nat
  height : Nat
  spent : Nat
/-- What a wallet holds: leaves, notes, and the places of the notes that the block at hand has spent. -/
structure StW where
  leaves : List UInt64
  notes : List OwT
  sp : List Nat
abbrev realM : Orc := Orc.fresh false 0
def originT (t : TxT) : UInt64 := if txV t = 0 then (match t.marks with | m :: _ => m | [] => hashU 5 [t.account, t.nonce]) else 0
def rhoT (t : TxT) (i : Nat) : UInt64 := hashU 4 [originT t, UInt64.ofNat i]
def markW (key rho : UInt64) : UInt64 := hashU 3 [key, rho]
def tryW (seed : UInt64) (a : Nat) (o : OutT) (rho : UInt64) : Nt × Bool := tryR seed (a : Int) o.commit rho (realM.envOpen (kView seed (a : Int)) o.p o.cipher) (commitK realM)
/-- The first address below a that an output is for. -/
def findTo (seed : UInt64) (o : OutT) (rho : UInt64) : Nat → Option (Nt × Nat)
  | 0 => none
  | a + 1 => match findTo seed o rho a with
    | some r => some r
    | none => if (tryW seed a o rho).2 then some ((tryW seed a o rho).1, a) else none
def findW (seed : UInt64) (o : OutT) (rho : UInt64) : Option (Nt × Nat) := findTo seed o rho 4
def hitW (key : UInt64) (marks : List UInt64) (n : OwT) : Bool := decide (n.spent = 0) && marks.contains (markW key n.note.rho)
def outW (key : UInt64) (h : Nat) (marks : List UInt64) (n : OwT) : OwT := if hitW key marks n then { n with spent := h } else n
/-- The first i notes are gone through. -/
def spendTo (key : UInt64) (h : Nat) (marks : List UInt64) (S : StW) (i : Nat) : StW :=
  ⟨S.leaves, (S.notes.take i).map (outW key h marks) ++ S.notes.drop i, S.sp ++ (List.range i).filter fun j => (S.notes[j]?.map (hitW key marks)).getD false⟩
def spendW (key : UInt64) (h : Nat) (marks : List UInt64) (S : StW) : StW := spendTo key h marks S S.notes.length
def gotW (h pos : Nat) : Option (Nt × Nat) → List OwT
  | some (n, a) => [⟨n, a, pos, h, 0⟩]
  | none => []
def recv1 (seed : UInt64) (h : Nat) (t : TxT) (S : StW) (j : Nat) (o : OutT) : StW := ⟨S.leaves ++ [o.commit], S.notes ++ gotW h S.leaves.length (findW seed o (rhoT t j)), S.sp⟩
/-- The first i outputs are gone through. -/
def recvTo (seed : UInt64) (h : Nat) (t : TxT) (S : StW) : Nat → StW
  | 0 => S
  | i + 1 => match t.outs[i]? with
    | some o => recv1 seed h t (recvTo seed h t S i) i o
    | none => recvTo seed h t S i
def recvW (seed : UInt64) (h : Nat) (t : TxT) (S : StW) : StW := recvTo seed h t S t.outs.length
def txW (seed : UInt64) (h : Nat) (S : StW) (t : TxT) : StW := recvW seed h t (spendW (kSpend seed) h t.marks S)
def txsTo (seed : UInt64) (h : Nat) (S : StW) (l : List TxT) (i : Nat) : StW := (l.take i).foldl (txW seed h) S
/-- A block on what the blocks before have left. -/
def blkW (seed : UInt64) (h : Nat) (L : List UInt64) (ns : List OwT) (b : BlkT) : StW := b.txs.foldl (txW seed h) ⟨L, ns, []⟩
/-- After blocks: the i-th has height i + 1. -/
def stTo (seed : UInt64) (l : List BlkT) : Nat → StW
  | 0 => ⟨[], [], []⟩
  | i + 1 => match l[i]? with
    | some b => blkW seed (i + 1) (stTo seed l i).leaves (stTo seed l i).notes b
    | none => stTo seed l i
def stW (seed : UInt64) (l : List BlkT) : StW := stTo seed l l.length
theorem spendTo_succ {key : UInt64} {h : Nat} {marks : List UInt64} {S : StW} {i : Nat} {n : OwT} (hn : S.notes[i]? = some n) :
    spendTo key h marks S (i + 1) = ⟨S.leaves, (spendTo key h marks S i).notes.set i (outW key h marks n), (spendTo key h marks S i).sp ++ if hitW key marks n then [i] else []⟩ := by
  obtain ⟨hi, hn'⟩ := List.getElem?_eq_some_iff.1 hn
  unfold spendTo
  congr 1
  · rw [List.take_add_one, hn, List.map_append, List.set_append_right _ _ (by simp; omega), List.append_assoc]
    congr 1
    rw [List.drop_eq_getElem_cons hi, hn', List.length_map, List.length_take, Nat.min_eq_left (by omega), Nat.sub_self, List.set_cons_zero]
    rfl
  · rw [List.append_assoc, List.range_succ, List.filter_append]
    congr 2
    cases hh : hitW key marks n with
    | false => simp [hn, hh]
    | true => simp [hn, hh]
theorem spendTo_length {key : UInt64} {h : Nat} {marks : List UInt64} {S : StW} {i : Nat} : (spendTo key h marks S i).notes.length = S.notes.length := by
  unfold spendTo
  simp only [List.length_append, List.length_map, List.length_take, List.length_drop]
  omega
theorem spendTo_at {key : UInt64} {h : Nat} {marks : List UInt64} {S : StW} {i j : Nat} (hj : i ≤ j) : (spendTo key h marks S i).notes[j]? = S.notes[j]? := by
  unfold spendTo
  by_cases h2 : i ≤ S.notes.length
  · rw [List.getElem?_append_right (by rw [List.length_map, List.length_take]; omega), List.length_map, List.length_take, Nat.min_eq_left h2, List.getElem?_drop]
    congr 1
    omega
  · rw [List.getElem?_eq_none (by simp; omega), List.getElem?_eq_none (by omega)]
theorem recvTo_leaves (seed : UInt64) (h : Nat) (t : TxT) (S : StW) : ∀ i, (recvTo seed h t S i).leaves = S.leaves ++ (t.outs.take i).map (·.commit)
  | 0 => by simp [recvTo]
  | i + 1 => by
    unfold recvTo
    cases ho : t.outs[i]? with
    | none =>
      rw [List.getElem?_eq_none_iff] at ho
      simp only [recvTo_leaves seed h t S i]
      rw [List.take_of_length_le ho, List.take_of_length_le (by omega)]
    | some o =>
      simp only [recv1, recvTo_leaves seed h t S i]
      rw [List.take_add_one, ho]
      simp
end Go.Proofs.YtcikjcjfcanloaaGreat
namespace Go.Proofs.YtcikjcjfcanloaaGreat
open Go.RowKit
attribute [local irreducible] perm fAdd fMul fPow fSub fNeg fRed hashU
theorem hash2_any (label a b : UInt64) (w : World) : Calls Tryz.prog 133 #[.int .u64 18446744069414584321, .int .u64 label.toNat, .slice (some ⟨w.heap.size, 0, none⟩) 2 2] (w.alloc (.cells #[uv a, uv b] 22)) fun e w' => e = .returned (uv (hashU label [a, b])) ∧ Ext w w' := by
  have hrd : RdU (w.alloc (.cells #[uv a, uv b] 22)) (.slice (some ⟨w.heap.size, 0, none⟩) 2 2) [a, b] := (RdC.block (heap_new w _) (n := 2) (by unfold maxLen; omega)).rdu rfl
  exact (Hash_any 18446744069414584321 rfl label _ [a, b] _ hrd (by simp)).mono fun e w' h => ⟨h.1, ((Ext.refl w).alloc _).trans h.2⟩
set_option maxRecDepth 100000 in
theorem node_any (a b : UInt64) (w : World) : Calls Tryz.prog 159 #[uv a, uv b] w fun e w' => e = .returned (uv (nodeU a b)) ∧ Ext w w' := by
  have HH : Hid (∀ v : World, Calls Tryz.prog 133 #[.int .u64 18446744069414584321, .int .u64 6, .slice (some ⟨v.heap.size, 0, none⟩) 2 2] (v.alloc (.cells #[uv a, uv b] 22)) fun e w' => e = .returned (uv (nodeU a b)) ∧ Ext v w') := hid fun v => hash2_any 6 a b v
  generalize nodeU a b = k at *
  go_enter Tryz.func159, Tryz.ntmps159
  go_wp2_with fail
  refine (HH.out _).mono ?_
  rintro e w1 ⟨rfl, hx⟩
  have HX1 := hid hx
  clear hx HH
  go_wp2_with fail
  go_ret
  exact ⟨rfl, HX1.out⟩
set_option maxRecDepth 100000 in
set_option maxHeartbeats 1600000 in
theorem empty_any (d : Nat) (hd : d ≤ 12) (w : World) : Calls Tryz.prog 134 #[.int .i64 (d : Int)] w fun e w' => e = .returned (uv (emptyU d)) ∧ Ext w w' := by
  have H0 : Hid (Calls Tryz.prog 133 #[.int .u64 18446744069414584321, .int .u64 6, .slice none 0 0] w fun e w' => e = .returned (uv (emptyU 0)) ∧ Ext w w') := hid (Hash_any 18446744069414584321 rfl 6 _ [] w ((show OwnU w (.slice none 0 0) [] from World.ownsRow_nil _ _ _ _).rdu) (by simp))
  have HN := hid node_any
  have hdI : (d : Int) ≤ 12 := by omega
  have hd0 : 0 ≤ (d : Int) := Int.natCast_nonneg _
  have hd1 : decide ((d : Int) < 0) = false := by simp
  have hd2 : decide (12 < (d : Int)) = false := by simp; omega
  have HD := hid hd
  have HE : Hid (∀ k, nodeU (emptyU k) (emptyU k) = emptyU (k + 1)) := hid fun k => rfl
  clear hd
  obtain ⟨E, hE⟩ : ∃ E : Nat → UInt64, E = emptyU := ⟨_, rfl⟩
  rw [← hE] at H0 HE ⊢
  clear hE
  go_enter Tryz.func134, Tryz.ntmps134
  go_wp2_with fail
  refine (H0.out).mono ?_
  rintro e w1 ⟨rfl, hx⟩
  have HX1 := hid hx
  clear hx H0
  go_wp2_with fail
  go_loopw [3, 12] (fun av iv wr => ∃ i : Nat, i ≤ d ∧ av = uv (E i) ∧ iv = .int .i64 i ∧ Hid (Ext w wr)) (fun _ iv _ => d - (intOf iv).toNat)
  case atStart => exact ⟨0, by omega, rfl, rfl, HX1⟩
  case round =>
    obtain ⟨i, hi, rfl, rfl, HXR⟩ := hrel
    have hi0 : (0 : Int) ≤ (i : Int) := Int.natCast_nonneg _
    by_cases hlt : i < d
    · have hltB : decide ((i : Int) < (d : Int)) = true := by simp; omega
      have hil : (i : Int) < (d : Int) := by omega
      go_wp2_with fail
      refine (HN.out _ _ _).mono ?_
      rintro e w2 ⟨rfl, hx⟩
      have HX2 := hid (HXR.out.trans hx)
      clear hx
      rw [HE.out]
      go_wp2_with fail
      go_roundw
      case rel => exact ⟨i + 1, by omega, rfl, by go_num, HX2⟩
      case measure => simp [intOf]; omega
    · have hie : i = d := by omega
      have hltB : decide ((i : Int) < (d : Int)) = false := by simp; omega
      subst hie
      go_wp2_with fail
      go_ret
      exact ⟨rfl, HXR.out⟩
end Go.Proofs.YtcikjcjfcanloaaGreat
namespace Go.Proofs.YtcikjcjfcanloaaGreat
open Go.RowKit
attribute [local irreducible] perm fAdd fMul fPow fSub fNeg fRed
abbrev RdB' (w : World) (v : Value) (l : List UInt8) : Prop := RdC' w v l.length (bs l)
theorem OwnB.weak {w : World} {v : Value} {l : List UInt8} (h : OwnB w v l) : RdB' w v l := (ownsRow_rd h).weak
theorem bs_one (l : List UInt8) : ∀ u ∈ bs l, u.oneCell' = true := by
  intro u hu
  obtain ⟨_, _, rfl⟩ := List.mem_map.1 hu
  rfl
/-- A new list of bytes, nothing else turned. -/
def NewB (w : World) (l : List UInt8) (e : Ending) (w' : World) : Prop := ∃ v, e = .returned v ∧ OwnB w' v l ∧ Ext w w' ∧ ∀ k, blk v = some k → w.heap.size ≤ k
theorem wpList_make_cap {P : Program} (w : World) {ops : Array Oper} {rest : List Oper} {o : Oper} {a : Act} {Q : Exit → Act → World → Prop}
    (hg : o.guard = none) (l c : Operand) (t : TypeId) (hop : o.op = Op.makeSlice t l c)
    (e : TypeId) (i : TypeInfo) (z : Value) (bytes : Nat) (h1 : P.underlying t = some (.slice e)) (h2 : P.info? e = some i) (h3 : i.zero = some z) (h4 : i.size = 1) (h5 : i.bytes = bytes)
    (kl kc : IntKind) (L C : Int) (n m : Nat) (hl : a.eval l = .int kl L) (hc : a.eval c = .int kc C) (hL : L = (n : Int)) (hC : C = (m : Int)) (hnm : n ≤ m) (b2 : bytes * m ≤ 281474976710656) (b3 : m ≤ maxLen)
    (hK : wpList P ops Q rest (a.put o.dst (.slice (some ⟨w.heap.size, 0, none⟩) n m)) (w.alloc (.cells (madeCells z.cells m) e))) :
    wpList P ops Q (o :: rest) a w := by
  refine wpList_plain hg fun K hK' => ?_
  have hb' : (i.bytes : Int) * (m : Int) ≤ 281474976710656 := by
    have h : ((i.bytes * m : Nat) : Int) ≤ 281474976710656 := by rw [h5]; omega
    rwa [Int.natCast_mul] at h
  have hrun := run_make (P := P) w t e i z h1 h2 h3 kl kc (n : Int) (m : Int) (by omega) (by omega) hb' (by unfold maxLen at b3; omega)
  simp only [Int.toNat_natCast, h4, Nat.mul_one] at hrun
  subst hL hC
  unfold Oper.wp
  simp [execOp, hop, hl, hc, hrun, Result.andThen]
  exact hK' _ _ hK
set_option maxRecDepth 100000 in
set_option maxHeartbeats 1600000 in
theorem room_any (v : Value) (l : List UInt8) (n : Nat) (w : World) (h : RdB' w v l) (hL : l.length ≤ 10000000000) (hn : n ≤ 10000000000) :
    Calls Tryz.prog 112 #[v, .int .i64 (n : Int)] w (NewB w l) := by
  obtain ⟨i0, hi, hz0, hz1, hz2⟩ := info_parts Tryz.infoB
  have h0 := h
  obtain ⟨a, c, rfl, hlc, hcm, hnil, hcell⟩ := h
  have HNIL := hid (And.intro hnil hlc)
  have HSUM : Hid (((l.length : Int) + (n : Int)) = ((l.length + n : Nat) : Int)) := hid (by omega)
  have HI := hid (And.intro hi (And.intro hz0 (And.intro hz1 hz2)))
  obtain ⟨g, hg⟩ : ∃ g, g = w.heap.size := ⟨_, rfl⟩
  obtain ⟨cur, hcur⟩ : ∃ cur : List Value, cur = (madeCells #[Value.int .u8 0] (l.length + n)).toList := ⟨_, rfl⟩
  obtain ⟨xs, hxs⟩ : ∃ xs, xs = bs l := ⟨_, rfl⟩
  have hcl : cur.length = l.length + n := by rw [hcur, Array.length_toList, size_madeCells]
  have hxl : xs.length = l.length := by rw [hxs, List.length_map]
  have hw : w.alloc (.cells (madeCells #[Value.int .u8 0] (l.length + n)) 5) = w.alloc (.cells cur.toArray 5) := by rw [hcur]
  obtain ⟨w1, hw1⟩ : ∃ w1, w1 = w.alloc (.cells cur.toArray 5) := ⟨_, rfl⟩
  rw [← hw1] at hw
  have hx1 : Ext w w1 := by rw [hw1]; exact (Ext.refl w).alloc _
  have hb1 : w1.heap[g]? = some (.cells cur.toArray 5 (0, 0)) := by rw [hw1, hg]; exact heap_new _ _
  have HRD := hid (h0.ext hx1)
  have HX1 := hid hx1
  have HB1 := hid hb1
  have HXS := hid hxs
  have HCL := hid (And.intro hcl hxl)
  have HW := hid hw
  have HG := hid hg
  clear hcell hnil hcm hlc hi hz0 hz1 hz2 hg hcur hxs hcl hxl hw hw1 hx1 hb1 h0
  have hL1 : (l.length : Int) ≤ 10000000000 := by omega
  have hn1 : (n : Int) ≤ 10000000000 := by omega
  go_enter Tryz.func112, Tryz.ntmps112
  go_upto_region 2 with (at_make; refine wpList_make_cap w rfl _ _ 69 rfl 5 i0 (.int .u8 0) 1 Tryz.underlying69 HI.out.1 HI.out.2.1 HI.out.2.2.1 HI.out.2.2.2 .i64 .i64 _ _ l.length (l.length + n) rfl rfl rfl HSUM.out (by omega) (by omega) (by unfold maxLen; omega) ?_)
  rw [HW.out, ← HG.out]
  go_wp2_with (refine wpList_copy_splice rfl _ _ 69 69 rfl 5 Tryz.underlying69 ?_ (some ⟨g, 0, none⟩) a l.length (l.length + n) l.length c rfl rfl g 0 cur 5 HB1.out xs ?_ ?_ ?_ ?_ w.heap.size w HX1.out ?_ ?_)
  · kernel_rfl
  · rw [HCL.out.2]; exact (Nat.min_self _).symm
  · intro hp
    cases a with
    | none => exact absurd (HNIL.out.1 rfl) (by have := HNIL.out.2; have := HCL.out.2; omega)
    | some ad =>
      refine ⟨ad, rfl, fun j u hu => ?_⟩
      obtain ⟨a', c', he, -, -, -, hc⟩ := HRD.out
      injection he with e1 _ _
      rw [HXS.out] at hu
      exact hc ad e1.symm j u hu
  · rw [HCL.out.1, HCL.out.2]; omega
  · rw [HXS.out]; exact bs_one l
  · rw [HG.out]; exact Nat.le_refl _
  intro w2 HG2 hB2
  have HB2 := hid hB2
  clear hB2
  go_wp2
  go_ret
  refine ⟨_, rfl, ⟨by simp, .inr ⟨g, l.length + n, (splice cur 0 xs).toArray, rfl, Nat.zero_le _, HG2.out, by omega, by unfold maxLen; omega, ?_, ?_⟩⟩, HB2.out, fun k hk => ?_⟩
  · have := length_splice cur 0 xs (by have := HCL.out; omega)
    rw [List.size_toArray, this, HCL.out.1, Nat.mul_one]
  · have h1 := HCL.out
    have h2 := HXS.out
    show ((splice cur 0 xs).toArray).toList.take (l.length * 1) = bs l
    rw [← h2]
    unfold splice
    simp [h1.2.symm]
  · have h1 : g = k := by
      change some g = some k at hk
      exact Option.some.inj hk
    rw [← h1, HG.out]
    exact Nat.le_refl _
theorem NewB.more {w w1 w2 : World} {m : List UInt8} {v : Value} {e : Ending} (hx : Ext w w1) (hn : ∀ k, blk v = some k → w.heap.size ≤ k) (h : MoreB w1 v m e w2) : NewB w m e w2 := by
  obtain ⟨v', rfl, h1, h2, h3⟩ := h
  refine ⟨v', rfl, h1, hx.kp h2 (fun k hk => hn k hk.symm), fun k hk => ?_⟩
  rcases h3 with h3 | ⟨j, h3, h4⟩
  · exact hn k (h3 ▸ hk)
  · rw [h3] at hk; injection hk with hk; have := hx.size; omega
set_option maxRecDepth 5000 in
set_option maxHeartbeats 1000000 in
theorem appendDigits_any (v : Value) (l : List UInt8) (x : UInt64) (size : Nat) (w : World) (hown : OwnB w v l) (hL : l.length ≤ 100000000000000) (hs : size ≤ 8) :
    Calls Tryz.prog 113 #[v, .int .u64 x.toNat, .int .i64 (size : Int)] w (MoreB w v (l ++ leB size x)) := by
  obtain ⟨i0, hi, hz0, hz1, hz2⟩ := info_parts Tryz.infoB
  obtain ⟨T, hT⟩ : ∃ T, T = l ++ leB size x := ⟨_, rfl⟩
  rw [← hT]
  have HT := hid hT
  have HO := hid hown
  clear hT hown
  go_enter Tryz.func113, Tryz.ntmps113
  go_wp2
  go_loopw [0, 1, 8] (fun vv xv kv wr => ∃ (k : Nat) (y : UInt64) (cur : List UInt8), k ≤ size ∧ kv = .int .i64 k ∧ xv = .int .u64 y.toNat ∧ Hid (cur ++ leB (size - k) y = T) ∧ lenOk cur.length k ∧ OwnB wr vv cur ∧ Kp (fun k => some k = blk v) w wr ∧ (blk vv = blk v ∨ ∃ k, blk vv = some k ∧ w.heap.size ≤ k)) (fun _ _ kv _ => size - (intOf kv).toNat)
  case atStart => exact ⟨0, x, l, by omega, rfl, rfl, hid HT.out.symm, by unfold lenOk; omega, HO.out, Kp.refl _ _, .inl rfl⟩
  case round =>
    obtain ⟨k, y, cur, hk, rfl, rfl, hcur, hlen0, how, hkp, hbl⟩ := hrel
    have H1 := hid how
    have H2 := hid hkp
    have H3 := hid hbl
    clear how hkp hbl
    by_cases hlt : k < size
    · obtain ⟨c, hc⟩ : ∃ c, c = y.toUInt8 := ⟨_, rfl⟩
      obtain ⟨z, hz⟩ : ∃ z, z = y / 256 := ⟨_, rfl⟩
      have hcv := byte_of y
      have hzv := div_of y
      rw [← hc] at hcv
      rw [← hz] at hzv
      have HC := hid hc
      have HZ := hid hz
      clear hc hz
      have hltB : decide ((k : Int) < (size : Int)) = true := by simp; omega
      have hlen : cur.length ≤ 100000000000000 + k := hlen0
      have hb1 : cur.length + 1 ≤ maxLen := by unfold maxLen; omega
      have hb2 : (cur.length + 1) * 1 ≤ 140737488355328 := by omega
      have hone : ∀ u ∈ [Value.int .u8 (c.toNat : Int)], u.oneCell' = true := by simp [Value.oneCell']
      have B1 := hid hb1
      have B2 := hid hb2
      have B3 := hid hone
      clear hb1 hb2 hone hlen hL
      go_wp2_with (at_builtin; refine wpList_app rfl _ _ 69 rfl 5 i0 (.int .u8 0) 1 1 Tryz.underlying69 hi hz0 hz1 hz2 rfl (by decide) _ cur.length (bs cur) rfl (ownsRow_ext H1.out ((Ext.refl _).alloc _)) _ 1 [.int .u8 c.toNat] rfl (RdC.new1 _ _ _) rfl B3.out B1.out B2.out ?_)
      intro v' w1 hown0 hk2 hb
      have hown : OwnB w1 v' (cur ++ [c]) := by
        show w1.ownsRow 0 5 1 v' (cur ++ [c]).length (bs (cur ++ [c]))
        rw [show (cur ++ [c]).length = cur.length + 1 from by simp, show bs (cur ++ [c]) = bs cur ++ [.int .u8 c.toNat] from by simp]
        exact hown0
      have hk3 : Kp (fun k => some k = blk v) w w1 := by
        refine (H2.out.alloc (.cells #[.int .u8 c.toNat] 5)).trans2 hk2 fun i hi he => ?_
        rcases H3.out with h | ⟨j, hj, hjl⟩
        · rw [← h]; exact he
        · rw [hj] at he; injection he with he; omega
      have hb3 : blk v' = blk v ∨ ∃ k, blk v' = some k ∧ w.heap.size ≤ k := by
        rcases hb with hb | hb
        · rw [hb]; exact H3.out
        · refine .inr ⟨_, hb, ?_⟩
          have := H2.out.size
          simp; omega
      have K1 := hid hown
      have K2 := hid hk3
      have K3 := hid hb3
      clear hown0 hown hk2 hb hk3 hb3
      go_wp2
      go_roundw
      case rel =>
        refine ⟨k + 1, z, cur ++ [c], by omega, by go_num, rfl, ?_, ?_, K1.out, K2.out, K3.out⟩
        · have := hcur.out
          rw [show size - k = (size - (k + 1)) + 1 from by omega] at this
          rw [← this, HC.out, HZ.out]
          simp [leB, Hid]
        · unfold lenOk at *; simp; omega
      case measure => simp [intOf]; omega
    · have hk8 : k = size := by omega
      have hltB : decide ((k : Int) < (size : Int)) = false := by simp; omega
      have hfin : cur = T := by have := hcur.out; rw [hk8, Nat.sub_self] at this; simpa [leB] using this
      have HF := hid hfin
      clear hfin
      go_wp2
      go_ret
      exact ⟨_, rfl, by rw [← HF.out]; exact H1.out, H2.out, H3.out⟩
def lenU (n : Int) : UInt64 := UInt64.ofNat (if 0 ≤ n ∧ n ≤ 4294967295 then n.toNat else 0)
theorem lenB_U (n : Int) : lenB n = leB 4 (lenU n) := rfl
set_option maxRecDepth 5000 in
set_option maxHeartbeats 1000000 in
theorem appendLength_any (v : Value) (l : List UInt8) (n : Int) (w : World) (hown : OwnB w v l) (hL : l.length ≤ 100000000000000) :
    Calls Tryz.prog 111 #[v, .int .i64 n] w (MoreB w v (l ++ lenB n)) := by
  rw [lenB_U]
  have HD := hid (appendDigits_any v l (lenU n) 4 w hown hL (by omega))
  by_cases h0 : 0 ≤ n
  · by_cases h1 : n ≤ 4294967295
    · have hu : ((lenU n).toNat : Int) = n := by
        unfold lenU
        rw [if_pos ⟨h0, h1⟩, UInt64.toNat_ofNat']
        omega
      rw [hu] at HD
      have d0 : decide (n < 0) = false := by simp; omega
      have d1 : decide ((4294967295 : Int) < n) = false := by simp; omega
      have hwr : IntKind.u64.wrap n = n := by rw [IntKind.wrap_u64]; omega
      clear hu hown hL
      go_enter Tryz.func111, Tryz.ntmps111
      go_wp2_with fail
      refine HD.out.mono ?_
      rintro e w1 ⟨v', rfl, g1, g2, g3⟩
      have G := hid (And.intro g1 (And.intro g2 g3))
      clear g1 g2 g3
      go_wp2_with fail
      go_ret
      exact ⟨v', rfl, G.out⟩
    · have hu : ((lenU n).toNat : Int) = 0 := by unfold lenU; rw [if_neg (by omega)]; rfl
      rw [hu] at HD
      have d0 : decide (n < 0) = false := by simp; omega
      have d1 : decide ((4294967295 : Int) < n) = true := by simp; omega
      clear hu hown hL
      go_enter Tryz.func111, Tryz.ntmps111
      go_wp2_with fail
      refine HD.out.mono ?_
      rintro e w1 ⟨v', rfl, g1, g2, g3⟩
      have G := hid (And.intro g1 (And.intro g2 g3))
      clear g1 g2 g3
      go_wp2_with fail
      go_ret
      exact ⟨v', rfl, G.out⟩
  · have hu : ((lenU n).toNat : Int) = 0 := by unfold lenU; rw [if_neg (by omega)]; rfl
    rw [hu] at HD
    have d0 : decide (n < 0) = true := by simp; omega
    clear hu hown hL
    go_enter Tryz.func111, Tryz.ntmps111
    go_wp2_with fail
    refine HD.out.mono ?_
    rintro e w1 ⟨v', rfl, g1, g2, g3⟩
    have G := hid (And.intro g1 (And.intro g2 g3))
    clear g1 g2 g3
    go_wp2_with fail
    go_ret
    exact ⟨v', rfl, G.out⟩
set_option maxHeartbeats 1000000 in
theorem wUint_any (v : Value) (l : List UInt8) (x : UInt64) (w : World) (h : RdB' w v l) (hL : l.length ≤ 10000000000) :
    Calls Tryz.prog 83 #[v, .int .u64 x.toNat] w (NewB w (l ++ leB 8 x)) := by
  have HR := hid (room_any v l 8 w h hL (by omega))
  obtain ⟨a, c, rfl, -⟩ := h
  go_enter Tryz.func83, Tryz.ntmps83
  go_wp2_with fail
  refine (HR.out).mono ?_
  rintro e w1 ⟨v1, rfl, h1, hx, hn⟩
  have HD := hid (appendDigits_any v1 l x 8 w1 h1 (by omega) (by omega))
  have HX := hid (And.intro hx hn)
  clear h1 hx hn HR
  go_wp2_with fail
  refine HD.out.mono ?_
  rintro e w2 hm
  obtain ⟨v2, rfl, g1, g2, g3⟩ := NewB.more HX.out.1 HX.out.2 hm
  have G := hid (And.intro g1 (And.intro g2 g3))
  clear g1 g2 g3 hm HD
  go_wp2_with fail
  go_ret
  exact ⟨v2, rfl, G.out⟩
set_option maxHeartbeats 1000000 in
theorem wInt_any (v : Value) (l : List UInt8) (n : Int) (w : World) (h : RdB' w v l) (hL : l.length ≤ 10000000000) :
    Calls Tryz.prog 80 #[v, .int .i64 n] w (NewB w (l ++ lenB n)) := by
  have HR := hid (room_any v l 4 w h hL (by omega))
  obtain ⟨a, c, rfl, -⟩ := h
  go_enter Tryz.func80, Tryz.ntmps80
  go_wp2_with fail
  refine (HR.out).mono ?_
  rintro e w1 ⟨v1, rfl, h1, hx, hn⟩
  have HD := hid (appendLength_any v1 l n w1 h1 (by omega))
  have HX := hid (And.intro hx hn)
  clear h1 hx hn HR
  go_wp2_with fail
  refine HD.out.mono ?_
  rintro e w2 hm
  obtain ⟨v2, rfl, g1, g2, g3⟩ := NewB.more HX.out.1 HX.out.2 hm
  have G := hid (And.intro g1 (And.intro g2 g3))
  clear g1 g2 g3 hm HD
  go_wp2_with fail
  go_ret
  exact ⟨v2, rfl, G.out⟩
set_option maxRecDepth 100000 in
set_option maxHeartbeats 1600000 in
theorem wList_any (v : Value) (l : List UInt8) (lv : Value) (xs : List UInt64) (w : World) (h : RdB' w v l) (hx : RdU' w lv xs) (hL : l.length ≤ 10000000000) (hX : xs.length ≤ 1000000000) :
    Calls Tryz.prog 81 #[v, lv] w (NewB w (l ++ listB xs)) := by
  have HR := room_any v l (4 + 8 * xs.length) w h hL (by omega)
  rw [show ((4 + 8 * xs.length : Nat) : Int) = 4 + 8 * (xs.length : Int) by omega] at HR
  have HR := hid HR
  obtain ⟨a, c, rfl, -⟩ := h
  obtain ⟨xa, xc, rfl, -⟩ := id hx
  have HX := hid hx
  have hX1 : (xs.length : Int) ≤ 1000000000 := by omega
  clear hx
  go_enter Tryz.func81, Tryz.ntmps81
  go_wp2_with fail
  refine (HR.out).mono ?_
  rintro e w1 ⟨v1, rfl, h1, hx1, hn1⟩
  have HD := hid (appendLength_any v1 l xs.length w1 h1 (by omega))
  have HE := hid (And.intro hx1 hn1)
  clear h1 hx1 hn1 HR
  go_wp2_with fail
  refine HD.out.mono ?_
  rintro e w2 hm
  obtain ⟨v2, rfl, g1, g2, g3⟩ := NewB.more HE.out.1 HE.out.2 hm
  have G := hid (And.intro g1 (And.intro g2 g3))
  clear g1 g2 g3 hm HD HE
  go_wp2_with fail
  go_loopw [5, 19] (fun bv iv wr => ∃ i : Nat, i ≤ xs.length ∧ iv = .int .i64 i ∧ Hid (OwnB wr bv (l ++ lenB xs.length ++ cat (xs.take i)) ∧ Ext w wr ∧ ∀ k, blk bv = some k → w.heap.size ≤ k)) (fun _ iv _ => xs.length - (intOf iv).toNat)
  case atStart => exact ⟨0, by omega, rfl, hid ⟨by simpa [cat] using G.out.1, G.out.2⟩⟩
  case round =>
    obtain ⟨i, hi, rfl, HI⟩ := hrel
    clear G
    by_cases hlt : i < xs.length
    · have hltB : decide ((i : Int) < (xs.length : Int)) = true := by simp; omega
      obtain ⟨x, hxi⟩ : ∃ x, xs[i]? = some x := ⟨_, List.getElem?_eq_getElem hlt⟩
      obtain ⟨b, o, rfl, hc⟩ := (HX.out.ext HI.out.2.1).uat hxi
      have htk : xs.take (i + 1) = xs.take i ++ [x] := by rw [List.take_add_one, hxi]; rfl
      have HTK := hid htk
      have hi0 : (0 : Int) ≤ (i : Int) := Int.natCast_nonneg _
      have hil : (i : Int) < (xs.length : Int) := by omega
      have HD := hid (appendDigits_any _ _ x 8 wr HI.out.1 (by simp only [List.length_append, lenB_length, cat_length, List.length_take]; omega) (by omega))
      clear hxi htk
      go_wp2_with fail
      refine HD.out.mono ?_
      rintro e w3 hm
      obtain ⟨v3, rfl, g1, g2, g3⟩ := NewB.more HI.out.2.1 HI.out.2.2 hm
      have G := hid (And.intro g1 (And.intro g2 g3))
      clear g1 g2 g3 hm HD hc
      go_wp2_with fail
      go_roundw
      case rel => exact ⟨i + 1, by omega, by go_num, hid ⟨by rw [HTK.out, cat_snoc, ← List.append_assoc]; exact G.out.1, G.out.2⟩⟩
      case measure => simp [intOf]; omega
    · have hie : i = xs.length := by omega
      subst hie
      have hltB : decide ((xs.length : Int) < (xs.length : Int)) = false := by simp
      have hfin := HI.out.1
      rw [List.take_length] at hfin
      have HF := hid hfin
      clear hfin
      go_wp2_with fail
      go_ret
      exact ⟨_, rfl, by unfold listB; rw [← List.append_assoc]; exact HF.out, HI.out.2⟩
/-- One's own list of bytes, new since w. -/
def FrB (w v : World) (x : Value) (l : List UInt8) : Prop := OwnB v x l ∧ Ext w v ∧ ∀ k, blk x = some k → w.heap.size ≤ k
theorem FrB.ext {w v v' : World} {x : Value} {l : List UInt8} (h : FrB w v x l) (k : Ext v v') : FrB w v' x l := ⟨ownsRow_ext h.1 k, h.2.1.trans k, h.2.2⟩
theorem FrB.app {w v v' : World} {x y : Value} {l m : List UInt8} (h : FrB w v x l) {n : Nat} {xs : List Value} (hown : v'.ownsRow 0 5 1 y n xs) (hk : Kp (fun k => some k = blk x) v v') (hb : blk y = blk x ∨ blk y = some v.heap.size) (hn : n = l.length + m.length) (hx : xs = bs l ++ bs m) : FrB w v' y (l ++ m) := by
  refine ⟨?_, h.2.1.kp hk (fun k e => h.2.2 k e.symm), fun k e => ?_⟩
  · show v'.ownsRow 0 5 1 y (l ++ m).length (bs (l ++ m))
    rw [List.length_append, show bs (l ++ m) = bs l ++ bs m from List.map_append, ← hn, ← hx]
    exact hown
  · rcases hb with hb | hb
    · exact h.2.2 k (hb ▸ e)
    · rw [hb] at e; injection e with e; have := h.2.1.size; omega
theorem tmod_byte (x : UInt64) : ((x.toNat : Int)).tmod 256 = ((x.toUInt8).toNat : Int) := by
  rw [Int.tmod_eq_emod_of_nonneg (by omega), UInt64.toNat_toUInt8]; omega
theorem tdiv_of (x : UInt64) : ((x.toNat : Int)).tdiv 256 = ((x / 256).toNat : Int) := by
  rw [Int.tdiv_eq_ediv_of_nonneg (by omega)]; exact div_of x
theorem wrap_zU (z : UInt64) : IntKind.u64.wrap (z.toNat : Int) = (z.toNat : Int) := by
  rw [IntKind.wrap_u64]; have := u_lt z; omega
theorem byte_wrap (c : UInt8) : IntKind.u8.wrap (c.toNat : Int) = (c.toNat : Int) := by
  rw [IntKind.wrap_u8]; have := c.toNat_lt; omega
set_option maxRecDepth 5000 in
set_option maxHeartbeats 1000000 in
theorem rDigits_any (x : UInt64) (size : Nat) (w : World) (hs : size ≤ 8) :
    Calls Tryz.prog 86 #[.int .u64 x.toNat, .int .i64 (size : Int)] w (NewB w (leB size x)) := by
  obtain ⟨i0, hi, hz0, hz1, hz2⟩ := info_parts Tryz.infoB
  obtain ⟨T, hT⟩ : ∃ T, T = leB size x := ⟨_, rfl⟩
  rw [← hT]
  have HT := hid hT
  clear hT
  go_enter Tryz.func86, Tryz.ntmps86
  go_wp2
  go_loopw [0, 5, 6] (fun xv vv kv wr => ∃ (k : Nat) (y : UInt64) (cur : List UInt8), k ≤ size ∧ kv = .int .i64 k ∧ xv = .int .u64 y.toNat ∧ cur.length = k ∧ Hid (cur ++ leB (size - k) y = T) ∧ Hid (OwnB wr vv cur ∧ Ext w wr ∧ ∀ k, blk vv = some k → w.heap.size ≤ k)) (fun _ _ kv _ => size - (intOf kv).toNat)
  case atStart => exact ⟨0, x, [], by omega, rfl, rfl, rfl, hid (by simpa using HT.out.symm), hid ⟨World.ownsRow_nil _ _ _ _, Ext.refl _, fun k h => by cases h⟩⟩
  case round =>
    obtain ⟨k, y, cur, hk, rfl, rfl, hcl, hcur, H⟩ := hrel
    by_cases hlt : k < size
    · obtain ⟨c, hc⟩ : ∃ c, c = y.toUInt8 := ⟨_, rfl⟩
      obtain ⟨z, hz⟩ : ∃ z, z = y / 256 := ⟨_, rfl⟩
      have hcv := tmod_byte y
      have hzv := tdiv_of y
      rw [← hc] at hcv
      rw [← hz] at hzv
      have hcw := byte_wrap c
      have hzw := wrap_zU z
      have HC := hid hc
      have HZ := hid hz
      clear hc hz
      have hltB : decide ((k : Int) < (size : Int)) = true := by simp; omega
      have hb1 : cur.length + 1 ≤ maxLen := by unfold maxLen; omega
      have hb2 : (cur.length + 1) * 1 ≤ 140737488355328 := by omega
      have hone : ∀ u ∈ [Value.int .u8 (c.toNat : Int)], u.oneCell' = true := by simp [Value.oneCell']
      have B1 := hid hb1
      have B2 := hid hb2
      have B3 := hid hone
      have HCL := hid hcl
      clear hb1 hb2 hone hcl
      go_wp2_with (at_builtin; refine wpList_app rfl _ _ 69 rfl 5 i0 (.int .u8 0) 1 1 Tryz.underlying69 hi hz0 hz1 hz2 rfl (by decide) _ cur.length (bs cur) rfl (ownsRow_ext H.out.1 ((Ext.refl _).alloc _)) _ 1 [.int .u8 c.toNat] rfl (RdC.new1 _ _ _) rfl B3.out B1.out B2.out ?_)
      intro v' w1 hown0 hk2 hb
      have hown : OwnB w1 v' (cur ++ [c]) := by
        show w1.ownsRow 0 5 1 v' (cur ++ [c]).length (bs (cur ++ [c]))
        rw [show (cur ++ [c]).length = cur.length + 1 from by simp, show bs (cur ++ [c]) = bs cur ++ [.int .u8 c.toNat] from by simp]
        exact hown0
      have hk3 : Ext w w1 := (H.out.2.1.alloc (.cells #[.int .u8 c.toNat] 5)).kp hk2 (fun k h => H.out.2.2 k h.symm)
      have hb3 : ∀ k, blk v' = some k → w.heap.size ≤ k := fun k h => by
        rcases hb with hb | hb
        · exact H.out.2.2 k (hb ▸ h)
        · rw [hb] at h; injection h with h; have := H.out.2.1.size; have : wr.heap.size ≤ (wr.alloc (.cells #[.int .u8 c.toNat] 5)).heap.size := ((Ext.refl wr).alloc _).size; simp only [World.size_alloc] at *; omega
      have K := hid (And.intro hown (And.intro hk3 hb3))
      clear hown0 hown hk2 hb hk3 hb3
      go_wp2
      go_roundw
      case rel =>
        refine ⟨k + 1, z, cur ++ [c], by omega, by go_num, rfl, by have := HCL.out; simp; omega, hid ?_, K⟩
        have := hcur.out
        rw [show size - k = (size - (k + 1)) + 1 from by omega] at this
        rw [← this, HC.out, HZ.out]
        simp [leB]
      case measure => simp [intOf]; omega
    · have hk8 : k = size := by omega
      have hltB : decide ((k : Int) < (size : Int)) = false := by simp; omega
      have hfin : cur = T := by have := hcur.out; rw [hk8, Nat.sub_self] at this; simpa [leB] using this
      have HF := hid hfin
      clear hfin hcl
      go_wp2
      go_ret
      exact ⟨_, rfl, by rw [← HF.out]; exact H.out.1, H.out.2⟩
set_option maxHeartbeats 1000000 in
theorem rLen_any (n : Int) (w : World) : Calls Tryz.prog 84 #[.int .i64 n] w (NewB w (lenB n)) := by
  rw [lenB_U]
  have HD := hid (rDigits_any (lenU n) 4 w (by omega))
  by_cases h0 : 0 ≤ n
  · by_cases h1 : n ≤ 4294967295
    · have hu : ((lenU n).toNat : Int) = n := by
        unfold lenU
        rw [if_pos ⟨h0, h1⟩, UInt64.toNat_ofNat']
        omega
      rw [hu] at HD
      have d0 : decide (n < 0) = false := by simp; omega
      have d1 : decide ((4294967296 : Int) ≤ n) = false := by simp; omega
      have hwr : IntKind.u64.wrap n = n := by rw [IntKind.wrap_u64]; omega
      clear hu
      go_enter Tryz.func84, Tryz.ntmps84
      go_wp2_with fail
      refine HD.out.mono ?_
      rintro e w1 ⟨v', rfl, g1, g2, g3⟩
      have G := hid (And.intro g1 (And.intro g2 g3))
      clear g1 g2 g3
      go_wp2_with fail
      go_ret
      exact ⟨v', rfl, G.out⟩
    · have hu : ((lenU n).toNat : Int) = 0 := by unfold lenU; rw [if_neg (by omega)]; rfl
      rw [hu] at HD
      have d0 : decide (n < 0) = false := by simp; omega
      have d1 : decide ((4294967296 : Int) ≤ n) = true := by simp; omega
      clear hu
      go_enter Tryz.func84, Tryz.ntmps84
      go_wp2_with fail
      refine HD.out.mono ?_
      rintro e w1 ⟨v', rfl, g1, g2, g3⟩
      have G := hid (And.intro g1 (And.intro g2 g3))
      clear g1 g2 g3
      go_wp2_with fail
      go_ret
      exact ⟨v', rfl, G.out⟩
  · have hu : ((lenU n).toNat : Int) = 0 := by unfold lenU; rw [if_neg (by omega)]; rfl
    rw [hu] at HD
    have d0 : decide (n < 0) = true := by simp; omega
    clear hu
    go_enter Tryz.func84, Tryz.ntmps84
    go_wp2_with fail
    refine HD.out.mono ?_
    rintro e w1 ⟨v', rfl, g1, g2, g3⟩
    have G := hid (And.intro g1 (And.intro g2 g3))
    clear g1 g2 g3
    go_wp2_with fail
    go_ret
    exact ⟨v', rfl, G.out⟩
set_option maxRecDepth 100000 in
set_option maxHeartbeats 1600000 in
theorem rList_any (lv : Value) (xs : List UInt64) (w : World) (hx : RdU' w lv xs) (hX : xs.length ≤ 1000000000) :
    Calls Tryz.prog 85 #[lv] w (NewB w (listB xs)) := by
  obtain ⟨i0, hi, hz0, hz1, hz2⟩ := info_parts Tryz.infoB
  have HI0 := hid (And.intro hi (And.intro hz0 (And.intro hz1 hz2)))
  obtain ⟨xa, xc, rfl, -⟩ := id hx
  have HX := hid hx
  have hX1 : (xs.length : Int) ≤ 1000000000 := by omega
  have HR := hid (rLen_any (xs.length : Int) w)
  clear hx hi hz0 hz1 hz2
  go_enter Tryz.func85, Tryz.ntmps85
  go_wp2_with fail
  refine (HR.out).mono ?_
  rintro e w1 ⟨v1, rfl, g1, g2, g3⟩
  have G : Hid (FrB w w1 v1 (lenB xs.length)) := hid ⟨g1, g2, g3⟩
  clear g1 g2 g3 HR
  go_wp2_with fail
  go_loopw [3, 4] (fun bv iv wr => ∃ i : Nat, i ≤ xs.length ∧ iv = .int .i64 i ∧ Hid (FrB w wr bv (lenB xs.length ++ cat (xs.take i)))) (fun _ iv _ => xs.length - (intOf iv).toNat)
  case atStart => exact ⟨0, by omega, rfl, hid (by simpa [cat] using G.out)⟩
  case round =>
    obtain ⟨i, hi, rfl, HI⟩ := hrel
    clear G
    by_cases hlt : i < xs.length
    · have hltB : decide ((i : Int) < (xs.length : Int)) = true := by simp; omega
      obtain ⟨x, hxi⟩ : ∃ x, xs[i]? = some x := ⟨_, List.getElem?_eq_getElem hlt⟩
      obtain ⟨b, o, rfl, hc⟩ := (HX.out.ext HI.out.2.1).uat hxi
      have htk : xs.take (i + 1) = xs.take i ++ [x] := by rw [List.take_add_one, hxi]; rfl
      have HTK := hid htk
      have hi0 : (0 : Int) ≤ (i : Int) := Int.natCast_nonneg _
      have hil : (i : Int) < (xs.length : Int) := by omega
      have HD := hid (rDigits_any x 8 wr (by omega))
      have HLEN : Hid ((lenB xs.length ++ cat (xs.take i)).length + 8 ≤ 100000000000) := hid (by simp only [List.length_append, lenB_length, cat_length, List.length_take]; omega)
      obtain ⟨cur, hcur⟩ : ∃ cur, cur = lenB xs.length ++ cat (xs.take i) := ⟨_, rfl⟩
      rw [← hcur] at HI HLEN
      have HCUR := hid hcur
      clear hxi htk hcur
      go_wp2_with fail
      refine (HD.out).mono ?_
      rintro e w2 ⟨v2, rfl, g1, g2, g3⟩
      have H2 := hid (And.intro (HI.out.ext g2) g1)
      clear g1 g2 g3 HD hc
      go_wp2_with (at_builtin; refine wpList_app rfl _ _ 69 rfl 5 i0 (.int .u8 0) 1 1 Tryz.underlying69 HI0.out.1 HI0.out.2.1 HI0.out.2.2.1 HI0.out.2.2.2 rfl (by decide) _ cur.length (bs cur) rfl H2.out.1.1 v2 8 (bs (leB 8 x)) rfl (ownsRow_rd H2.out.2) rfl (bs_one _) (by have := HLEN.out; unfold maxLen; omega) (by have := HLEN.out; omega) ?_)
      intro v3 w3 hown hk hb
      have H3 := hid (H2.out.1.app (m := leB 8 x) hown hk hb (by rw [leB_length]) rfl)
      clear hown hk hb
      go_wp2_with fail
      go_roundw
      case rel => exact ⟨i + 1, by omega, by go_num, hid (by rw [HTK.out, cat_snoc, ← List.append_assoc, ← HCUR.out]; exact H3.out)⟩
      case measure => simp [intOf]; omega
    · have hie : i = xs.length := by omega
      subst hie
      have hltB : decide ((xs.length : Int) < (xs.length : Int)) = false := by simp
      have hfin := HI.out
      rw [List.take_length] at hfin
      have HF := hid hfin
      clear hfin
      go_wp2_with fail
      go_ret
      exact ⟨_, rfl, HF.out⟩
set_option maxRecDepth 100000 in
set_option maxHeartbeats 1600000 in
theorem rBytes_any (cv : Value) (c : List UInt8) (w : World) (hc : RdB' w cv c) (hC : c.length ≤ 1000000000) :
    Calls Tryz.prog 172 #[cv] w (NewB w (bytesB c)) := by
  obtain ⟨i0, hi, hz0, hz1, hz2⟩ := info_parts Tryz.infoB
  have HI0 := hid (And.intro hi (And.intro hz0 (And.intro hz1 hz2)))
  obtain ⟨xa, xc, rfl, -⟩ := id hc
  have HX := hid hc
  have HC := hid hC
  have HR := hid (rLen_any (c.length : Int) w)
  obtain ⟨cur, hcur⟩ : ∃ cur, cur = lenB (c.length : Int) := ⟨_, rfl⟩
  have hcl : cur.length = 4 := by rw [hcur, lenB_length]
  have HCL := hid hcl
  rw [← hcur] at HR
  have HCUR := hid hcur
  clear hc hi hz0 hz1 hz2 hcur hcl
  go_enter Tryz.func172, Tryz.ntmps172
  go_wp2_with fail
  refine (HR.out).mono ?_
  rintro e w1 ⟨v1, rfl, g1, g2, g3⟩
  have G : Hid (FrB w w1 v1 cur) := hid ⟨g1, g2, g3⟩
  clear g1 g2 g3 HR
  go_wp2_with (at_builtin; refine wpList_app' rfl _ _ 69 rfl 5 i0 (.int .u8 0) 1 1 Tryz.underlying69 HI0.out.1 HI0.out.2.1 HI0.out.2.2.1 HI0.out.2.2.2 rfl (by decide) v1 cur.length (bs cur) rfl G.out.1 (.slice xa c.length xc) c.length (bs c) rfl (HX.out.ext G.out.2.1) (by simp) (bs_one c) (by have := HCL.out; have := HC.out; unfold maxLen; omega) (by have := HCL.out; have := HC.out; omega) ?_)
  intro v3 w3 hown hk hb
  have H3 := hid (G.out.app (m := c) hown hk hb rfl rfl)
  clear hown hk hb
  go_wp2_with fail
  go_ret
  exact ⟨_, rfl, by unfold bytesB; rw [← HCUR.out]; exact H3.out⟩
end Go.Proofs.YtcikjcjfcanloaaGreat
namespace Go.Proofs.YtcikjcjfcanloaaGreat
open Go.RowKit
attribute [local irreducible] perm fAdd fMul fPow fSub fNeg fRed hashU
theorem spot_none {w : World} {ad : Addr} {u : Value} (h : w.cell? (ad.add 0) = some u) : ad = ⟨ad.block, ad.off, none⟩ := by
  have h1 := add_spot h
  rw [show ad.add 0 = ad by simp [Addr.add]] at h1
  exact h1
end Go.Proofs.YtcikjcjfcanloaaGreat
namespace Go.Proofs.YtcikjcjfcanloaaGreat
open Go.RowKit
theorem flat_at {α : Type} {f : α → List Value} {k : Nat} (hf : ∀ x, (f x).length = k) : ∀ (X : List α) (i : Nat) {x : α}, X[i]? = some x → ∀ j, j < k → (X.flatMap f)[i * k + j]? = (f x)[j]?
  | [], i, x, h, _, _ => by simp at h
  | y :: r, 0, x, h, j, hj => by
    simp at h; subst h
    rw [List.flatMap_cons, Nat.zero_mul, Nat.zero_add, List.getElem?_append_left (by rw [hf]; exact hj)]
  | y :: r, i + 1, x, h, j, hj => by
    rw [List.flatMap_cons, List.getElem?_append_right (by rw [hf, Nat.succ_mul]; omega), hf]
    rw [show (i + 1) * k + j - k = i * k + j by rw [Nat.succ_mul]; omega]
    exact flat_at hf r i (by simpa using h) j hj
theorem flat_len {α : Type} {f : α → List Value} {k : Nat} (hf : ∀ x, (f x).length = k) (X : List α) : (X.flatMap f).length = X.length * k := by
  induction X with
  | nil => simp
  | cons x r ih => rw [List.flatMap_cons, List.length_append, hf, ih, List.length_cons, Nat.succ_mul, Nat.add_comm]
/-- A list of rows of k cells, read weakly: its address is plain where it is not empty. -/
theorem rows_at {w : World} {a : Option Addr} {n c : Nat} {α : Type} {f : α → List Value} {k : Nat} {X : List α} (hf : ∀ x, (f x).length = k) (hk : 0 < k) (hn : n = X.length) (h : RdC' w (.slice a n c) n (X.flatMap f)) {i : Nat} {x : α} (hx : X[i]? = some x) :
    ∃ b o, a = some ⟨b, o, none⟩ ∧ ∀ j u, j < k → (f x)[j]? = some u → w.cell? ⟨b, o + i * k + j, none⟩ = some u := by
  obtain ⟨a', c', he, h2, h3, h4, h5⟩ := h
  injection he with e1 e2 e3
  subst e1 e3
  have hX : X ≠ [] := by rintro rfl; simp at hx
  obtain ⟨y, r, hyr⟩ := List.exists_cons_of_ne_nil hX
  have hne : (X.flatMap f)[0]? = (f y)[0]? := by
    have := flat_at hf X 0 (x := y) (by rw [hyr]; rfl) 0 hk
    simpa using this
  have hfy : (f y)[0]? = some ((f y)[0]'(by rw [hf]; exact hk)) := List.getElem?_eq_getElem (by rw [hf]; exact hk)
  cases a with
  | none =>
    have hc := h4 rfl
    have : 0 < X.length := List.length_pos_iff.2 hX
    omega
  | some ad =>
    have hsp := spot_none (h5 ad rfl 0 _ (hne.trans hfy))
    refine ⟨ad.block, ad.off, by rw [← hsp], fun j u hj hu => ?_⟩
    have h6 := h5 ad rfl (i * k + j) u (by rw [flat_at hf X i hx j hj]; exact hu)
    rw [hsp, Addr.add_lit] at h6
    rw [Nat.add_assoc]; exact h6
theorem RdC'.shape {w : World} {v : Value} {n : Nat} {cells : List Value} (h : RdC' w v n cells) : ∃ a c, v = .slice a n c ∧ n ≤ c ∧ c ≤ maxLen := by
  obtain ⟨a, c, rfl, h2, h3, -⟩ := h
  exact ⟨a, c, rfl, h2, h3⟩
def outCells (x : OutT × Value) : List Value := [uv x.1.commit, uv x.1.p.a, uv x.1.p.b, x.2]
theorem outCells_len (x : OutT × Value) : (outCells x).length = 4 := rfl
def RdOs (w : World) (v : Value) (l : List OutT) : Prop := ∃ X : List (OutT × Value), X.map (·.1) = l ∧ RdC' w v l.length (X.flatMap outCells) ∧ ∀ x ∈ X, RdU' w x.2 x.1.cipher
theorem RdOs.ext {w w' : World} {v : Value} {l : List OutT} (h : RdOs w v l) (k : Ext w w') : RdOs w' v l := by
  obtain ⟨X, h1, h2, h3⟩ := h
  exact ⟨X, h1, h2.ext k, fun x hx => (h3 x hx).ext k⟩
theorem RdOs.shape {w : World} {v : Value} {l : List OutT} (h : RdOs w v l) : ∃ a c, v = .slice a l.length c ∧ l.length ≤ c ∧ c ≤ maxLen := by
  obtain ⟨X, h1, h2, h3⟩ := h
  exact h2.shape
theorem RdOs.at {w : World} {a : Option Addr} {n c : Nat} {l : List OutT} (h : RdOs w (.slice a n c) l) {i : Nat} {o : OutT} (ho : l[i]? = some o) :
    ∃ b q ca cc, a = some ⟨b, q, none⟩ ∧ w.cell? ⟨b, q + i * 4, none⟩ = some (uv o.commit) ∧ w.cell? ⟨b, q + i * 4 + 1, none⟩ = some (uv o.p.a) ∧ w.cell? ⟨b, q + i * 4 + 2, none⟩ = some (uv o.p.b) ∧ w.cell? ⟨b, q + i * 4 + 3, none⟩ = some (.slice ca o.cipher.length cc) ∧ RdU' w (.slice ca o.cipher.length cc) o.cipher := by
  obtain ⟨X, h1, h2, h3⟩ := h
  have hn : n = l.length := by obtain ⟨a', c', he, -⟩ := h2; injection he
  have hXl : X.length = l.length := by rw [← h1, List.length_map]
  have hi : i < X.length := by rw [hXl]; exact (List.getElem?_eq_some_iff.1 ho).1
  have hx : X[i]? = some X[i] := List.getElem?_eq_getElem hi
  have hxo : X[i].1 = o := by
    have : l[i]? = some X[i].1 := by rw [← h1, List.getElem?_map, hx]; rfl
    rw [ho] at this
    exact (Option.some.inj this).symm
  have hr := h3 _ (List.getElem_mem hi)
  subst hn
  obtain ⟨b, q, rfl, hc⟩ := rows_at outCells_len (by omega) hXl.symm h2 hx
  rw [hxo] at hr
  obtain ⟨ca, cc, hv, -⟩ := hr.shape
  have e0 := hc 0 _ (by omega) rfl
  have e1 := hc 1 _ (by omega) rfl
  have e2 := hc 2 _ (by omega) rfl
  have e3 := hc 3 _ (by omega) rfl
  rw [hxo] at e0 e1 e2
  rw [hv] at e3 hr
  exact ⟨b, q, ca, cc, rfl, e0, e1, e2, e3, hr⟩
abbrev txVal (t : TxT) (mv ov pv : Value) : Value := .agg #[uv t.anchor, mv, ov, uv t.deposit, uv t.withdraw, uv t.fee, uv t.account, uv t.nonce, .int .i64 t.expiry, pv]
structure RdT (w : World) (t : TxT) (mv ov pv : Value) : Prop where
  m : RdU' w mv t.marks
  o : RdOs w ov t.outs
  p : RdB' w pv t.proof
theorem RdT.ext {w w' : World} {t : TxT} {mv ov pv : Value} (h : RdT w t mv ov pv) (k : Ext w w') : RdT w' t mv ov pv := ⟨h.m.ext k, h.o.ext k, h.p.ext k⟩
theorem RdT.shape {w : World} {t : TxT} {mv ov pv : Value} (h : RdT w t mv ov pv) : ∃ ma mc oa oc pa pc, mv = .slice ma t.marks.length mc ∧ ov = .slice oa t.outs.length oc ∧ pv = .slice pa t.proof.length pc := by
  obtain ⟨ma, mc, h1, -⟩ := h.m.shape
  obtain ⟨oa, oc, h2, -⟩ := h.o.shape
  obtain ⟨pa, pc, h3, -⟩ := h.p.shape
  exact ⟨ma, mc, oa, oc, pa, pc, h1, h2, h3⟩
abbrev TxM := TxT × Value × Value × Value
def txCells (x : TxM) : List Value := [uv x.1.anchor, x.2.1, x.2.2.1, uv x.1.deposit, uv x.1.withdraw, uv x.1.fee, uv x.1.account, uv x.1.nonce, .int .i64 x.1.expiry, x.2.2.2]
theorem txCells_len (x : TxM) : (txCells x).length = 10 := rfl
def RdTs (w : World) (v : Value) (l : List TxT) : Prop := ∃ X : List TxM, X.map (·.1) = l ∧ RdC' w v l.length (X.flatMap txCells) ∧ ∀ x ∈ X, RdT w x.1 x.2.1 x.2.2.1 x.2.2.2
theorem RdTs.ext {w w' : World} {v : Value} {l : List TxT} (h : RdTs w v l) (k : Ext w w') : RdTs w' v l := by
  obtain ⟨X, h1, h2, h3⟩ := h
  exact ⟨X, h1, h2.ext k, fun x hx => (h3 x hx).ext k⟩
theorem RdTs.shape {w : World} {v : Value} {l : List TxT} (h : RdTs w v l) : ∃ a c, v = .slice a l.length c ∧ l.length ≤ c ∧ c ≤ maxLen := by
  obtain ⟨X, h1, h2, h3⟩ := h
  exact h2.shape
theorem RdTs.at {w : World} {a : Option Addr} {n c : Nat} {l : List TxT} (h : RdTs w (.slice a n c) l) {i : Nat} {t : TxT} (ht : l[i]? = some t) :
    ∃ b q ma mc oa oc pa pc, a = some ⟨b, q, none⟩ ∧ RdT w t (.slice ma t.marks.length mc) (.slice oa t.outs.length oc) (.slice pa t.proof.length pc) ∧
      (w.cell? ⟨b, q + i * 10, none⟩ = some (uv t.anchor) ∧ w.cell? ⟨b, q + i * 10 + 1, none⟩ = some (.slice ma t.marks.length mc) ∧ w.cell? ⟨b, q + i * 10 + 2, none⟩ = some (.slice oa t.outs.length oc) ∧ w.cell? ⟨b, q + i * 10 + 3, none⟩ = some (uv t.deposit) ∧ w.cell? ⟨b, q + i * 10 + 4, none⟩ = some (uv t.withdraw) ∧
      w.cell? ⟨b, q + i * 10 + 5, none⟩ = some (uv t.fee) ∧ w.cell? ⟨b, q + i * 10 + 6, none⟩ = some (uv t.account) ∧ w.cell? ⟨b, q + i * 10 + 7, none⟩ = some (uv t.nonce) ∧ w.cell? ⟨b, q + i * 10 + 8, none⟩ = some (.int .i64 t.expiry) ∧ w.cell? ⟨b, q + i * 10 + 9, none⟩ = some (.slice pa t.proof.length pc)) := by
  obtain ⟨X, h1, h2, h3⟩ := h
  have hn : n = l.length := by obtain ⟨a', c', he, -⟩ := h2; injection he
  have hXl : X.length = l.length := by rw [← h1, List.length_map]
  have hi : i < X.length := by rw [hXl]; exact (List.getElem?_eq_some_iff.1 ht).1
  have hx : X[i]? = some X[i] := List.getElem?_eq_getElem hi
  have hr := h3 _ (List.getElem_mem hi)
  obtain ⟨⟨t', mv, ov, pv⟩, hX⟩ : ∃ y, y = X[i] := ⟨_, rfl⟩
  rw [← hX] at hx hr
  have hxo : t' = t := by
    have : l[i]? = some t' := by rw [← h1, List.getElem?_map, hx]; rfl
    rw [ht] at this
    exact (Option.some.inj this).symm
  subst hn hxo
  obtain ⟨b, q, rfl, hc⟩ := rows_at txCells_len (by omega) hXl.symm h2 hx
  simp only at hr
  obtain ⟨ma, mc, oa, oc, pa, pc, rfl, rfl, rfl⟩ := hr.shape
  exact ⟨b, q, ma, mc, oa, oc, pa, pc, rfl, hr, hc 0 _ (by omega) rfl, hc 1 _ (by omega) rfl, hc 2 _ (by omega) rfl, hc 3 _ (by omega) rfl, hc 4 _ (by omega) rfl, hc 5 _ (by omega) rfl, hc 6 _ (by omega) rfl, hc 7 _ (by omega) rfl, hc 8 _ (by omega) rfl, hc 9 _ (by omega) rfl⟩
abbrev blkVal (b : BlkT) (tv : Value) : Value := .agg #[uv b.parent, .int .i64 b.height, uv b.miner, uv b.work, uv b.nonce, tv]
/-- A boxed transaction's cells. -/
theorem ten_cells {w : World} {b : Nat} {c0 c1 c2 c3 c4 c5 c6 c7 c8 c9 : Value} {T : TypeId} (h : w.heap[b]? = some (.cells #[c0, c1, c2, c3, c4, c5, c6, c7, c8, c9] T (0, 0))) :
    w.cell? ⟨b, 0, none⟩ = some c0 ∧ w.cell? ⟨b, 1, none⟩ = some c1 ∧ w.cell? ⟨b, 2, none⟩ = some c2 ∧ w.cell? ⟨b, 3, none⟩ = some c3 ∧ w.cell? ⟨b, 4, none⟩ = some c4 ∧ w.cell? ⟨b, 5, none⟩ = some c5 ∧ w.cell? ⟨b, 6, none⟩ = some c6 ∧ w.cell? ⟨b, 7, none⟩ = some c7 ∧ w.cell? ⟨b, 8, none⟩ = some c8 ∧ w.cell? ⟨b, 9, none⟩ = some c9 :=
  ⟨cell_of h 0, cell_of h 1, cell_of h 2, cell_of h 3, cell_of h 4, cell_of h 5, cell_of h 6, cell_of h 7, cell_of h 8, cell_of h 9⟩
theorem six_cellsB {w : World} {b : Nat} {c0 c1 c2 c3 c4 c5 : Value} {T : TypeId} (h : w.heap[b]? = some (.cells #[c0, c1, c2, c3, c4, c5] T (0, 0))) :
    w.cell? ⟨b, 0, none⟩ = some c0 ∧ w.cell? ⟨b, 1, none⟩ = some c1 ∧ w.cell? ⟨b, 2, none⟩ = some c2 ∧ w.cell? ⟨b, 3, none⟩ = some c3 ∧ w.cell? ⟨b, 4, none⟩ = some c4 ∧ w.cell? ⟨b, 5, none⟩ = some c5 :=
  ⟨cell_of h 0, cell_of h 1, cell_of h 2, cell_of h 3, cell_of h 4, cell_of h 5⟩
theorem four_cellsO {w : World} {b : Nat} {c0 c1 c2 c3 : Value} {T : TypeId} (h : w.heap[b]? = some (.cells #[c0, c1, c2, c3] T (0, 0))) :
    w.cell? ⟨b, 0, none⟩ = some c0 ∧ w.cell? ⟨b, 1, none⟩ = some c1 ∧ w.cell? ⟨b, 2, none⟩ = some c2 ∧ w.cell? ⟨b, 3, none⟩ = some c3 := ⟨cell_of h 0, cell_of h 1, cell_of h 2, cell_of h 3⟩
end Go.Proofs.YtcikjcjfcanloaaGreat
