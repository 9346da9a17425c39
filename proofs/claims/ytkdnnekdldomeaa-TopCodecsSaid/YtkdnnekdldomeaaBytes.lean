/- Numbers and bytes in memory; the bytes of numbers (leB, cat). -/
import Derived.Test.YtkdnnekdldomeaaSponge
import Derived.Test.YtkdnnekdldomeaaSlice
set_option linter.unusedSimpArgs false
namespace Go.Proofs.Ytkdnnekdldomeaa
open Go.RowKit
attribute [local irreducible] perm fAdd fMul fPow fSub fNeg fRed

abbrev uv (x : UInt64) : Value := .int .u64 (x.toNat : Int)
abbrev us (l : List UInt64) : List Value := l.map fun x => Value.int .u64 (x.toNat : Int)
theorem RdU.rdc {w : World} {v : Value} {l : List UInt64} (h : RdU w v l) : RdC w v l.length (us l) := by
  obtain ⟨a, c, h1, h2, h3, h4, h5⟩ := h
  refine ⟨a, c, h1, h2, h3, h4, fun ad ha => ⟨(h5 ad ha).1, fun j u hu => ?_⟩⟩
  simp only [us, List.getElem?_map, Option.map_eq_some_iff] at hu
  obtain ⟨x, hx, rfl⟩ := hu
  exact (h5 ad ha).2 j x hx
theorem RdC.rdu {w : World} {v : Value} {l : List UInt64} {n : Nat} (h : RdC w v n (us l)) (hn : n = l.length) : RdU w v l := by
  subst hn
  obtain ⟨a, c, h1, h2, h3, h4, h5⟩ := h
  refine ⟨a, c, h1, h2, h3, h4, fun ad ha => ⟨(h5 ad ha).1, fun j x hx => ?_⟩⟩
  exact (h5 ad ha).2 j _ (by simp [us, hx])
theorem RdU.ext {w w' : World} {v : Value} {l : List UInt64} (h : RdU w v l) (k : Ext w w') : RdU w' v l := (h.rdc.ext k).rdu rfl
theorem RdU.kp {F : Nat → Prop} {w w' : World} {v : Value} {l : List UInt64} (h : RdU w v l) (k : Kp F w w') (hF : ∀ b, blk v = some b → ¬ F b) : RdU w' v l := (h.rdc.kp k hF).rdu rfl
theorem us_one (l : List UInt64) : ∀ u ∈ us l, u.oneCell' = true := by
  intro u hu
  obtain ⟨_, _, rfl⟩ := List.mem_map.1 hu
  rfl
/-- A list of numbers that a slice of the call's own holds. -/
abbrev OwnU (w : World) (v : Value) (l : List UInt64) : Prop := w.ownsRow 0 22 1 v l.length (us l)
theorem OwnU.rdu {w : World} {v : Value} {l : List UInt64} (h : OwnU w v l) : RdU w v l := (ownsRow_rd h).rdu rfl

theorem Try.infoU : (Try.prog.info? 22).map (fun i => (i.zero, i.size, i.bytes)) = some (some (.int .u64 0), 1, 8) := by kernel_rfl
theorem Try.infoB : (Try.prog.info? 5).map (fun i => (i.zero, i.size, i.bytes)) = some (some (.int .u8 0), 1, 1) := by kernel_rfl

/-! ## elements -/
def allE (l : List UInt64) : Bool := l.all fun x => decide (x < big)
theorem lt_big_iff (x : UInt64) : x < big ↔ (x.toNat : Int) < 18446744069414584321 := by
  rw [UInt64.lt_iff_toNat_lt]
  show x.toNat < 18446744069414584321 ↔ _
  omega
theorem allE_snoc {l : List UInt64} {i : Nat} {x : UInt64} (hx : l[i]? = some x) (h : (l.take i).all (fun x => decide (x < big)) = true) (hb : x < big) : (l.take (i + 1)).all (fun x => decide (x < big)) = true := by
  have hi : i < l.length := (List.getElem?_eq_some_iff.1 hx).1
  rw [List.take_add_one, hx]
  simp only [List.all_append, h, Option.toList_some, List.all_cons, List.all_nil, Bool.and_true, Bool.true_and]
  simpa using hb
theorem allE_bad {l : List UInt64} {i : Nat} {x : UInt64} (hx : l[i]? = some x) (hb : ¬ x < big) : allE l = false := by
  unfold allE
  rw [List.all_eq_false]
  exact ⟨x, List.mem_of_getElem? hx, by simpa using hb⟩

/-- A new list that reads as l, nothing else turned. -/
def NewU (w : World) (l : List UInt64) (e : Ending) (w' : World) : Prop := ∃ v, e = .returned v ∧ OwnU w' v l ∧ Ext w w' ∧ (∀ k, blk v = some k → w.heap.size ≤ k)
abbrev bs (l : List UInt8) : List Value := l.map fun x => Value.int .u8 (x.toNat : Int)
abbrev OwnB (w : World) (v : Value) (l : List UInt8) : Prop := w.ownsRow 0 5 1 v l.length (bs l)
def leB : Nat → UInt64 → List UInt8
  | 0, _ => []
  | n + 1, x => x.toUInt8 :: leB n (x / 256)
theorem leB_length (n : Nat) (x : UInt64) : (leB n x).length = n := by
  induction n generalizing x with
  | zero => rfl
  | succ n ih => simp [leB, ih]
def lenOk (n k : Nat) : Prop := n ≤ 100000000000000 + k
/-- The list has become m, in the old block or in a new one. -/
def MoreB (w : World) (v : Value) (m : List UInt8) (e : Ending) (w' : World) : Prop :=
  ∃ v', e = .returned v' ∧ OwnB w' v' m ∧ Kp (fun k => some k = blk v) w w' ∧ (blk v' = blk v ∨ ∃ k, blk v' = some k ∧ w.heap.size ≤ k)
theorem byte_of (x : UInt64) : IntKind.u8.wrap (x.toNat : Int) = ((x.toUInt8).toNat : Int) := by
  rw [IntKind.wrap_u8, UInt64.toNat_toUInt8]; omega
theorem div_of (x : UInt64) : (x.toNat : Int) / 256 = ((x / 256).toNat : Int) := by
  rw [UInt64.toNat_div]; rfl

def cat (l : List UInt64) : List UInt8 := l.flatMap (leB 8)
theorem cat_length (l : List UInt64) : (cat l).length = 8 * l.length := by
  induction l with
  | nil => rfl
  | cons x r ih => simp only [cat, List.flatMap_cons, List.length_append, leB_length, List.length_cons] at *; omega
theorem cat_snoc (l : List UInt64) (x : UInt64) : cat (l ++ [x]) = cat l ++ leB 8 x := by simp [cat]

theorem div_mod_256 {x y : UInt64} (h1 : x.toUInt8 = y.toUInt8) (h2 : x / 256 = y / 256) : x = y := by
  have e1 : x.toNat % 256 = y.toNat % 256 := by rw [← UInt64.toNat_toUInt8, ← UInt64.toNat_toUInt8, h1]
  have e2 : x.toNat / 256 = y.toNat / 256 := by
    have a := congrArg UInt64.toNat h2
    rw [UInt64.toNat_div, UInt64.toNat_div] at a; exact a
  apply UInt64.toNat_inj.1; omega
theorem leB_small : ∀ (n : Nat) (x y : UInt64), x.toNat < 256 ^ n → y.toNat < 256 ^ n → leB n x = leB n y → x = y
  | 0, x, y, hx, hy, _ => by apply UInt64.toNat_inj.1; simp at hx hy; rw [hx, hy]
  | n + 1, x, y, hx, hy, h => by
    simp only [leB, List.cons.injEq] at h
    refine div_mod_256 h.1 (leB_small n _ _ ?_ ?_ h.2)
    · rw [UInt64.toNat_div]; show x.toNat / 256 < _; rw [Nat.pow_succ] at hx; omega
    · rw [UInt64.toNat_div]; show y.toNat / 256 < _; rw [Nat.pow_succ] at hy; omega
theorem leB_inj {x y : UInt64} (h : leB 8 x = leB 8 y) : x = y := leB_small 8 x y (by have := x.toNat_lt; omega) (by have := y.toNat_lt; omega) h
theorem cat_inj : ∀ {l m : List UInt64}, cat l = cat m → l = m
  | [], [], _ => rfl
  | [], y :: m, h => by have := congrArg List.length h; simp [cat_length] at this
  | x :: l, [], h => by have := congrArg List.length h; simp [cat_length] at this
  | x :: l, y :: m, h => by
    simp only [cat, List.flatMap_cons] at h
    have h2 := List.append_inj h (by simp [leB_length])
    rw [leB_inj h2.1, cat_inj (l := l) (m := m) h2.2]
set_option maxRecDepth 100000 in
theorem run_str (w : World) (v : Value) (l : List UInt8) (h : OwnB w v l) : (convert 33 9 v).run Try.prog w = .ok (.string ⟨l.toArray⟩) w := by
  have hd : Try.prog.underlying 9 = some .string := Try.underlying9
  rcases h.2 with ⟨rfl, h0⟩ | ⟨g, cap, cur, rfl, _, hg, hnc, _⟩
  · rw [run_convert_bytes_nil w _ _ Try.underlying33 Try.underlying5 _ _ _ hd]
    obtain rfl : l = [] := List.eq_nil_of_length_eq_zero h0
    simp [ByteArray.empty, ByteArray.emptyWithCapacity]
    rfl
  · have hr := run_convert_bytes_arg (P := Try.prog) w 33 5 Try.underlying33 Try.underlying5 g 0 l.length cap (l.map fun x => (x.toNat : Int)) (by simp) (fun i hi => by
      have hget : (bs l)[i]? = some (.int .u8 ((l[i]).toNat : Int)) := by rw [List.getElem?_map, List.getElem?_eq_getElem hi]; rfl
      have h2 := h.cells (g := g) rfl i _ hget
      rw [Addr.add_lit] at h2
      rw [h2, List.getD_eq_getElem?_getD, List.getElem?_map, List.getElem?_eq_getElem hi]; rfl) _ hd
    rw [hr]
    congr 2
    unfold strOfNums
    congr 1
    rw [List.map_map]
    congr 1
    refine (List.map_congr_left (g := id) fun x _ => ?_).trans (List.map_id l)
    show UInt8.ofNat ((x.toNat : Int)).toNat = x
    rw [Int.toNat_natCast]
    exact UInt8.ofNat_toNat

abbrev NewOf (w : World) (v : Value) : Prop := ∃ k, blk v = some k ∧ w.heap.size ≤ k
abbrev RdU' (w : World) (v : Value) (l : List UInt64) : Prop := RdC' w v l.length (us l)
theorem add_spot {w : World} {ad : Addr} {j : Nat} {u : Value} (h6 : w.cell? (ad.add j) = some u) : ad.add j = ⟨ad.block, ad.off + j, none⟩ := by
  have hs : (ad.add j).spot = none := by
    unfold World.cell? at h6
    split at h6
    · split at h6
      · cases h6
      · next h => simpa using h
    · cases h6
  unfold Addr.add at hs ⊢
  split at hs
  · next h0 => subst h0; cases ad; simp_all
  · next h0 => simp [h0]
theorem RdC'.of_blocks {w w' : World} {v : Value} {n : Nat} {cells : List Value} (h : RdC' w v n cells) (hb : ∀ k, blk v = some k → cells ≠ [] → w'.heap[k]? = w.heap[k]?) : RdC' w' v n cells := by
  obtain ⟨a, c, rfl, h2, h3, h4, h5⟩ := h
  refine ⟨a, c, rfl, h2, h3, h4, fun ad ha j u hu => ?_⟩
  subst ha
  have h6 := h5 ad rfl j u hu
  have e6 := add_spot h6
  rw [e6] at h6 ⊢
  rw [World.cell?_of_block (w := w) (a := ⟨ad.block, ad.off + j, none⟩) (hb ad.block rfl (by rintro rfl; simp at hu))]
  exact h6
theorem RdC'.lt {w : World} {v : Value} {n : Nat} {cells : List Value} (h : RdC' w v n cells) {k : Nat} (hk : blk v = some k) (hc : cells ≠ []) : k < w.heap.size := by
  obtain ⟨a, c, rfl, _, _, _, h5⟩ := h
  cases a with
  | none => simp [Value.ownBlock] at hk
  | some ad =>
    simp only [Value.ownBlock, Option.some.injEq] at hk
    subst hk
    cases cells with
    | nil => exact absurd rfl hc
    | cons x r =>
      have h6 := h5 ad rfl 0 x rfl
      rw [add_spot h6] at h6
      exact cell_lt h6
theorem RdC'.ext {w w' : World} {v : Value} {n : Nat} {cells : List Value} (h : RdC' w v n cells) (k : Ext w w') : RdC' w' v n cells :=
  h.of_blocks fun b hb hc => k.block b (h.lt hb hc)
theorem RdC'.kp {F : Nat → Prop} {w w' : World} {v : Value} {n : Nat} {cells : List Value} (h : RdC' w v n cells) (k : Kp F w w') (hF : ∀ b, blk v = some b → b < w.heap.size → ¬ F b) : RdC' w' v n cells :=
  h.of_blocks fun b hb hc => k.block b (h.lt hb hc) (hF b hb (h.lt hb hc))
theorem RdU.weak {w : World} {v : Value} {l : List UInt64} (h : RdU w v l) : RdU' w v l := h.rdc.weak
theorem RdC'.rdu {w : World} {v : Value} {l : List UInt64} (h : RdU' w v l) (hne : l ≠ []) : RdU w v l := by
  obtain ⟨a, c, rfl, h2, h3, h4, h5⟩ := h
  refine ⟨a, c, rfl, h2, h3, h4, fun ad ha => ?_⟩
  subst ha
  have hsp : ad.spot = none := by
    cases l with
    | nil => exact absurd rfl hne
    | cons x r =>
      have h6 := add_spot (h5 ad rfl 0 (uv x) rfl)
      rw [show ad.add 0 = ad by unfold Addr.add; simp] at h6
      rw [h6]
  refine ⟨hsp, fun i x hx => ?_⟩
  have h6 := h5 ad rfl i (uv x) (by simp [us, hx])
  rw [add_spot h6] at h6
  exact h6

theorem RdU.at {w : World} {a : Option Addr} {c : Nat} {l : List UInt64} (h : RdU w (.slice a l.length c) l) {i : Nat} {x : UInt64} (hx : l[i]? = some x) : ∃ b o, a = some ⟨b, o, none⟩ ∧ w.cell? ⟨b, o + i, none⟩ = some (.int .u64 x.toNat) := by
  obtain ⟨a', c', he, hlc, _, hnil, hcell⟩ := h
  injection he with h1 h2 h3
  subst h1
  have hi : i < l.length := (List.getElem?_eq_some_iff.1 hx).1
  cases a with
  | none => have := hnil rfl; omega
  | some ad =>
    obtain ⟨g1, g2⟩ := hcell ad rfl
    refine ⟨ad.block, ad.off, ?_, g2 i x hx⟩
    cases ad; simp only at g1; subst g1; rfl
theorem RdC'.uat {w : World} {a : Option Addr} {c : Nat} {l : List UInt64} (h : RdU' w (.slice a l.length c) l) {i : Nat} {x : UInt64} (hx : l[i]? = some x) : ∃ b o, a = some ⟨b, o, none⟩ ∧ w.cell? ⟨b, o + i, none⟩ = some (.int .u64 x.toNat) :=
  (h.rdu (by rintro rfl; simp at hx)).at hx
theorem own_empty (v : World) : (v.alloc (.cells #[] 22)).ownsRow 0 22 1 (.slice (some ⟨v.heap.size, 0, none⟩) 0 0) 0 [] := ⟨rfl, .inr ⟨v.heap.size, 0, #[], rfl, Nat.zero_le _, heap_new v _, Nat.le_refl _, Nat.zero_le _, rfl, rfl⟩⟩
/-- What append to an empty slice of one's own leaves. -/
theorem app_new {w0 v w' : World} {g : Nat} {v' : Value} {l : List UInt64} (hx : Ext w0 v) (hg : w0.heap.size ≤ g) (_hgv : g < v.heap.size) (hown : w'.ownsRow 0 22 1 v' (0 + l.length) ([] ++ us l)) (hk : Kp (fun k => some k = some g) v w') (hb : blk v' = some g ∨ blk v' = some v.heap.size) :
    OwnU w' v' l ∧ Ext w0 w' ∧ (∀ k, blk v' = some k → k = g ∨ v.heap.size ≤ k) ∧ ∀ k, blk v' = some k → w0.heap.size ≤ k := by
  refine ⟨by simpa using hown, hx.kp hk (by intro k h; cases h; exact hg), fun k hk' => ?_, fun k hk' => ?_⟩
  · rcases hb with h | h <;> (rw [h] at hk'; cases hk')
    · exact .inl rfl
    · exact .inr (Nat.le_refl _)
  · have := hx.size
    rcases hb with h | h <;> (rw [h] at hk'; cases hk') <;> omega
end Go.Proofs.Ytkdnnekdldomeaa
