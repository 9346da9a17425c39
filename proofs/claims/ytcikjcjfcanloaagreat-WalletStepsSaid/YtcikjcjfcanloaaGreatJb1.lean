/- Texts of this claim, joined: Same, LogLaw, NotesL, ClimbL, Log7, RW2. -/
import Derived.Test.YtcikjcjfcanloaaGreatJa4
import Derived.Test.YtcikjcjfcanloaaGreatJa7
import Derived.Test.YtcikjcjfcanloaaGreatJa8
import Derived.Test.YtcikjcjfcanloaaGreatJa13
import Derived.Test.YtcikjcjfcanloaaGreatJa14
import Derived.Test.YtcikjcjfcanloaaGreatJa10
import Derived.Test.YtcikjcjfcanloaaGreatJa15
set_option linter.unusedSimpArgs false
namespace Go.Proofs.YtcikjcjfcanloaaGreat
open Go.RowKit
attribute [local irreducible] perm fAdd fMul fPow fSub fNeg fRed
theorem same_snoc {a b : List UInt64} {i : Nat} {x y : UInt64} (ha : a[i]? = some x) (hb : b[i]? = some y) (h : a.take i = b.take i) (he : x = y) : a.take (i + 1) = b.take (i + 1) := by
  rw [List.take_add_one, List.take_add_one, ha, hb, h, he]
end Go.Proofs.YtcikjcjfcanloaaGreat
namespace Go.Proofs.YtcikjcjfcanloaaGreat
open Go.RowKit
def sibU (p k : Nat) : Nat := if p / 2 ^ k % 2 = 0 then p / 2 ^ k + 1 else p / 2 ^ k - 1
def pathU (d : Nat) (l : List UInt64) (p : Nat) : List UInt64 := (List.range d).map fun k => digU k (lvl k l) (sibU p k)
end Go.Proofs.YtcikjcjfcanloaaGreat
namespace Go.Proofs.YtcikjcjfcanloaaGreat
open Go.RowKit
theorem tryW_spec {seed : UInt64} {a : Nat} {o : OutT} {rho : UInt64} (h : (tryW seed a o rho).2 = true) : (tryW seed a o rho).1.owner = kOwner (kSpend seed) a ∧ commitN (tryW seed a o rho).1 = o.commit := by
  unfold tryW tryR at h ⊢
  split at h
  · next h1 =>
    split at h
    · next h2 =>
      split at h
      · next h3 =>
        rw [if_pos h1, if_pos h2, if_pos h3]
        refine ⟨rfl, ?_⟩
        rw [Bool.and_eq_true, decide_eq_true_eq] at h3
        obtain ⟨h4, h5⟩ := h3
        unfold commitK at h4 h5
        split at h4
        · next h6 =>
          rw [if_pos h6] at h5
          unfold Orc.peek at h4 h5
          split at h4
          · next h7 =>
            rw [if_pos h7] at h5
            exact h5
          · cases h4
        · cases h4
      · cases h
    · cases h
  · cases h
theorem findTo_spec {seed : UInt64} {o : OutT} {rho : UInt64} : ∀ {a : Nat} {r : Nt × Nat}, findTo seed o rho a = some r → r.1.owner = kOwner (kSpend seed) r.2 ∧ commitN r.1 = o.commit ∧ r.2 < a
  | 0, r, h => by cases h
  | a + 1, r, h => by
    unfold findTo at h
    split at h
    · next r' h1 =>
      injection h with h
      subst h
      obtain ⟨e1, e2, e3⟩ := findTo_spec h1
      exact ⟨e1, e2, by omega⟩
    · split at h
      · next h2 =>
        injection h with h
        subst h
        obtain ⟨e1, e2⟩ := tryW_spec h2
        exact ⟨e1, e2, by simp⟩
      · cases h
structure NtOk (seed : UInt64) (S : StW) : Prop where
  at_ : ∀ x ∈ S.notes, S.leaves[x.pos]? = some (commitN x.note)
  own : ∀ x ∈ S.notes, x.number < 4 ∧ x.note.owner = kOwner (kSpend seed) x.number
  inc : S.notes.Pairwise fun x y => x.pos < y.pos
theorem NtOk.lt {seed : UInt64} {S : StW} (h : NtOk seed S) {x : OwT} (hx : x ∈ S.notes) : x.pos < S.leaves.length := (List.getElem?_eq_some_iff.1 (h.at_ x hx)).1
theorem outW_same (key : UInt64) (h : Nat) (marks : List UInt64) (n : OwT) : (outW key h marks n).note = n.note ∧ (outW key h marks n).pos = n.pos ∧ (outW key h marks n).number = n.number ∧ (outW key h marks n).height = n.height := by
  unfold outW
  split <;> exact ⟨rfl, rfl, rfl, rfl⟩
theorem NtOk.map {seed : UInt64} {S S' : StW} {f : OwT → OwT} (h : NtOk seed S) (hl : S'.leaves = S.leaves) (hn : S'.notes = S.notes.map f) (hf : ∀ x, (f x).note = x.note ∧ (f x).pos = x.pos ∧ (f x).number = x.number) : NtOk seed S' := by
  refine ⟨fun x hx => ?_, fun x hx => ?_, ?_⟩
  · rw [hn] at hx
    obtain ⟨y, hy, rfl⟩ := List.mem_map.1 hx
    rw [hl, (hf y).1, (hf y).2.1]
    exact h.at_ y hy
  · rw [hn] at hx
    obtain ⟨y, hy, rfl⟩ := List.mem_map.1 hx
    rw [(hf y).1, (hf y).2.2]
    exact h.own y hy
  · rw [hn, List.pairwise_map]
    refine h.inc.imp fun {a b} hab => ?_
    rw [(hf a).2.1, (hf b).2.1]
    exact hab
theorem NtOk.spend {seed : UInt64} {S : StW} (h : NtOk seed S) (key : UInt64) (ht : Nat) (marks : List UInt64) : NtOk seed (spendW key ht marks S) :=
  h.map (spendW_notes key ht marks S).2 (spendW_notes key ht marks S).1 fun x => ⟨(outW_same key ht marks x).1, (outW_same key ht marks x).2.1, (outW_same key ht marks x).2.2.1⟩
theorem NtOk.recv1 {seed : UInt64} {S : StW} (h : NtOk seed S) (ht : Nat) (t : TxT) (j : Nat) (o : OutT) : NtOk seed (recv1 seed ht t S j o) := by
  have hold : ∀ x ∈ S.notes, (S.leaves ++ [o.commit])[x.pos]? = some (commitN x.note) := fun x hx => by
    rw [List.getElem?_append_left (h.lt hx)]
    exact h.at_ x hx
  unfold Go.Proofs.YtcikjcjfcanloaaGreat.recv1
  cases hf : findW seed o (rhoT t j) with
  | none =>
    simp only [gotW, List.append_nil]
    exact ⟨hold, h.own, h.inc⟩
  | some r =>
    obtain ⟨n, a⟩ := r
    obtain ⟨e1, e2, e3⟩ := findTo_spec hf
    simp only [gotW] at e1 e2 e3 ⊢
    refine ⟨fun x hx => ?_, fun x hx => ?_, ?_⟩
    · rcases List.mem_append.1 hx with hx | hx
      · exact hold x hx
      · obtain rfl := List.mem_singleton.1 hx
        simp only
        rw [List.getElem?_append_right (Nat.le_refl _), Nat.sub_self, e2]
        rfl
    · rcases List.mem_append.1 hx with hx | hx
      · exact h.own x hx
      · obtain rfl := List.mem_singleton.1 hx
        exact ⟨e3, e1⟩
    · rw [List.pairwise_append]
      refine ⟨h.inc, List.pairwise_singleton _ _, fun x hx y hy => ?_⟩
      obtain rfl := List.mem_singleton.1 hy
      exact h.lt hx
theorem NtOk.recvTo {seed : UInt64} {S : StW} (h : NtOk seed S) (ht : Nat) (t : TxT) : ∀ i, NtOk seed (recvTo seed ht t S i)
  | 0 => h
  | i + 1 => by
    unfold Go.Proofs.YtcikjcjfcanloaaGreat.recvTo
    split
    · exact (NtOk.recvTo h ht t i).recv1 ht t i _
    · exact NtOk.recvTo h ht t i
theorem NtOk.fold {seed : UInt64} (ht : Nat) : ∀ (l : List TxT) {S : StW}, NtOk seed S → NtOk seed (l.foldl (txW seed ht) S)
  | [], _, h => h
  | t :: r, _, h => NtOk.fold ht r ((h.spend (kSpend seed) ht t.marks).recvTo ht t t.outs.length)
theorem stTo_nt (seed : UInt64) (l : List BlkT) : ∀ i, NtOk seed (stTo seed l i)
  | 0 => ⟨(fun x h => by cases h), (fun x h => by cases h), List.Pairwise.nil⟩
  | i + 1 => by
    unfold stTo
    split
    · have ih := stTo_nt seed l i
      exact NtOk.fold _ _ ⟨ih.at_, ih.own, ih.inc⟩
    · exact stTo_nt seed l i
theorem stW_nt (seed : UInt64) (l : List BlkT) : NtOk seed (stW seed l) := stTo_nt seed l _
theorem foreign_note {s1 s2 : UInt64} (h : ∀ i k, i < 4 → k < 4 → kOwner (kSpend s1) (i : Nat) ≠ kOwner (kSpend s2) (k : Nat)) {l : List BlkT} {x y : OwT} (hx : x ∈ (stW s1 l).notes) (hy : y ∈ (stW s2 l).notes) : x.note ≠ y.note := fun e => by
  have h1 := (stW_nt s1 l).own x hx
  have h2 := (stW_nt s2 l).own y hy
  exact h x.number y.number h1.1 h2.1 (by rw [← h1.2, ← h2.2, e])
theorem foreign_pos {s1 s2 : UInt64} {l : List BlkT} {x y : OwT} (hx : x ∈ (stW s1 l).notes) (hy : y ∈ (stW s2 l).notes) (e : x.pos = y.pos) : commitN x.note = commitN y.note := by
  have h1 := (stW_nt s1 l).at_ x hx
  have h2 := (stW_nt s2 l).at_ y hy
  rw [stW_leaves] at h1 h2
  rw [e, h2] at h1
  exact (Option.some.inj h1).symm
end Go.Proofs.YtcikjcjfcanloaaGreat
namespace Go.Proofs.YtcikjcjfcanloaaGreat
open Go.RowKit
def climbTo (leaf : UInt64) (p : Nat) (path : List UInt64) : Nat → UInt64
  | 0 => leaf
  | i + 1 => if p / 2 ^ i % 2 = 0 then nodeU (climbTo leaf p path i) (path[i]?.getD 0) else nodeU (path[i]?.getD 0) (climbTo leaf p path i)
theorem pathU_at {d : Nat} {l : List UInt64} {p i : Nat} (h : i < d) : (pathU d l p)[i]? = some (digU i (lvl i l) (sibU p i)) := by
  unfold pathU
  rw [List.getElem?_map, List.getElem?_range h]
  rfl
theorem pathU_length (d : Nat) (l : List UInt64) (p : Nat) : (pathU d l p).length = d := by simp [pathU]
theorem lvl_reach {l : List UInt64} {p : Nat} (h : p < l.length) (k : Nat) : p / 2 ^ k < (lvl k l).length := by
  rw [lvl_size, size_lt]
  exact Nat.lt_of_le_of_lt (Nat.div_mul_le_self p (2 ^ k)) h
theorem climb_lvl {d : Nat} {l : List UInt64} {p : Nat} {leaf : UInt64} (h : l[p]? = some leaf) : ∀ i, i ≤ d → climbTo leaf p (pathU d l p) i = digU i (lvl i l) (p / 2 ^ i)
  | 0, _ => by
    show leaf = (l[p / 2 ^ 0]?).getD _
    rw [Nat.pow_zero, Nat.div_one, h]
    rfl
  | i + 1, hi => by
    have ih := climb_lvl (d := d) h i (by omega)
    have hp := (List.getElem?_eq_some_iff.1 h).1
    have h1 := lvl_reach hp i
    have hv : (lvl (i + 1) l)[p / 2 ^ (i + 1)]? = some (valU i (lvl i l) (p / 2 ^ (i + 1))) := by
      have := lvl_reach hp (i + 1)
      rw [lvl_succ, upU_length] at this
      rw [lvl_succ]
      exact upU_at this
    have hd : p / 2 ^ (i + 1) = p / 2 ^ i / 2 := by rw [Nat.pow_succ, Nat.div_div_eq_div_mul]
    have e : digU (i + 1) (lvl (i + 1) l) (p / 2 ^ (i + 1)) = valU i (lvl i l) (p / 2 ^ i / 2) := by
      unfold digU
      rw [hv, hd]
      rfl
    rw [e]
    unfold climbTo
    rw [ih, pathU_at (by omega)]
    unfold valU sibU
    generalize p / 2 ^ i = q at *
    show (if q % 2 = 0 then _ else _) = _
    by_cases hq : q % 2 = 0
    · rw [if_pos hq, if_pos hq, show 2 * (q / 2) = q by omega]
      rfl
    · rw [if_neg hq, if_neg hq, show 2 * (q / 2) + 1 = q by omega, show 2 * (q / 2) = q - 1 by omega]
      rfl
theorem climb_root {d : Nat} {l : List UInt64} {p : Nat} {leaf : UInt64} (h : l[p]? = some leaf) (hd : l.length ≤ 2 ^ d) : climbTo leaf p (pathU d l p) d = rootU d l := by
  rw [climb_lvl h d (Nat.le_refl d), Nat.div_eq_of_lt (Nat.lt_of_lt_of_le (List.getElem?_eq_some_iff.1 h).1 hd)]
  rfl
end Go.Proofs.YtcikjcjfcanloaaGreat
namespace Go.Proofs.YtcikjcjfcanloaaGreat
open Go.RowKit
attribute [local irreducible] perm fAdd fMul fPow fSub fNeg fRed hashU
theorem bits_xor_i64_nat (a b : Nat) (ha : a < 4611686018427387904) (hb : b < 4611686018427387904) : bits .xor .i64 (a : Int) (b : Int) = ((a ^^^ b : Nat) : Int) := by
  have hx : a ^^^ b < 2 ^ 62 := Nat.xor_lt_two_pow (by omega) (by omega)
  have h1 : (BitVec.ofInt 64 (a : Int)).toNat = a := by
    rw [BitVec.ofInt_natCast, BitVec.toNat_ofNat]; exact Nat.mod_eq_of_lt (by omega)
  have h2 : (BitVec.ofInt 64 (b : Int)).toNat = b := by
    rw [BitVec.ofInt_natCast, BitVec.toNat_ofNat]; exact Nat.mod_eq_of_lt (by omega)
  show IntKind.i64.wrap ((BitVec.ofInt 64 (a : Int) ^^^ BitVec.ofInt 64 (b : Int)).toNat : Int) = _
  rw [BitVec.toNat_xor, h1, h2, IntKind.wrap_i64]
  omega
theorem xor_oneQ (q : Nat) : q ^^^ 1 = if q % 2 = 0 then q + 1 else q - 1 := by
  have h1 : (q ^^^ 1) / 2 = q / 2 := by rw [Nat.xor_div_two]; simp
  have h2 : (q ^^^ 1) % 2 = (q + 1) % 2 := by
    have h3 := Nat.xor_mod_two_pow (a := q) (b := 1) (n := 1)
    rw [Nat.pow_one] at h3
    rw [h3]
    rcases Nat.mod_two_eq_zero_or_one q with h | h
    · rw [h, show (q + 1) % 2 = 1 by omega]; rfl
    · rw [h, show (q + 1) % 2 = 0 by omega]; rfl
  split <;> omega
set_option maxRecDepth 100000 in
set_option maxHeartbeats 6400000 in
theorem treePath_any {w : World} {B d : Nat} {l : List UInt64} {F : Nat → Prop} (h : TreeAt w B d l F) (h1 : 1 ≤ d) (hd : d ≤ 12) (hn : l.length ≤ 100000) (p : Nat) (hp : p < l.length) :
    Calls Tryz.prog 77 #[.pointer (some ⟨B, 0, none⟩), .int .i64 (p : Int)] w fun e w' => ∃ v, e = .returned (.tuple #[v, .int .i64 0]) ∧ OwnU w' v (pathU d l p) ∧ Ext w w' ∧ ∀ k, blk v = some k → w.heap.size ≤ k := by
  have HC : Hid (∀ v, Ext w v → Calls Tryz.prog 88 #[.pointer (some ⟨B, 0, none⟩)] v fun e w' => e = .returned (.int .i64 (l.length : Int)) ∧ Ext v w') := hid fun v k => treeCount_any (h.ext k) h1
  obtain ⟨LV, vs, ls, hin, hls⟩ := h
  have HDG : Hid (∀ v (k j : Nat), Ext w v → k ≤ d → Calls Tryz.prog 109 #[.pointer (some ⟨B, 0, none⟩), .int .i64 (k : Int), .int .i64 (j : Int)] v fun e w' => e = .returned (uv (digU k (lvl k l) j)) ∧ Ext v w') := hid fun v k j e hk => logDigest_any (hin.ext e) hd hk (hls k hk) j
  obtain ⟨c0, c1⟩ := hin.cells
  have hd0 : 0 ≤ (d : Int) := Int.natCast_nonneg _
  have hdI : (d : Int) ≤ 12 := by omega
  have hp0 : 0 ≤ (p : Int) := Int.natCast_nonneg _
  have hpI : (p : Int) ≤ 100000 := by omega
  have hpB : decide ((p : Int) < 0) = false := by simp
  have hpC : decide ((l.length : Int) ≤ (p : Int)) = false := by simp; omega
  have hpC2 : decide (l.length ≤ p) = false := by simp; omega
  obtain ⟨i0, hi, hz0, hz1, hz2⟩ := info_parts Tryz.infoU
  have B1 : Hid (i0.bytes * d ≤ 281474976710656) := hid (by rw [hz2]; omega)
  have B2 : Hid (d ≤ maxLen) := hid (by unfold maxLen; omega)
  have HD := hid hd
  clear hin hls
  obtain ⟨R, hR⟩ : ∃ R, R = pathU d l p := ⟨_, rfl⟩
  have HRL : Hid (R.length = d) := hid (by rw [hR]; exact pathU_length d l p)
  have HRA : Hid (∀ k, k < d → R[k]? = some (digU k (lvl k l) (sibU p k))) := hid fun k hk => by rw [hR]; exact pathU_at hk
  rw [← hR]
  clear hR hd
  have HCC : Hid (w.cell? ⟨B, 0, none⟩ = some (.int .i64 (d : Int))) := hid c0
  go_enter Tryz.func77, Tryz.ntmps77
  go_wp2_with fail
  refine (HC.out _ (Ext.refl w)).mono ?_
  rintro e w1 ⟨rfl, hx⟩
  have X1 := hid hx
  clear c0 c1
  have c0 := hx.cell_some HCC.out
  clear hx HC
  go_wp2_with (at_make; refine wpList_make_full _ rfl _ _ 57 rfl 0 22 i0 (.int .u64 0) 1 (by kernel_rfl) hi hz0 hz1 _ _ _ _ d rfl rfl rfl rfl B1.out B2.out (Nat.zero_le _) ?_)
  intro w2 hown0 hg
  have hx2 : Ext w1 w2 := (grown_kp hg).toExt (by intro k h; cases h)
  have hp0 : UPart w2 w1.heap.size d 0 R := by
    rcases hown0.2 with ⟨h, _⟩ | ⟨g, cap, cur, h, _, h2, _, _, h3, _⟩
    · cases h
    · injection h with h h4 h5
      injection h with h
      injection h with h
      subst h
      exact ⟨cur, h2, by rw [h3, ← h5, Nat.mul_one], by simp⟩
  obtain ⟨P, hP⟩ : ∃ P, P = w1.heap.size := ⟨_, rfl⟩
  have HP : Hid (w.heap.size ≤ P) := hid (by rw [hP]; exact X1.out.size)
  rw [← hP] at hp0 ⊢
  have X2 := hid (X1.out.trans hx2)
  have U0 := hid hp0
  clear hown0 hg hp0 hx2 hi hz0 hz1 hz2 B1 c0 hP
  go_wp2_with fail
  go_loopw [23] (fun iv wr => ∃ i : Nat, i ≤ d ∧ iv = .int .i64 i ∧ Hid (UPart wr P d i R ∧ Ext w wr)) (fun iv _ => d - (intOf iv).toNat)
  case atStart => exact ⟨0, by omega, rfl, hid ⟨U0.out, X2.out⟩⟩
  case round =>
    obtain ⟨i, hin, rfl, HI⟩ := hrel
    have hi0 : (0 : Int) ≤ (i : Int) := Int.natCast_nonneg _
    by_cases hlt : i < d
    · have hltB : decide ((i : Int) < (d : Int)) = true := by simp; omega
      have hil : (i : Int) < (d : Int) := by omega
      have hq : (p : Int) / 2 ^ i = ((p / 2 ^ i : Nat) : Int) := by push_cast; rfl
      have hq2 : (p : Int) / 2 ^ (min i 64) = ((p / 2 ^ i : Nat) : Int) := by rw [Nat.min_eq_left (by omega)]; exact hq
      have hqx : bits .xor .i64 ((p / 2 ^ i : Nat) : Int) 1 = ((sibU p i : Nat) : Int) := by
        have h3 : p / 2 ^ i ≤ p := Nat.div_le_self _ _
        have := bits_xor_i64_nat (p / 2 ^ i) 1 (by omega) (by omega)
        rw [xor_oneQ] at this
        exact this
      have HA := hid (HRA.out i hlt)
      have CD := hid (HDG.out wr i (sibU p i) HI.out.2 (by omega))
      obtain ⟨y, hy⟩ : ∃ y, y = digU i (lvl i l) (sibU p i) := ⟨_, rfl⟩
      rw [← hy] at HA CD
      clear hy
      obtain ⟨q, hqe⟩ : ∃ q, q = p / 2 ^ i := ⟨_, rfl⟩
      rw [← hqe] at hq hq2 hqx
      clear hqe
      obtain ⟨s, hs⟩ : ∃ s, s = sibU p i := ⟨_, rfl⟩
      rw [← hs] at hqx CD
      clear hs
      go_wp2_with fail
      refine (CD.out).mono ?_
      rintro e w3 ⟨rfl, hx⟩
      have HX3 := hid hx
      have hu3 : UPart w3 P d i R := HI.out.1.kp (F := fun _ => False) (.of_ext hx) fun h => h
      obtain ⟨cur, hcur, hcs⟩ : ∃ cur : Array Value, w3.heap[P]? = some (.cells cur 22 (0, 0)) ∧ cur.size = d := by
        obtain ⟨cur, g1, g2, -⟩ := hu3; exact ⟨cur, g1, g2⟩
      obtain ⟨u0, d0⟩ : ∃ u, w3.cell? ⟨P, i, none⟩ = some u := ⟨_, (cell_of hcur i).trans (Array.getElem?_eq_getElem (by omega))⟩
      have hf2 := frozen_of hcur
      have U3 := hid hu3
      clear hx hu3 hcur hcs CD hq hq2 hqx
      go_wp2_with fail
      go_roundw
      case rel => exact ⟨i + 1, by omega, by go_num, hid ⟨U3.out.more HA.out hlt, (HI.out.2.trans HX3.out).setCell (p := ⟨P, i, none⟩) HP.out _⟩⟩
      case measure => simp [intOf]; omega
    · have hltB : decide ((i : Int) < (d : Int)) = false := by simp; omega
      obtain rfl : i = d := by omega
      go_wp2_with fail
      go_ret2
      exact ⟨_, rfl, HI.out.1.own HRL.out B2.out, HI.out.2, fun k hk => by injection hk with hk; subst hk; exact HP.out⟩
end Go.Proofs.YtcikjcjfcanloaaGreat
namespace Go.Proofs.YtcikjcjfcanloaaGreat
open Go.RowKit
attribute [local irreducible] perm fAdd fMul fPow fSub fNeg fRed hashU
theorem rCommitN_any (n : Nt) (w : World) : Calls Tryz.prog 24 #[nv n] w fun e w' => e = .returned (uv (commitN n)) ∧ Ext w w' :=
  rCommit4_any n.value n.owner n.rho n.blind w
end Go.Proofs.YtcikjcjfcanloaaGreat
