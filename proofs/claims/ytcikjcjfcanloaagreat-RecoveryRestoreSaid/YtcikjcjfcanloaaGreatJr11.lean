/- Texts of this claim, joined: Peek2, Wal4, HashLt, Wal5, Wal6, Allocs. -/
import Derived.Test.YtcikjcjfcanloaaGreatJr1
import Derived.Test.YtcikjcjfcanloaaGreatJr4
import Derived.Test.YtcikjcjfcanloaaGreatJr6
import Derived.Test.YtcikjcjfcanloaaGreatJr10
set_option linter.unusedSimpArgs false
namespace Go.Proofs.YtcikjcjfcanloaaGreat
open Go.RowKit
attribute [local irreducible] perm fAdd fMul fPow fSub fNeg fRed
def Orc.commitment (M : Orc) (n : Nt) : UInt64 × Bool := if n.ok then M.peek 2 n.list else (0, false)
def Orc.marked (M : Orc) (k r : UInt64) : UInt64 × Bool := if allE [k, r] then M.peek 3 [k, r] else (0, false)
def TwoO (w : World) (x : UInt64 × Bool) (e : Ending) (w' : World) : Prop := e = .returned (.tuple #[uv x.1, .bool x.2]) ∧ Ext w w'
set_option maxRecDepth 100000 in
set_option maxHeartbeats 1600000 in
theorem Marked_any {w : World} {b : Nat} {M : Orc} {F : Nat → Prop} {k r : UInt64} (h : OrcAt w b M F) (hq : M.qs.length ≤ 1000000000) :
    Calls Tryz.prog 116 #[.pointer (some ⟨b, 0, none⟩), uv k, uv r] w (TwoO w (M.marked k r)) := by
  have HH := hid h
  have HQ := hid hq
  have hall : allE [k, r] = (decide (k < big) && decide (r < big)) := by simp [allE]
  have HALL := hid hall
  clear h hq hall
  cases hk : decide (k < big) with
  | false =>
    have d1 : decide ((18446744069414584321 : Int) ≤ (k.toNat : Int)) = true := by rw [ge_big_dec, hk]; rfl
    have hm : M.marked k r = (0, false) := by unfold Orc.marked; rw [HALL.out, hk]; rfl
    have HM := hid hm
    clear hk hm
    go_enter Tryz.func116, Tryz.ntmps116
    go_wp2_with fail
    unfold TwoO
    rw [HM.out]
    exact bodyPost_ret (v := .tuple #[.int .u64 0, .bool false]) (by simp [results, Tryz.results116, go_sem]) rfl ⟨rfl, Ext.refl _⟩
  | true =>
    have d1 : decide ((18446744069414584321 : Int) ≤ (k.toNat : Int)) = false := by rw [ge_big_dec, hk]; rfl
    cases hr : decide (r < big) with
    | false =>
      have d2 : decide ((18446744069414584321 : Int) ≤ (r.toNat : Int)) = true := by rw [ge_big_dec, hr]; rfl
      have hm : M.marked k r = (0, false) := by unfold Orc.marked; rw [HALL.out, hk, hr]; rfl
      have HM := hid hm
      clear hk hr hm
      go_enter Tryz.func116, Tryz.ntmps116
      go_wp2_with fail
      unfold TwoO
      rw [HM.out]
      exact bodyPost_ret (v := .tuple #[.int .u64 0, .bool false]) (by simp [results, Tryz.results116, go_sem]) rfl ⟨rfl, Ext.refl _⟩
    | true =>
      have d2 : decide ((18446744069414584321 : Int) ≤ (r.toNat : Int)) = false := by rw [ge_big_dec, hr]; rfl
      have hm : M.marked k r = M.peek 3 [k, r] := by unfold Orc.marked; rw [HALL.out, hk, hr]; rfl
      have HM := hid hm
      clear hk hr hm
      go_enter Tryz.func116, Tryz.ntmps116
      go_wp2_with fail
      have hx := (Ext.refl w).alloc (.cells #[uv k, uv r] 22)
      have hr1 := RdC.block (heap_new w (.cells #[uv k, uv r] 22)) (n := 2) (by unfold maxLen; omega)
      have HX := hid hx
      refine (Peek_any (label := 3) (HH.out.ext hx) (hr1.rdu rfl : RdU _ _ [k, r]) (by simp) HQ.out).mono ?_
      rintro e w3 ⟨rfl, hx3⟩
      have HX3 := hid (HX.out.trans hx3)
      clear hx3 hr1 hx
      go_wp2_with fail
      unfold TwoO
      rw [HM.out]
      exact bodyPost_ret (v := .tuple #[uv (M.peek 3 [k, r]).1, .bool (M.peek 3 [k, r]).2]) (by simp [results, Tryz.results116, go_sem]) rfl ⟨rfl, HX3.out⟩
end Go.Proofs.YtcikjcjfcanloaaGreat
namespace Go.Proofs.YtcikjcjfcanloaaGreat
open Go.RowKit
attribute [local irreducible] perm fAdd fMul fPow fSub fNeg fRed hashU
theorem own_setRow {w : World} {e : TypeId} {size n g c : Nat} {xs : List Value} (h : w.ownsRow 0 e size (.slice (some ⟨g, 0, none⟩) n c) n xs) (i : Nat) (x : Value) : (w.setCell ⟨g, i, none⟩ x).ownsRow 0 e size (.slice (some ⟨g, 0, none⟩) n c) n (xs.set i x) := by
  refine ⟨by rw [List.length_set]; exact h.1, .inr ?_⟩
  rcases h.2 with ⟨h1, -⟩ | ⟨g', cap, cur, h1, h2, h3, h4, h5, h6, h7⟩
  · cases h1
  · injection h1 with e1 e2 e3
    injection e1 with e1
    injection e1 with e1
    subst e1 e3
    refine ⟨g, c, cur.setIfInBounds i x, rfl, h2, heap_setCell_same h3 i _, h4, h5, by rw [Array.size_setIfInBounds]; exact h6, ?_⟩
    rw [Array.toList_setIfInBounds, List.take_set, h7]
theorem flat_set {α : Type} {f : α → List Value} {k : Nat} (hf : ∀ x, (f x).length = k) : ∀ (X : List α) (i : Nat) (x y : α) (j : Nat) (v : Value), X[i]? = some x → j < k → (f x).set j v = f y → (X.flatMap f).set (i * k + j) v = (X.set i y).flatMap f
  | [], i, x, y, j, v, h, _, _ => by simp at h
  | z :: r, 0, x, y, j, v, h, hj, he => by
    simp only [List.getElem?_cons_zero, Option.some.injEq] at h
    subst h
    rw [Nat.zero_mul, Nat.zero_add, List.flatMap_cons, List.set_append_left _ _ (by rw [hf]; exact hj), he, List.set_cons_zero, List.flatMap_cons]
  | z :: r, i + 1, x, y, j, v, h, hj, he => by
    have h2 : r[i]? = some x := by simpa using h
    rw [List.flatMap_cons, List.set_append_right _ _ (by rw [hf, Nat.succ_mul]; omega), hf, List.set_cons_succ, List.flatMap_cons]
    rw [show (i + 1) * k + j - k = i * k + j by rw [Nat.succ_mul]; omega, flat_set hf r i x y j v h2 hj he]
/-- What a block being scanned has in memory beside the wallet. -/
structure BoxS (w : World) (SB s0 n0 : Nat) (sv : Value) (sp : List Nat) : Prop where
  box : w.heap[SB]? = some (.cells #[.int .i64 (s0 : Int), .int .i64 (n0 : Int), sv] 128 (0, 0))
  own : OwnI w sv sp
  ne : blk sv ≠ some SB
/-- All that may turn while a block is scanned. -/
def AF (W : Nat) (FT : Nat → Prop) (nv pv : Value) (SB : Nat) (sv : Value) (i : Nat) : Prop := WF W FT nv pv i ∨ i = SB ∨ blk sv = some i
structure ApS (w : World) (W d : Nat) (r : Rl) (seed : UInt64) (S : StW) (ps : List (ScT × Value)) (ob LB : Nat) (nv pv : Value) (FO FT : Nat → Prop) (SB s0 n0 : Nat) (sv : Value) : Prop where
  wal : WalIn w W d r seed S.leaves S.notes ps ob LB nv pv FO FT (AF W FT nv pv SB sv)
  box : BoxS w SB s0 n0 sv S.sp
  sb : ¬ WF W FT nv pv SB
  sw : ∀ i, blk sv = some i → ¬ WF W FT nv pv i
theorem ApS.ext {w w' : World} {W d : Nat} {r : Rl} {seed : UInt64} {S : StW} {ps : List (ScT × Value)} {ob LB : Nat} {nv pv : Value} {FO FT : Nat → Prop} {SB s0 n0 : Nat} {sv : Value} (h : ApS w W d r seed S ps ob LB nv pv FO FT SB s0 n0 sv) (k : Ext w w') : ApS w' W d r seed S ps ob LB nv pv FO FT SB s0 n0 sv :=
  { h with wal := h.wal.ext k, box := ⟨k.heap_some h.box.box, ownsRow_ext h.box.own k, h.box.ne⟩ }
/-- Note i is spent now. -/
theorem ApS.hit {w : World} {W d : Nat} {r : Rl} {seed : UInt64} {S : StW} {ps : List (ScT × Value)} {ob LB g n c : Nat} {pv : Value} {FO FT : Nat → Prop} {SB s0 n0 : Nat} {sv : Value} (h : ApS w W d r seed S ps ob LB (.slice (some ⟨g, 0, none⟩) n c) pv FO FT SB s0 n0 sv) {i : Nat} {x : OwT} (hx : S.notes[i]? = some x) (ht : Nat) :
    ApS (w.setCell ⟨g, i * 8 + 7, none⟩ (.int .i64 (ht : Int))) W d r seed ⟨S.leaves, S.notes.set i { x with spent := ht }, S.sp⟩ ps ob LB (.slice (some ⟨g, 0, none⟩) n c) pv FO FT SB s0 n0 sv := by
  have hg : blk (.slice (some ⟨g, 0, none⟩) n c) = some g := rfl
  have hw : WF W FT (.slice (some ⟨g, 0, none⟩) n c) pv g := .inr (.inr (.inl rfl))
  have hk : Kp (fun j => j = g) w (w.setCell ⟨g, i * 8 + 7, none⟩ (.int .i64 (ht : Int))) := (Kp.refl (fun j => j = g) _).setCell (p := ⟨g, i * 8 + 7, none⟩) (.inl rfl) _
  have hkA : Kp (AF W FT (.slice (some ⟨g, 0, none⟩) n c) pv SB sv) w (w.setCell ⟨g, i * 8 + 7, none⟩ (.int .i64 (ht : Int))) := hk.mono fun j _ e => by subst e; exact .inl hw
  have hnl : n = S.notes.length := by
    obtain ⟨a, c', e, -⟩ := ownsRow_rd h.wal.notes
    injection e
  have hno := h.wal.notes
  rw [← hnl] at hno
  refine { h with wal := { h.wal with self := ?_, orc := h.wal.orc.to hkA fun _ e => .inl e, tree := ?_, notes := ?_, past := ?_, sps := fun x hx => (h.wal.sps x hx).to hkA fun _ e => .inl e, tl := fun j hj => Nat.lt_of_lt_of_le (h.wal.tl j hj) hk.size }, box := ⟨?_, ?_, h.box.ne⟩ }
  · exact hk.heap_some (fun e => h.wal.wn (by rw [e]; exact hg)) h.wal.self
  · obtain ⟨LV, vs, ls, h1, h2⟩ := h.wal.tree
    exact ⟨LV, vs, ls, h1.of hk fun j hj e => h.wal.tn g rfl (e ▸ hj), h2⟩
  · show World.ownsRow _ 0 _ 8 _ (S.notes.set i _).length _
    rw [List.length_set, ← hnl]
    have := own_setRow hno (i * 8 + 7) (.int .i64 (ht : Int))
    rwa [flat_set owCells_len S.notes i x { x with spent := ht } 7 _ hx (by omega) rfl] at this
  · exact ownsRow_kp h.wal.past hk fun b hb e => h.wal.np g rfl (by rw [← e]; exact hb)
  · exact hk.heap_some (fun e => h.sb (e ▸ hw)) h.box.box
  · exact ownsRow_kp h.box.own hk fun b hb e => h.sw b hb (e ▸ hw)
/-- The place of a note that the block has spent is noted. -/
theorem ApS.mark {w w6 w7 : World} {W d : Nat} {r : Rl} {seed : UInt64} {S : StW} {ps : List (ScT × Value)} {ob LB : Nat} {nv pv : Value} {FO FT : Nat → Prop} {SB s0 n0 : Nat} {sv sv' : Value} (h : ApS w W d r seed S ps ob LB nv pv FO FT SB s0 n0 sv) (i : Nat)
    (k6 : Ext w w6) (k7 : Kp (fun k => some k = blk sv) w6 w7) (hb : blk sv' = blk sv ∨ blk sv' = some w6.heap.size) (own : OwnI w7 sv' (S.sp ++ [i])) :
    ApS (w7.setCell ⟨SB, 2, none⟩ sv') W d r seed ⟨S.leaves, S.notes, S.sp ++ [i]⟩ ps ob LB nv pv FO FT SB s0 n0 sv' ∧ Kp (AF W FT nv pv SB sv) w (w7.setCell ⟨SB, 2, none⟩ sv') := by
  have hsz := k6.size
  have hsz7 := k7.size
  have k67 : Kp (fun k => blk sv = some k) w w7 := (Kp.of_ext k6).trans (k7.mono fun _ _ e => e.symm)
  have hk2 : Kp (fun j => j = SB) w7 (w7.setCell ⟨SB, 2, none⟩ sv') := (Kp.refl (fun j => j = SB) _).setCell (p := ⟨SB, 2, none⟩) (.inl rfl) _
  have hk : Kp (fun j => blk sv = some j ∨ j = SB) w (w7.setCell ⟨SB, 2, none⟩ sv') := (k67.mono fun _ _ e => .inl e).trans (hk2.mono fun _ _ e => .inr e)
  have hkA : Kp (AF W FT nv pv SB sv) w (w7.setCell ⟨SB, 2, none⟩ sv') := hk.mono fun j _ e => by
    rcases e with e | e
    · exact .inr (.inr e)
    · exact .inr (.inl e)
  have hSB := heap_lt h.box.box
  have hNW : ∀ j, WF W FT nv pv j → ¬ (blk sv = some j ∨ j = SB) := fun j hj e => by
    rcases e with e | e
    · exact h.sw j e hj
    · exact h.sb (e ▸ hj)
  have hb' : ∀ j, blk sv' = some j → blk sv = some j ∨ w.heap.size ≤ j := fun j hj => by
    rcases hb with e | e
    · exact .inl (e ▸ hj)
    · rw [e] at hj; exact .inr (by have := Option.some.inj hj; omega)
  have hto : ∀ j, AF W FT nv pv SB sv' j → AF W FT nv pv SB sv j ∨ w.heap.size ≤ j := fun j hj => by
    rcases hj with e | e | e
    · exact .inl (.inl e)
    · exact .inl (.inr (.inl e))
    · rcases hb' j e with e | e
      · exact .inl (.inr (.inr e))
      · exact .inr e
  have hlt : ∀ j, WF W FT nv pv j → j < w.heap.size := fun j hj => by
    rcases hj with e | e | e | e
    · subst e; exact heap_lt h.wal.self
    · exact h.wal.tl j e
    · exact ownsRow_lt h.wal.notes e
    · exact ownsRow_lt h.wal.past e
  have hsb' : blk sv' ≠ some SB := fun e => by
    rcases hb' SB e with e | e
    · exact h.box.ne e
    · omega
  refine ⟨{ wal := { h.wal with self := ?_, sub := fun j e => .inl e, orc := h.wal.orc.to hkA hto, tree := ?_, notes := ?_, past := ?_, sps := fun x hx => (h.wal.sps x hx).to hkA hto, tl := fun j hj => Nat.lt_of_lt_of_le (h.wal.tl j hj) hk.size }, box := ⟨?_, ?_, hsb'⟩, sb := h.sb, sw := fun j hj e => ?_ }, hkA⟩
  · exact hk.heap_some (hNW W (.inl rfl)) h.wal.self
  · obtain ⟨LV, vs, ls, h1, h2⟩ := h.wal.tree
    exact ⟨LV, vs, ls, h1.of hk fun j hj => hNW j (.inr (.inl hj)), h2⟩
  · exact ownsRow_kp h.wal.notes hk fun b hb => hNW b (.inr (.inr (.inl hb)))
  · exact ownsRow_kp h.wal.past hk fun b hb => hNW b (.inr (.inr (.inr hb)))
  · have := heap_setCell_same (k67.heap_some (fun e => h.box.ne e) h.box.box) 2 sv'
    exact this
  · exact ownsRow_kp own hk2 fun b hb e => hsb' (e ▸ hb)
  · rcases hb' j hj with e2 | e2
    · exact h.sw j e2 e
    · have := hlt j e; omega
end Go.Proofs.YtcikjcjfcanloaaGreat
namespace Go.Proofs.YtcikjcjfcanloaaGreat
open Go.RowKit
theorem perm_ltW (s : S3) : (perm s).a < big := by
  have e : ∃ x y, (perm s).a = fAdd x y := by
    unfold perm pRounds pRound pMix
    exact ⟨_, _, rfl⟩
  obtain ⟨x, y, e⟩ := e
  rw [e, lt_big_iff]
  unfold fAdd
  exact fAdd0_lt rfl _ _
theorem absorbAll_ltW : ∀ (l : List UInt64) (s : S3), s.a < big → (absorbAll s l).a < big
  | [], s, h => by rw [absorb_nil]; exact h
  | [x], s, _ => by rw [absorb_one]; exact perm_ltW _
  | x :: y :: r, s, _ => by rw [absorb_two]; exact absorbAll_ltW r _ (perm_ltW _)
theorem hashU_ltW (a : UInt64) (l : List UInt64) : hashU a l < big := by
  unfold hashU sponge
  split
  · exact perm_ltW _
  · exact absorbAll_ltW l _ (show (0 : UInt64) < big by decide)
end Go.Proofs.YtcikjcjfcanloaaGreat
namespace Go.Proofs.YtcikjcjfcanloaaGreat
open Go.RowKit
attribute [local irreducible] perm fAdd fMul fPow fSub fNeg fRed hashU
theorem Tryz.infoI : (Tryz.prog.info? 3).map (fun i => (i.zero, i.size, i.bytes)) = some (some (.int .i64 0), 1, 8) := by kernel_rfl
theorem Kp.chain {F F' : Nat → Prop} {a b c : World} (k : Kp F a b) (hF : ∀ i, F' i → F i ∨ a.heap.size ≤ i) (k2 : Kp F' b c) : Kp F a c := by
  refine ⟨k2.os.trans k.os, k2.tape.trans k.tape, k2.output.trans k.output, Nat.le_trans k.size k2.size, fun j hj hn => ?_⟩
  have := k.size
  rw [k2.block j (by omega) (fun e => by
    rcases hF j e with e | e
    · exact hn e
    · omega)]
  exact k.block j hj hn
theorem own_box {w : World} {e : TypeId} {size n m g c : Nat} {xs : List Value} (h : w.ownsRow 0 e size (.slice (some ⟨g, 0, none⟩) m c) n xs) : ∃ cur, w.heap[g]? = some (.cells cur e (0, 0)) := by
  rcases h.2 with ⟨h1, -⟩ | ⟨g', cap, cur, h1, h2, h3, -⟩
  · cases h1
  · injection h1 with e1
    injection e1 with e1
    injection e1 with e1
    subst e1
    exact ⟨cur, h3⟩
theorem own_shape {w : World} {e : TypeId} {size n m c : Nat} {a : Option Addr} {xs : List Value} (h : w.ownsRow 0 e size (.slice a m c) n xs) (hn : 0 < n) : ∃ g, a = some ⟨g, 0, none⟩ := by
  rcases h.2 with ⟨-, h2⟩ | ⟨g, cap, cur, h1, -⟩
  · omega
  · injection h1 with e1
    exact ⟨g, e1⟩
theorem marked_real {k r : UInt64} (hk : k < big) (hr : r < big) : realM.marked k r = (markW k r, true) := by
  have : allE [k, r] = true := by simp [allE, hk, hr]
  unfold Orc.marked Orc.peek
  rw [if_pos this, if_pos this]
  rfl
theorem set_selfW {α : Type} {l : List α} {i : Nat} {x : α} (h : l[i]? = some x) : l.set i x = l := by
  apply List.ext_getElem?
  intro j
  by_cases hj : i = j
  · subst hj
    rw [List.getElem?_set_self (List.getElem?_eq_some_iff.1 h).1, h]
  · rw [List.getElem?_set_ne hj]
theorem spendTo_miss {key : UInt64} {h : Nat} {marks : List UInt64} {S : StW} {i : Nat} {n : OwT} (hn : S.notes[i]? = some n) (hh : hitW key marks n = false) : spendTo key h marks S (i + 1) = spendTo key h marks S i := by
  rw [spendTo_succ hn, hh]
  have h1 : outW key h marks n = n := by unfold outW; rw [hh]; rfl
  have h2 : (spendTo key h marks S i).notes[i]? = some n := by rw [spendTo_at (Nat.le_refl i)]; exact hn
  rw [h1, set_selfW h2]
  simp [spendTo]
theorem spendTo_hit {key : UInt64} {h : Nat} {marks : List UInt64} {S : StW} {i : Nat} {n : OwT} (hn : S.notes[i]? = some n) (hh : hitW key marks n = true) : spendTo key h marks S (i + 1) = ⟨S.leaves, (spendTo key h marks S i).notes.set i { n with spent := h }, (spendTo key h marks S i).sp ++ [i]⟩ := by
  rw [spendTo_succ hn, hh]
  unfold outW
  rw [hh]
  rfl
theorem spendW_nil (key : UInt64) (h : Nat) (S : StW) : spendW key h [] S = S := by
  have hf : ∀ n, hitW key [] n = false := fun n => by simp [hitW]
  have : ∀ i, i ≤ S.notes.length → spendTo key h [] S i = S := by
    intro i
    induction i with
    | zero => intro _; simp [spendTo]
    | succ i ih =>
      intro hi
      rw [spendTo_miss (List.getElem?_eq_getElem (by omega)) (hf _)]
      exact ih (by omega)
  exact this _ (Nat.le_refl _)
/-- A block being scanned has come to S'. -/
def SpTo (w : World) (W d : Nat) (r : Rl) (seed : UInt64) (S' : StW) (ps : List (ScT × Value)) (ob LB : Nat) (nv pv : Value) (FO FT : Nat → Prop) (SB s0 n0 : Nat) (sv : Value) (w' : World) : Prop :=
  ∃ sv', ApS w' W d r seed S' ps ob LB nv pv FO FT SB s0 n0 sv' ∧ Kp (AF W FT nv pv SB sv) w w' ∧ ∀ j, AF W FT nv pv SB sv' j → AF W FT nv pv SB sv j ∨ w.heap.size ≤ j
set_option maxRecDepth 100000 in
set_option maxHeartbeats 25600000 in
theorem walSpend_any {w : World} {W d : Nat} {r : Rl} {seed : UInt64} {S : StW} {ps : List (ScT × Value)} {ob LB : Nat} {nv pv : Value} {FO FT : Nat → Prop} {SB s0 n0 : Nat} {sv : Value} (h : ApS w W d r seed S ps ob LB nv pv FO FT SB s0 n0 sv)
    (hn : S.notes.length ≤ 10000) (hr : ∀ x ∈ S.notes, x.note.rho < big) (hsp : S.sp.length ≤ 10000000) (t : TxT) (mv ov pfv : Value) (hm : StaW (AF W FT nv pv SB sv) w fun u => RdU' u mv t.marks) (hov : ∃ oa oc pa pc, ov = .slice oa t.outs.length oc ∧ pfv = .slice pa t.proof.length pc) (hml : t.marks.length ≤ 1000) (ht : Nat) :
    Calls Tryz.prog 89 #[.pointer (some ⟨W, 0, none⟩), txVal t mv ov pfv, .int .i64 (ht : Int), .pointer (some ⟨SB, 0, none⟩)] w fun e w' => e = .returned (.tuple #[]) ∧ SpTo w W d r seed (spendW (kSpend seed) ht t.marks S) ps ob LB nv pv FO FT SB s0 n0 sv w' := by
  obtain ⟨ma, mc, rfl, -⟩ := hm.now.shape
  obtain ⟨oa, oc, pa', pc', rfl, rfl⟩ := hov
  obtain ⟨na, nc, rfl, -⟩ := ownsRow_rd h.wal.notes
  obtain ⟨N, hN⟩ : ∃ N, N = w.heap.size := ⟨_, rfl⟩
  obtain ⟨w0, hw0⟩ : ∃ w0, w0 = w.alloc (.cells #[uv t.anchor, .slice ma t.marks.length mc, .slice oa t.outs.length oc, uv t.deposit, uv t.withdraw, uv t.fee, uv t.account, uv t.nonce, .int .i64 t.expiry, .slice pa' t.proof.length pc'] 101) := ⟨_, rfl⟩
  have hx0 : Ext w w0 := by rw [hw0]; exact (Ext.refl w).alloc _
  have hb0 : w0.heap[N]? = some (.cells #[uv t.anchor, .slice ma t.marks.length mc, .slice oa t.outs.length oc, uv t.deposit, uv t.withdraw, uv t.fee, uv t.account, uv t.nonce, .int .i64 t.expiry, .slice pa' t.proof.length pc'] 101 (0, 0)) := by rw [hw0, hN]; exact heap_new _ _
  have HM := hid hm
  have H0 := hid (h.ext hx0)
  have HX0 := hid hx0
  have HB0 := hid hb0
  have HW := hid hw0
  have HR := hid hr
  have HNN := hid hn
  have hnI : (S.notes.length : Int) ≤ 10000 := by omega
  have hmI : (t.marks.length : Int) ≤ 1000 := by omega
  have HML := hid hml
  have HSPL := hid hsp
  have HSV0 : Hid (∀ j, blk sv = some j → j < w.heap.size) := hid fun j hj => ownsRow_lt h.box.own hj
  have HLT : Hid (SB < w.heap.size ∧ ∀ j, WF W FT (.slice na S.notes.length nc) pv j → j < w.heap.size) := hid ⟨heap_lt h.box.box, fun j hj => by
    rcases hj with e | e | e | e
    · subst e; exact heap_lt h.wal.self
    · exact h.wal.tl j e
    · exact ownsRow_lt h.wal.notes e
    · exact ownsRow_lt h.wal.past e⟩
  obtain ⟨key, hkey⟩ : ∃ key, key = kSpend seed := ⟨_, rfl⟩
  have HK := hid hkey
  have HKL : Hid (key < big) := hid (by rw [hkey]; exact hashU_ltW _ _)
  rw [← hkey]
  clear hkey hm hr hn hml h hw0 hx0 hb0 hsp
  go_enter Tryz.func89, Tryz.ntmps89
  go_upto_region 1 with fail
  rw [← HW.out, ← hN]
  have HNW := hid hN
  have HSV : Hid (∀ j, blk sv = some j → j < N) := hid fun j hj => by rw [hN]; exact HSV0.out j hj
  clear hN HW
  have b1 := cell_of HB0.out 1
  by_cases hmz : t.marks.length = 0
  · have hres : spendW key ht t.marks S = S := by rw [List.eq_nil_of_length_eq_zero hmz]; exact spendW_nil key ht S
    have hmzI : (t.marks.length : Int) = 0 := by omega
    go_wp2_with fail
    exact bodyPost_ret (v := .tuple #[]) (by simp [results, Tryz.results89, go_sem]) rfl ⟨rfl, by rw [hres]; exact ⟨sv, H0.out, .of_ext HX0.out, fun j hj => .inl hj⟩⟩
  have hmzB : decide ((t.marks.length : Int) = 0) = false := decide_eq_false (by omega)
  have hmzB2 : ((t.marks.length : Int) == 0) = false := by rw [beq_eq_false_iff_ne]; omega
  obtain ⟨e0, e1, e2, e3, e4, e5, e6⟩ := H0.out.wal.cells
  change w0.cell? ⟨W, 13, none⟩ = some (.slice na S.notes.length nc) at e5
  go_wp2_with fail
  clear e0 e1 e2 e3 e4 e5 e6 b1
  go_loopw [21] (fun iv wr => ∃ (i : Nat) (sv' : Value), i ≤ S.notes.length ∧ iv = .int .i64 i ∧ Hid (ApS wr W d r seed (spendTo key ht t.marks S i) ps ob LB (.slice na S.notes.length nc) pv FO FT SB s0 n0 sv' ∧ Kp (AF W FT (.slice na S.notes.length nc) pv SB sv) w wr ∧ (∀ j, AF W FT (.slice na S.notes.length nc) pv SB sv' j → AF W FT (.slice na S.notes.length nc) pv SB sv j ∨ w.heap.size ≤ j) ∧ wr.heap[N]? = w0.heap[N]? ∧ ∀ j, blk sv' = some j → j ≠ N)) (fun iv _ => S.notes.length - (intOf iv).toNat)
  case atStart => exact ⟨0, sv, by omega, rfl, hid ⟨by rw [show spendTo key ht t.marks S 0 = S by simp [spendTo]]; exact H0.out, .of_ext HX0.out, fun j hj => .inl hj, rfl, fun j hj => by have := ownsRow_lt H0.out.box.own hj; have := HSV.out j hj; omega⟩⟩
  case round =>
    obtain ⟨i, sv', hi, rfl, HI⟩ := hrel
    have hi0 : (0 : Int) ≤ (i : Int) := Int.natCast_nonneg _
    by_cases hlt : i < S.notes.length
    · have hltB : decide ((i : Int) < (S.notes.length : Int)) = true := by simp; omega
      have hil : (i : Int) < (S.notes.length : Int) := by omega
      obtain ⟨x, hxi⟩ : ∃ x, S.notes[i]? = some x := ⟨_, List.getElem?_eq_getElem hlt⟩
      have hxi2 : (spendTo key ht t.marks S i).notes[i]? = some x := by rw [spendTo_at (Nat.le_refl i)]; exact hxi
      have hnl : (spendTo key ht t.marks S i).notes.length = S.notes.length := spendTo_length
      obtain ⟨g, rfl⟩ : ∃ g, na = some ⟨g, 0, none⟩ := own_shape HI.out.1.wal.notes (by rw [hnl]; omega)
      have hrow : ∀ j u, j < 8 → (owCells x)[j]? = some u → wr.cell? ⟨g, i * 8 + j, none⟩ = some u := by
        obtain ⟨b, o, e, hc⟩ := rows_at owCells_len (by omega) hnl.symm (ownsRow_rd (hnl ▸ HI.out.1.wal.notes)).weak hxi2
        injection e with e
        injection e with e1 e2
        subst e1 e2
        intro j u hj hu
        have := hc j u hj hu
        rwa [Nat.zero_add] at this
      have f7 : wr.cell? ⟨g, i * 8 + 7, none⟩ = some (.int .i64 (x.spent : Int)) := hrow 7 _ (by omega) rfl
      have f2 : wr.cell? ⟨g, i * 8 + 2, none⟩ = some (uv x.note.rho) := hrow 2 _ (by omega) rfl
      obtain ⟨e0, e1, e2, e3, e4, e5, e6⟩ := HI.out.1.wal.cells
      rw [← HK.out] at e3
      have F7 : Hid (∀ u, Ext wr u → u.cell? ⟨g, i * 8 + 7, none⟩ = some (.int .i64 (x.spent : Int))) := hid fun u k => k.cell_some f7
      have HXI := hid hxi
      have HXI2 := hid hxi2
      clear hrow hxi hxi2 hnl
      by_cases hsp : x.spent = 0
      · have hspI : (x.spent : Int) = 0 := by omega
        have CK : Hid (∀ v, Ext wr v → Calls Tryz.prog 116 #[.pointer (some ⟨ob, 0, none⟩), uv key, uv x.note.rho] v fun e w' => e = .returned (.tuple #[uv (markW key x.note.rho), .bool true]) ∧ Ext v w') := hid fun v k => by
          have := Marked_any (k := key) (r := x.note.rho) (HI.out.1.wal.orc.now.ext k) (Nat.zero_le _)
          rw [marked_real HKL.out (HR.out x (List.mem_of_getElem? HXI.out))] at this
          exact this
        have CC : Hid (∀ v, Ext wr v → Calls Tryz.prog 117 #[.slice ma t.marks.length mc, uv (markW key x.note.rho)] v fun e w' => e = .returned (.bool (t.marks.contains (markW key x.note.rho))) ∧ Ext v w') := hid fun v k => contains_any _ t.marks _ v ((HM.out wr HI.out.2.1).ext k) HML.out
        have hhit : hitW key t.marks x = t.marks.contains (markW key x.note.rho) := by unfold hitW; rw [decide_eq_true hsp, Bool.true_and]
        have HHIT := hid hhit
        clear hhit
        generalize markW key x.note.rho = m at *
        have HC7 : Hid (∀ v, Ext wr v → (v.cell? ⟨W, 0, none⟩ = some (.pointer (some ⟨ob, 0, none⟩)) ∧ v.cell? ⟨W, 11, none⟩ = some (uv key) ∧ v.cell? ⟨g, i * 8 + 2, none⟩ = some (uv x.note.rho))) := hid fun v k => ⟨k.cell_some e0, k.cell_some e3, k.cell_some f2⟩
        go_wp2_with fail
        clear e0 e1 e2 e3 e4 e5 e6 f7 f2
        refine wp_region_T (fun v => (v.cell? ⟨W, 0, none⟩ = some (.pointer (some ⟨ob, 0, none⟩)) ∧ v.cell? ⟨W, 11, none⟩ = some (uv key) ∧ v.cell? ⟨g, i * 8 + 2, none⟩ = some (uv x.note.rho)) ∧ Ext wr v) 18 [(0, true), (1, true), (2, true), (3, true), (4, true), (5, true), (6, true), (7, true), (8, true), (9, true), (10, true), (11, true), (12, true), (13, false), (14, true), (15, true), (16, true), (17, true), (18, false)] (by kernel_rfl) (by kernel_rfl) (by intro c a d v w h; cases d <;> exact h) ?_
        intro ops hops
        have HSS := keep0 HC7.out
        iterate 13
          refine wpT_take (v := ?_) (by rw [hops, List.getElem?_toArray]; rfl) (by first | rfl | (rw [hops]; rfl)) ?_ HSS ?_
          rotate_left
          · intro v h; go_simp; with_reducible rfl
          simp only [Act.put, List.getElem_toArray, List.getElem_cons_zero, List.getElem_cons_succ, List.setIfInBounds_toArray, List.set_cons_zero, List.set_cons_succ]
        refine wpT_step (by rw [hops, List.getElem?_toArray]; rfl) (by first | rfl | (rw [hops]; rfl)) ?_
        intro K hK
        go_wp2_with fail
        refine (CK.out _ HSS.2).mono ?_
        rintro e u1 ⟨rfl, g1⟩
        have HS1 := keepE HC7.out HSS g1
        clear g1 HSS
        refine hK _ _ ⟨fun _ => HS1, ?_⟩
        clear hK K
        iterate 4
          refine wpT_take (v := ?_) (by rw [hops, List.getElem?_toArray]; rfl) (by first | rfl | (rw [hops]; rfl)) ?_ HS1 ?_
          rotate_left
          · intro v h; go_simp; with_reducible rfl
          simp only [Act.put, List.getElem_toArray, List.getElem_cons_zero, List.getElem_cons_succ, List.setIfInBounds_toArray, List.set_cons_zero, List.set_cons_succ]
        have U1 := hid HS1.2
        clear HS1
        refine wpT_step (by rw [hops, List.getElem?_toArray]; rfl) (by first | rfl | (rw [hops]; rfl)) ?_
        intro K hK
        go_wp2_with fail
        try (with_reducible refine ⟨fun h => absurd h (by decide), ?_⟩)
        try rw [wpT_nil]
        try clear hops ops
        have b1 : u1.cell? ⟨N, 1, none⟩ = some (.slice ma t.marks.length mc) := by
          have := U1.out.heap_some (HI.out.2.2.2.1.trans HB0.out)
          exact cell_of this 1
        go_wp2_with fail
        refine (CC.out _ U1.out).mono ?_
        rintro e u2 ⟨rfl, hx⟩
        have U2 := hid (U1.out.trans hx)
        clear hx b1 CK CC
        obtain ⟨cb, hcb⟩ : ∃ cb, cb = t.marks.contains m := ⟨_, rfl⟩
        rw [← hcb]
        have HH2 : Hid (hitW key t.marks x = cb) := hid (by rw [HHIT.out, hcb])
        clear hcb HHIT
        cases cb with
        | false =>
          have HN : Hid _ := hid (And.intro (HI.out.1.ext U2.out) (And.intro (HI.out.2.1.ext U2.out) (And.intro HI.out.2.2.1 (And.intro (show u2.heap[N]? = w0.heap[N]? by rw [HB0.out]; exact U2.out.heap_some (HI.out.2.2.2.1.trans HB0.out)) HI.out.2.2.2.2))))
          rw [← spendTo_miss HXI.out HH2.out] at HN
          go_wp2_with fail
          go_roundw
          case rel => exact ⟨i + 1, sv', by omega, by go_num, HN⟩
          case measure => simp [intOf]; omega
        | true =>
          have A2 := HI.out.1.ext U2.out
          obtain ⟨cur, hcur⟩ := own_box A2.wal.notes
          have fz := frozen_of hcur
          have f7 : u2.cell? ⟨g, i * 8 + 7, none⟩ = some (.int .i64 (x.spent : Int)) := F7.out u2 U2.out
          have A3 := hid (A2.hit HXI2.out ht)
          obtain ⟨sa, sc, rfl, -⟩ := ownsRow_rd A2.box.own
          have hspl : (spendTo key ht t.marks S i).sp.length ≤ 20000000 := by
            have h1 := HSPL.out
            have h2 : (spendTo key ht t.marks S i).sp.length ≤ S.sp.length + i := by
              unfold spendTo
              rw [List.length_append]
              have := List.length_filter_le (fun j => (S.notes[j]?.map (hitW key t.marks)).getD false) (List.range i)
              rw [List.length_range] at this
              omega
            have := HNN.out
            omega
          clear hcur A2
          obtain ⟨j0, hj, hjz0, hjz1, hjz2⟩ := info_parts Tryz.infoI
          have HJ := hid (And.intro hj (And.intro hjz0 (And.intro hjz1 hjz2)))
          clear hj hjz0 hjz1 hjz2
          go_upto_region 10 with fail
          obtain ⟨u3, hu3⟩ : ∃ u3, u3 = u2.setCell ⟨g, i * 8 + 7, none⟩ (.int .i64 (ht : Int)) := ⟨_, rfl⟩
          rw [← hu3] at A3 ⊢
          have K23 : Hid (Kp (AF W FT (.slice (some ⟨g, 0, none⟩) S.notes.length nc) pv SB sv) w u3) := hid (by
            rw [hu3]
            exact (HI.out.2.1.ext U2.out).setCell (p := ⟨g, i * 8 + 7, none⟩) (.inl (.inl (.inr (.inr (.inl rfl))))) _)
          have hgN : g ≠ N := by
            have := HLT.out.2 g (.inr (.inr (.inl rfl)))
            have := HNW.out
            omega
          have H3N : Hid (u3.heap[N]? = w0.heap[N]?) := hid (by
            rw [hu3, heap_setCell_ne (fun e => hgN e.symm), HB0.out]
            exact U2.out.heap_some (HI.out.2.2.2.1.trans HB0.out))
          have HU23 : Hid (wr.heap.size ≤ u3.heap.size) := hid (by
            rw [hu3]
            have h1 := U2.out.size
            have h2 : (u2.setCell ⟨g, i * 8 + 7, none⟩ (.int .i64 (ht : Int))).heap.size = u2.heap.size := by
              have k := (Kp.refl (fun _ => True) u2).setCell (p := ⟨g, i * 8 + 7, none⟩) (.inl trivial) (.int .i64 (ht : Int))
              exact Nat.le_antisymm (by simp) k.size
            omega)
          clear hu3 fz f7
          have b2 := cell_of A3.out.box.box 2
          have fz := frozen_of A3.out.box.box
          have hO6 := ownsRow_ext A3.out.box.own ((Ext.refl u3).alloc (.cells #[.int .i64 (i : Int)] 3))
          have hspI : ((spendTo key ht t.marks S i).sp.length : Int) ≤ 20000000 := by omega
          have HSPN := hid hspl
          clear hspl
          go_wp2_with (at_builtin; refine wpList_app' rfl _ _ 126 rfl 3 j0 (.int .i64 0) 1 8 Tryz.underlying126 HJ.out.1 HJ.out.2.1 HJ.out.2.2.1 HJ.out.2.2.2 rfl (by decide) (.slice sa (spendTo key ht t.marks S i).sp.length sc) (spendTo key ht t.marks S i).sp.length (is (spendTo key ht t.marks S i).sp) rfl hO6 (.slice (some ⟨u3.heap.size, 0, none⟩) 1 1) 1 [.int .i64 (i : Int)] rfl (RdC.new1 _ _ _).weak (by simp) (by intro u hu; simp only [List.mem_singleton] at hu; subst hu; rfl) (by have := HSPN.out; unfold maxLen; omega) (by have := HSPN.out; omega) ?_)
          intro v7 w7 own7 hk7 hb7
          obtain ⟨sa7, sc7, rfl, -⟩ := ownsRow_rd own7
          have own7' : OwnI w7 (.slice sa7 ((spendTo key ht t.marks S i).sp.length + 1) sc7) ((spendTo key ht t.marks S i).sp ++ [i]) := by
            show World.ownsRow _ 0 _ 1 _ ((spendTo key ht t.marks S i).sp ++ [i]).length (is ((spendTo key ht t.marks S i).sp ++ [i]))
            rw [List.length_append, show is ((spendTo key ht t.marks S i).sp ++ [i]) = is (spendTo key ht t.marks S i).sp ++ [.int .i64 (i : Int)] by simp [is]]
            exact own7
          have hb7' : blk (.slice sa7 ((spendTo key ht t.marks S i).sp.length + 1) sc7) = blk (.slice sa (spendTo key ht t.marks S i).sp.length sc) ∨ blk (.slice sa7 ((spendTo key ht t.marks S i).sp.length + 1) sc7) = some (u3.alloc (.cells #[.int .i64 (i : Int)] 3)).heap.size := by rw [World.size_alloc]; exact hb7
          have AM := A3.out.mark i ((Ext.refl u3).alloc (.cells #[.int .i64 (i : Int)] 3)) hk7 hb7' own7'
          have hbx := hk7.heap_some (fun e => A3.out.box.ne e.symm) (heap_alloc_some (o' := .cells #[.int .i64 (i : Int)] 3) A3.out.box.box)
          have hsuc := spendTo_hit (h := ht) HXI.out HH2.out
          have hA := AM.1
          change ApS _ W d r seed ⟨(spendTo key ht t.marks S i).leaves, (spendTo key ht t.marks S i).notes.set i { x with spent := ht }, (spendTo key ht t.marks S i).sp ++ [i]⟩ ps ob LB _ pv FO FT SB s0 n0 _ at hA
          rw [show (spendTo key ht t.marks S i).leaves = S.leaves from rfl, ← hsuc] at hA
          have h3s := HU23.out
          have hszw := HI.out.2.1.size
          have hNw := HNW.out
          have hb8 : ∀ j, blk (.slice sa7 ((spendTo key ht t.marks S i).sp.length + 1) sc7) = some j → blk (.slice sa (spendTo key ht t.marks S i).sp.length sc) = some j ∨ u3.heap.size ≤ j := fun j hj => by
            rcases hb7' with e | e
            · exact .inl (e ▸ hj)
            · rw [e, World.size_alloc] at hj; exact .inr (by have := Option.some.inj hj; omega)
          have HN := hid (And.intro hA (And.intro (Kp.chain K23.out HI.out.2.2.1 AM.2) (And.intro (fun j (hj : AF W FT (.slice (some ⟨g, 0, none⟩) S.notes.length nc) pv SB (.slice sa7 ((spendTo key ht t.marks S i).sp.length + 1) sc7) j) => show AF W FT (.slice (some ⟨g, 0, none⟩) S.notes.length nc) pv SB sv j ∨ w.heap.size ≤ j from by
            rcases hj with e | e | e
            · exact .inl (.inl e)
            · exact .inl (.inr (.inl e))
            · rcases hb8 j e with e | e
              · exact HI.out.2.2.1 j (.inr (.inr e))
              · exact .inr (by omega)) (And.intro (show (w7.setCell ⟨SB, 2, none⟩ (.slice sa7 ((spendTo key ht t.marks S i).sp.length + 1) sc7)).heap[N]? = w0.heap[N]? from by
            have h1 := HLT.out.1
            rw [heap_setCell_ne (by omega), HB0.out]
            exact hk7.heap_some (fun e => HI.out.2.2.2.2 N e.symm rfl) (heap_alloc_some (H3N.out.trans HB0.out))) (fun j hj => show j ≠ N from by
            rcases hb8 j hj with e | e
            · exact HI.out.2.2.2.2 j e
            · have h1 := heap_lt (H3N.out.trans HB0.out)
              omega)))))
          have fz := frozen_of hbx
          have b2 := cell_of hbx 2
          clear own7 own7' hk7 hb7 hb7' AM hbx hsuc hA hb8 hO6
          go_wp2_with fail
          go_roundw
          case rel => exact ⟨i + 1, _, by omega, by go_num, HN⟩
          case measure => simp [intOf]; omega
      · have hspB : decide ((x.spent : Int) = 0) = false := decide_eq_false (by omega)
        have hspB2 : ((x.spent : Int) == 0) = false := by rw [beq_eq_false_iff_ne]; omega
        have hh : hitW key t.marks x = false := by unfold hitW; rw [decide_eq_false hsp]; rfl
        have HN := HI.out
        rw [← spendTo_miss HXI.out hh] at HN
        have HN2 := hid HN
        clear HN
        go_wp2_with fail
        go_roundw
        case rel => exact ⟨i + 1, sv', by omega, by go_num, HN2⟩
        case measure => simp [intOf]; omega
    · have hltB : decide ((i : Int) < (S.notes.length : Int)) = false := by simp; omega
      obtain rfl : i = S.notes.length := by omega
      go_wp2_with fail
      exact bodyPost_end (v := .tuple #[]) (by simp [results, Tryz.results89, go_sem]) rfl ⟨rfl, sv', HI.out.1, HI.out.2.1, HI.out.2.2.1⟩
end Go.Proofs.YtcikjcjfcanloaaGreat
namespace Go.Proofs.YtcikjcjfcanloaaGreat
open Go.RowKit
attribute [local irreducible] perm fAdd fMul fPow fSub fNeg fRed hashU
theorem ApS.lt {w : World} {W d : Nat} {r : Rl} {seed : UInt64} {S : StW} {ps : List (ScT × Value)} {ob LB : Nat} {nv pv : Value} {FO FT : Nat → Prop} {SB s0 n0 : Nat} {sv : Value} (h : ApS w W d r seed S ps ob LB nv pv FO FT SB s0 n0 sv) (j : Nat) (hj : AF W FT nv pv SB sv j) : j < w.heap.size := by
  rcases hj with (e | e | e | e) | e | e
  · subst e; exact heap_lt h.wal.self
  · exact h.wal.tl j e
  · exact ownsRow_lt h.wal.notes e
  · exact ownsRow_lt h.wal.past e
  · subst e; exact heap_lt h.box.box
  · exact ownsRow_lt h.box.own e
/-- A leaf more. -/
theorem ApS.leaf {w w' : World} {W d : Nat} {r : Rl} {seed : UInt64} {S : StW} {ps : List (ScT × Value)} {ob LB : Nat} {nv pv : Value} {FO FT : Nat → Prop} {SB s0 n0 : Nat} {sv : Value} (h : ApS w W d r seed S ps ob LB nv pv FO FT SB s0 n0 sv) {L : List UInt64} (ht : TreeTo w LB d FT L w') :
    ∃ FT', ApS w' W d r seed ⟨L, S.notes, S.sp⟩ ps ob LB nv pv FO FT' SB s0 n0 sv ∧ Kp (AF W FT nv pv SB sv) w w' ∧ ∀ j, AF W FT' nv pv SB sv j → AF W FT nv pv SB sv j ∨ w.heap.size ≤ j := by
  obtain ⟨FT', h1, hk, hf⟩ := ht
  have hsz := hk.size
  have hkA : Kp (AF W FT nv pv SB sv) w w' := hk.mono fun j _ e => .inl (.inr (.inl e))
  have hto : ∀ j, AF W FT' nv pv SB sv j → AF W FT nv pv SB sv j ∨ w.heap.size ≤ j := fun j hj => by
    rcases hj with (e | e | e | e) | e | e
    · exact .inl (.inl (.inl e))
    · rcases hf j e with e | e
      · exact .inl (.inl (.inr (.inl e)))
      · exact .inr e
    · exact .inl (.inl (.inr (.inr (.inl e))))
    · exact .inl (.inl (.inr (.inr (.inr e))))
    · exact .inl (.inr (.inl e))
    · exact .inl (.inr (.inr e))
  have hno : ∀ j, j < w.heap.size → ¬ FT j → ¬ FT' j := fun j hj h1 h2 => by
    rcases hf j h2 with e | e
    · exact h1 e
    · omega
  have hlt := h.lt
  have hW := hlt W (.inl (.inl rfl))
  have hSB := hlt SB (.inr (.inl rfl))
  have hsbT : ¬ FT SB := fun e => h.sb (.inr (.inl e))
  refine ⟨FT', { wal := { h.wal with self := hk.heap_some h.wal.wt h.wal.self, sub := fun j e => .inl e, orc := h.wal.orc.to hkA hto, tree := h1, notes := ownsRow_kp h.wal.notes hk fun b hb => h.wal.tn b hb, past := ownsRow_kp h.wal.past hk fun b hb => h.wal.tp b hb, sps := fun x hx => (h.wal.sps x hx).to hkA hto, wt := hno W hW h.wal.wt, tn := fun j hj => hno j (ownsRow_lt h.wal.notes hj) (h.wal.tn j hj), tp := fun j hj => hno j (ownsRow_lt h.wal.past hj) (h.wal.tp j hj), tl := fun j hj => ?_ }, box := ⟨hk.heap_some hsbT h.box.box, ownsRow_kp h.box.own hk fun b hb e => h.sw b hb (.inr (.inl e)), h.box.ne⟩, sb := fun e => ?_, sw := fun j hj e => ?_ }, hkA, hto⟩
  · obtain ⟨LV, vs, ls, h2, -⟩ := h1
    exact h2.foot.2.2.2 j hj
  · rcases e with e | e | e | e
    · exact h.sb (.inl e)
    · exact hno SB hSB hsbT e
    · exact h.sb (.inr (.inr (.inl e)))
    · exact h.sb (.inr (.inr (.inr e)))
  · have hj2 := ownsRow_lt h.box.own hj
    rcases e with e | e | e | e
    · exact h.sw j hj (.inl e)
    · exact hno j hj2 (fun e2 => h.sw j hj (.inr (.inl e2))) e
    · exact h.sw j hj (.inr (.inr (.inl e)))
    · exact h.sw j hj (.inr (.inr (.inr e)))
/-- A note more. -/
theorem ApS.note {w w6 w7 : World} {W d : Nat} {r : Rl} {seed : UInt64} {S : StW} {ps : List (ScT × Value)} {ob LB : Nat} {nv nv' pv : Value} {FO FT : Nat → Prop} {SB s0 n0 : Nat} {sv : Value} (h : ApS w W d r seed S ps ob LB nv pv FO FT SB s0 n0 sv) (x : OwT)
    (k6 : Ext w w6) (k7 : Kp (fun k => some k = blk nv) w6 w7) (hb : blk nv' = blk nv ∨ blk nv' = some w6.heap.size) (own : w7.ownsRow 0 39 8 nv' (S.notes.length + 1) (S.notes.flatMap owCells ++ owCells x)) :
    ApS (w7.setCell ⟨W, 13, none⟩ nv') W d r seed ⟨S.leaves, S.notes ++ [x], S.sp⟩ ps ob LB nv' pv FO FT SB s0 n0 sv ∧ Kp (AF W FT nv pv SB sv) w (w7.setCell ⟨W, 13, none⟩ nv') ∧ ∀ j, AF W FT nv' pv SB sv j → AF W FT nv pv SB sv j ∨ w.heap.size ≤ j := by
  have hsz := k6.size
  have k67 : Kp (fun k => blk nv = some k) w w7 := (Kp.of_ext k6).trans (k7.mono fun _ _ e => e.symm)
  have hk2 : Kp (fun j => j = W) w7 (w7.setCell ⟨W, 13, none⟩ nv') := (Kp.refl (fun j => j = W) _).setCell (p := ⟨W, 13, none⟩) (.inl rfl) _
  have hk : Kp (fun j => blk nv = some j ∨ j = W) w (w7.setCell ⟨W, 13, none⟩ nv') := (k67.mono fun _ _ e => .inl e).trans (hk2.mono fun _ _ e => .inr e)
  have hkA : Kp (AF W FT nv pv SB sv) w (w7.setCell ⟨W, 13, none⟩ nv') := hk.mono fun j _ e => by
    rcases e with e | e
    · exact .inl (.inr (.inr (.inl e)))
    · exact .inl (.inl e)
  have hb' : ∀ j, blk nv' = some j → blk nv = some j ∨ w.heap.size ≤ j := fun j hj => by
    rcases hb with e | e
    · exact .inl (e ▸ hj)
    · rw [e] at hj; exact .inr (by have := Option.some.inj hj; omega)
  have hto : ∀ j, AF W FT nv' pv SB sv j → AF W FT nv pv SB sv j ∨ w.heap.size ≤ j := fun j hj => by
    rcases hj with (e | e | e | e) | e | e
    · exact .inl (.inl (.inl e))
    · exact .inl (.inl (.inr (.inl e)))
    · rcases hb' j e with e | e
      · exact .inl (.inl (.inr (.inr (.inl e))))
      · exact .inr e
    · exact .inl (.inl (.inr (.inr (.inr e))))
    · exact .inl (.inr (.inl e))
    · exact .inl (.inr (.inr e))
  have hlt := h.lt
  have hW := hlt W (.inl (.inl rfl))
  have hSB := hlt SB (.inr (.inl rfl))
  have hWn : blk nv' ≠ some W := fun e => by
    rcases hb' W e with e | e
    · exact h.wal.wn e
    · omega
  have hd : r.depth = (d : Int) := h.wal.dep.1
  refine ⟨{ wal := { h.wal with self := ?_, sub := fun j e => .inl e, orc := h.wal.orc.to hkA hto, tree := ?_, notes := ?_, past := ownsRow_kp h.wal.past hk fun b hb e => ?_, sps := fun x hx => (h.wal.sps x hx).to hkA hto, wn := hWn, tn := fun j hj e => ?_, np := fun j hj e => ?_, tl := fun j hj => Nat.lt_of_lt_of_le (h.wal.tl j hj) hk.size }, box := ⟨hk.heap_some (fun e => ?_) h.box.box, ownsRow_kp h.box.own hk fun b hb e => ?_, h.box.ne⟩, sb := fun e => ?_, sw := fun j hj e => ?_ }, hkA, hto⟩
  · exact heap_setCell_same (k67.heap_some (fun e => h.wal.wn e) h.wal.self) 13 nv'
  · obtain ⟨LV, vs, ls, h1, h2⟩ := h.wal.tree
    exact ⟨LV, vs, ls, h1.of hk fun j hj e => by
      rcases e with e | e
      · exact h.wal.tn j e hj
      · exact h.wal.wt (e ▸ hj), h2⟩
  · show World.ownsRow _ 0 _ 8 _ (S.notes ++ [x]).length _
    rw [List.length_append, List.flatMap_append]
    have := ownsRow_kp own hk2 fun b hb e => hWn (e ▸ hb)
    simpa using this
  · rcases e with e | e
    · exact h.wal.np b e hb
    · exact h.wal.wp (e ▸ hb)
  · rcases hb' j hj with e2 | e2
    · exact h.wal.tn j e2 e
    · have := h.wal.tl j e; omega
  · rcases hb' j hj with e2 | e2
    · exact h.wal.np j e2 e
    · have := ownsRow_lt h.wal.past e; omega
  · rcases e with e | e
    · exact h.sb (.inr (.inr (.inl e)))
    · exact h.sb (.inl e)
  · rcases e with e | e
    · exact h.sw b hb (.inr (.inr (.inl e)))
    · exact h.sw b hb (.inl e)
  · rcases e with e | e | e | e
    · exact h.sb (.inl e)
    · exact h.sb (.inr (.inl e))
    · rcases hb' SB e with e2 | e2
      · exact h.sb (.inr (.inr (.inl e2)))
      · omega
    · exact h.sb (.inr (.inr (.inr e)))
  · rcases e with e | e | e | e
    · exact h.sw j hj (.inl e)
    · exact h.sw j hj (.inr (.inl e))
    · rcases hb' j e with e2 | e2
      · exact h.sw j hj (.inr (.inr (.inl e2)))
      · have := ownsRow_lt h.box.own hj; omega
    · exact h.sw j hj (.inr (.inr (.inr e)))
end Go.Proofs.YtcikjcjfcanloaaGreat
namespace Go.Proofs.YtcikjcjfcanloaaGreat
open Go.RowKit
section
variable {P : Program} {ops : Array Oper} {Q : Exit → Act → World → Prop} {S : World → Prop} {n : Nat}
abbrev ptr (w : World) : Value := .pointer (some ⟨w.heap.size, 0, none⟩)
/-- What holds, whichever of the two blocks have been laid down. -/
abbrev CA := Bool → Bool → Value → Value → World → Prop
structure CA.Grows (S : World → Prop) (Z1 Z2 : Obj) (C : CA) : Prop where
  s : ∀ b1 b2 x y w, C b1 b2 x y w → S w
  g1 : ∀ b2 x y w, C false b2 x y w → C true b2 (ptr w) y (w.alloc Z1)
  g2 : ∀ b1 x y w, C b1 false x y w → C b1 true x (ptr w) (w.alloc Z2)
theorem put_put (a : Act) (d : Nat) (x y : Value) : (a.put (some d) x).put (some d) y = a.put (some d) y := by
  simp [Act.put]
theorem put_comm (a : Act) {d e : Nat} (h : d ≠ e) (x y : Value) : (a.put (some d) x).put (some e) y = (a.put (some e) y).put (some d) x := by
  simp only [Act.put]
  rw [Array.setIfInBounds_comm _ _ h]
end
section
variable {P : Program} {ops : Array Oper} {Q : Exit → Act → World → Prop} {S : World → Prop} {n : Nat}
def chkB (ops : Array Oper) (l : Array Bool) (c : Option Nat) (i1 : Nat) : Bool :=
  [false, true].all fun b1 =>
    (c.isNone && b1) || ((Region.ready .any ops (l.setIfInBounds i1 b1)).all fun j => c == some j || (j == i1 && !b1)) && !(Region.ready .any ops (l.setIfInBounds i1 b1)).isEmpty
theorem chkB_spec {l : Array Bool} {c : Option Nat} {i1 : Nat} (h : chkB ops l c i1 = true) (b1 : Bool) (hb : c.isNone = true → b1 = true → False) :
    Region.ready .any ops (l.setIfInBounds i1 b1) ≠ [] ∧ ∀ j ∈ Region.ready .any ops (l.setIfInBounds i1 b1), c = some j ∨ (j = i1 ∧ b1 = false) := by
  unfold chkB at h
  rw [List.all_eq_true] at h
  have h2 := h b1 (by cases b1 <;> simp)
  rw [Bool.or_eq_true] at h2
  rcases h2 with h2 | h2
  · simp only [Bool.and_eq_true] at h2
    exact absurd (hb h2.1 h2.2) id
  · rw [Bool.and_eq_true, List.all_eq_true] at h2
    refine ⟨fun he => by rw [he] at h2; simp at h2, fun j hj => ?_⟩
    have h3 := h2.1 j hj
    simpa using h3
structure Alloc1 (P : Program) (ops : Array Oper) (Q : Exit → Act → World → Prop) (i1 d1 : Nat) (Z1 : Obj) : Prop where
  a1 : ∃ o, ops[i1]? = some o ∧ (∀ t, Region.wanted o t = true) ∧ ∀ (a : Act) (w : World) (K : Act → World → Prop), K (a.put (some d1) (ptr w)) (w.alloc Z1) → o.wp P a w K Q
abbrev CB := Bool → Value → World → Prop
structure CB.Grows (S : World → Prop) (Z1 : Obj) (C : CB) : Prop where
  s : ∀ b1 x w, C b1 x w → S w
  g1 : ∀ x w, C false x w → C true (ptr w) (w.alloc Z1)
def WB (P : Program) (ops : Array Oper) (Q : Exit → Act → World → Prop) (S : World → Prop) (n : Nat) (i1 d1 : Nat) (C : CB) (a0 : Act) (fuel : Nat) (l : Array Bool) : Prop :=
  ∀ (b1 : Bool) (x : Value) (w : World), C b1 x w → wpAnyN P ops Q S n (fuel + (if b1 then 0 else 1)) (l.setIfInBounds i1 b1) (a0.put (some d1) x) w
theorem WB_one {i1 d1 : Nat} {Z1 : Obj} {C : CB} {a0 : Act} {f : Nat} {l : Array Bool} (A : Alloc1 P ops Q i1 d1 Z1) (G : CB.Grows S Z1 C)
    {c : Option Nat} (hk : chkB ops l c i1 = true) (base : ∀ (b1 : Bool) (x : Value) (w : World), C b1 x w →
      ∀ j, c = some j → wpOp P ops Q j (fun a' w' => (j < n → S w') ∧ wpAnyN P ops Q S n (f + (if b1 then 0 else 1)) ((l.setIfInBounds i1 b1).setIfInBounds j true) a' w') (a0.put (some d1) x) w)
    (e : Nat) (he : e = if c.isNone then f else f + 1)
    (fin : c.isNone = true → ∀ (x : Value) (w : World), C true x w → wpAnyN P ops Q S n e (l.setIfInBounds i1 true) (a0.put (some d1) x) w) :
    WB P ops Q S n i1 d1 C a0 e l := by
  obtain ⟨o1, ho1, hw1, hp1⟩ := A.a1
  have step : ∀ (b1 : Bool) (x : Value) (w : World), C b1 x w → (c.isNone = true → b1 = true → False) →
      (b1 = false → wpAnyN P ops Q S n (e + 0) (l.setIfInBounds i1 true) (a0.put (some d1) (ptr w)) (w.alloc Z1)) →
      wpAnyN P ops Q S n (e + (if b1 then 0 else 1)) (l.setIfInBounds i1 b1) (a0.put (some d1) x) w := by
    intro b1 x w hC hnn k1
    obtain ⟨hr0, hr⟩ := chkB_spec hk b1 hnn
    obtain ⟨m, hm⟩ : ∃ m, e + (if b1 then 0 else 1) = m + 1 := by
      cases c with
      | some c => simp at he; exact ⟨f + (if b1 then 0 else 1), by omega⟩
      | none =>
        have := hnn rfl
        cases b1 <;> simp at this ⊢
    rw [hm]
    refine ⟨fun h => absurd h hr0, fun j hj => ?_⟩
    rcases hr j hj with hj1 | ⟨rfl, rfl⟩
    · have hb := base b1 x w hC j hj1
      have hm' : m = f + (if b1 then 0 else 1) := by rw [hj1] at he; simp at he; omega
      rw [hm']
      exact hb
    · unfold wpOp
      simp only [ho1, hw1, if_true]
      refine .inl (hp1 _ _ _ ⟨fun _ => G.s _ _ _ (G.g1 _ _ hC), ?_⟩)
      have h1 := k1 rfl
      have hm' : m = e + 0 := by simp at hm; omega
      rw [hm', put_put]
      rw [show (l.setIfInBounds j false).setIfInBounds j true = l.setIfInBounds j true by simp]
      exact h1
  have s1 : ∀ (x : Value) (w : World), C true x w → wpAnyN P ops Q S n (e + 0) (l.setIfInBounds i1 true) (a0.put (some d1) x) w := by
    intro x w hC
    cases hc : c.isNone with
    | true => exact fin hc x w hC
    | false =>
      have := step true x w hC (fun h => by rw [hc] at h; cases h) (fun h => by cases h)
      simpa using this
  intro b1 x w hC
  cases b1
  · have := step false x w hC (fun _ h => by cases h) (fun _ => s1 _ (w.alloc Z1) (G.g1 _ _ hC))
    exact this
  · exact s1 x w hC
theorem WB_call {i1 d1 : Nat} {Z1 : Obj} {C : CB} {a0 : Act} {f : Nat} {l : Array Bool} (A : Alloc1 P ops Q i1 d1 Z1) (G : CB.Grows S Z1 C)
    {c dc : Nat} {oc : Oper} (C' : Value → CB) (hk : chkB ops l (some c) i1 = true) (hc : ops[c]? = some oc) (hd : oc.dst = some dc) (hw : ∀ t, Region.wanted oc t = true) (hdd : (dc != d1 && c != i1) = true) (hS' : ∀ v b1 x w, C' v b1 x w → S w)
    (step : ∀ (b1 : Bool) (x : Value) (w : World), C b1 x w → ∀ K : Act → World → Prop, (∀ v w', C' v b1 x w' → ∀ a', a' = (a0.put (some d1) x).put oc.dst v → K a' w') → oc.wp P (a0.put (some d1) x) w K Q)
    (next : ∀ v, WB P ops Q S n i1 d1 (C' v) (a0.put (some dc) v) f (l.setIfInBounds c true)) :
    WB P ops Q S n i1 d1 C a0 (f + 1) l := by
  simp only [Bool.and_eq_true, bne_iff_ne, ne_eq] at hdd
  obtain ⟨n1, n3⟩ := hdd
  refine WB_one (c := some c) (f := f) A G hk ?_ (f + 1) rfl (fun h => by cases h)
  intro b1 x w hC j hj
  obtain rfl := Option.some.inj hj
  unfold wpOp
  simp only [hc, hw, if_true]
  refine .inl (step b1 x w hC _ fun v w' hC' a' ha' => ⟨fun _ => hS' v _ _ w' hC', ?_⟩)
  rw [ha', hd, put_comm _ (Ne.symm n1)]
  rw [Array.setIfInBounds_comm _ _ (Ne.symm n3)]
  exact next v b1 x w' hC'
theorem WB_take {i1 d1 : Nat} {C : CB} {a0 : Act} {f : Nat} {l : Array Bool} {i di : Nat} {oi : Oper} {v : Value} (hS : ∀ b1 x w, C b1 x w → S w) (ho : ops[i]? = some oi) (hd : oi.dst = some di) (hw : ∀ t, Region.wanted oi t = true) (hdd : (di != d1 && i != i1) = true)
    (hk : ([false, true].all fun b1 => okTake ops n (l.setIfInBounds i1 b1) i) = true) (hQ : ∀ c a d v w, Q (.panic c) (Act.put a d v) w → Q (.panic c) a w)
    (hy : ∀ (x : Value) (w' : World), S w' → (execOp (a0.put (some d1) x).eval oi).run P w' = .ok (.value v) w')
    (h : WB P ops Q S n i1 d1 C (a0.put (some di) v) f (l.setIfInBounds i true)) : WB P ops Q S n i1 d1 C a0 (f + 1) l := by
  simp only [Bool.and_eq_true, bne_iff_ne, ne_eq] at hdd
  obtain ⟨n1, n3⟩ := hdd
  intro b1 x w hC
  rw [List.all_eq_true] at hk
  have h1 := hk b1 (by cases b1 <;> simp)
  rw [show f + 1 + (if b1 then 0 else 1) = (f + (if b1 then 0 else 1)) + 1 by omega]
  refine N_take ho h1 hQ (hw _) (hy x) (hS _ _ _ hC) ?_
  rw [hd, put_comm _ (Ne.symm n1), Array.setIfInBounds_comm _ _ (Ne.symm n3)]
  exact h b1 x w hC
theorem WB_pure {i1 d1 : Nat} {C : CB} {a0 : Act} {f : Nat} {l : Array Bool} {φ : Prop} (h : ∀ b1 x w, C b1 x w → φ) (k : φ → WB P ops Q S n i1 d1 C a0 f l) : WB P ops Q S n i1 d1 C a0 f l :=
  fun b1 x w hC => k (h b1 x w hC) b1 x w hC
theorem WB_last {i1 d1 : Nat} {Z1 : Obj} {C : CB} {a0 : Act} {f : Nat} {l : Array Bool} (A : Alloc1 P ops Q i1 d1 Z1) (G : CB.Grows S Z1 C) (hk : chkB ops l none i1 = true)
    (fin : ∀ (x : Value) (w : World), C true x w → wpAnyN P ops Q S n f (l.setIfInBounds i1 true) (a0.put (some d1) x) w) :
    WB P ops Q S n i1 d1 C a0 f l :=
  WB_one (c := none) (f := f) A G hk (fun _ _ _ _ j hj => by cases hj) f rfl fun _ => fin
theorem WB_start {i1 d1 : Nat} {C : CB} {a : Act} {f m : Nat} {l : Array Bool} {w : World} (x : Value) (hC : C false x w) (ha : a.put (some d1) x = a) (hl : l.setIfInBounds i1 false = l) (hf : f + 1 = m) (h : WB P ops Q S n i1 d1 C a f l) :
    wpAnyN P ops Q S n m l a w := by
  have := h false x w hC
  rw [ha, hl] at this
  rw [← hf]
  exact this
end
/-- x points to a block Z laid down since; F knows nothing of it. -/
def zF (w0 : World) (F : Nat → Prop) (Z : Obj) (x : Value) (w : World) : Prop := ∃ g, x = .pointer (some ⟨g, 0, none⟩) ∧ w0.heap.size ≤ g ∧ ¬ F g ∧ w.heap[g]? = some Z
theorem zF.kp {w0 w w' : World} {F G : Nat → Prop} {Z : Obj} {x : Value} (h : zF w0 F Z x w) (k : Kp F w w') (hG : ∀ i, i < w.heap.size → ¬ F i → ¬ G i) : zF w0 G Z x w' := by
  obtain ⟨g, h1, h2, h3, h4⟩ := h
  exact ⟨g, h1, h2, hG g (Array.getElem?_eq_some_iff.1 h4).1 h3, k.heap_some h3 h4⟩
theorem zF.new {w0 w : World} {F : Nat → Prop} {Z : Obj} (h : w0.heap.size ≤ w.heap.size) (hF : ∀ k, F k → k < w.heap.size) : zF w0 F Z (ptr w) (w.alloc Z) := ⟨_, rfl, h, fun hf => Nat.lt_irrefl _ (hF _ hf), heap_new _ _⟩
theorem zF.ne {w0 w : World} {F : Nat → Prop} {Z : Obj} {x : Value} (h : zF w0 F Z x w) : x ≠ ptr w := by
  obtain ⟨g, rfl, -, -, h4⟩ := h
  intro he
  injection he with he
  injection he with he
  injection he with he
  subst he
  exact absurd (Array.getElem?_eq_some_iff.1 h4).1 (Nat.lt_irrefl _)
/-- The world has only grown since w0; x points to a block Z laid down since. -/
def CG1 (w0 : World) (F : Nat → Prop) (Z : Obj) : CB := fun b x v => Ext w0 v ∧ (b = true → zF w0 F Z x v)
theorem CG1.grows {w0 : World} {F : Nat → Prop} {Z : Obj} {S : World → Prop} (hF : ∀ k, F k → k < w0.heap.size) (hS : ∀ v, Kp F w0 v → S v) : CB.Grows S Z (CG1 w0 F Z) where
  s := fun _ _ _ h => hS _ (Kp.of_ext h.1)
  g1 := fun _ _ h => ⟨h.1.alloc _, fun _ => zF.new h.1.size fun k hk => Nat.lt_of_lt_of_le (hF k hk) h.1.size⟩
theorem CG1.ext {w0 v v' : World} {F : Nat → Prop} {Z : Obj} {b : Bool} {x : Value} (h : CG1 w0 F Z b x v) (k : Ext v v') : CG1 w0 F Z b x v' := ⟨h.1.trans k, fun hb => (h.2 hb).kp (.of_ext k) fun _ _ h => h⟩
def CLB (p : World → Prop) (C : CB) : CB := fun b x v => p v ∧ C b x v
theorem CLB.grows {p : World → Prop} {C : CB} {S : World → Prop} {Z : Obj} (G : CB.Grows S Z C) (hp : ∀ v v', p v → Ext v v' → p v') : CB.Grows S Z (CLB p C) where
  s := fun _ _ _ h => G.s _ _ _ h.2
  g1 := fun _ _ h => ⟨hp _ _ h.1 ((Ext.refl _).alloc _), G.g1 _ _ h.2⟩
end Go.Proofs.YtcikjcjfcanloaaGreat
