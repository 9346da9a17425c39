/- Texts of this claim, joined: RW3, Blks, Ops49, RW4. -/
import Derived.Test.YtcikjcjfcanloaaGreatJa8
import Derived.Test.YtcikjcjfcanloaaGreatJa14
import Derived.Test.YtcikjcjfcanloaaGreatJa15
set_option linter.unusedSimpArgs false
namespace Go.Proofs.YtcikjcjfcanloaaGreat
open Go.RowKit
attribute [local irreducible] perm fAdd fMul fPow fSub fNeg fRed hashU
set_option maxRecDepth 100000 in
set_option maxHeartbeats 3200000 in
theorem rOrigin_any (t : TxT) (mv ov pv : Value) (w : World) (h : RdT w t mv ov pv) (hs : TSm t) :
    Calls Tryz.prog 101 #[txVal t mv ov pv] w fun e w' => e = .returned (uv (originT t)) ∧ Ext w w' := by
  have VA : Hid (∀ v, Ext w v → Calls Tryz.prog 102 #[txVal t mv ov pv] v fun e w' => e = .returned (.int .i64 (txV t)) ∧ Ext v w') := hid fun v k => rTxValid_any t mv ov pv v (h.ext k) hs
  obtain ⟨ma, mc, oa, oc, pa, pc, rfl, rfl, rfl⟩ := h.shape
  obtain ⟨N, hN⟩ : ∃ N, N = w.heap.size := ⟨_, rfl⟩
  obtain ⟨w0, hw0⟩ : ∃ w0, w0 = w.alloc (.cells #[uv t.anchor, .slice ma t.marks.length mc, .slice oa t.outs.length oc, uv t.deposit, uv t.withdraw, uv t.fee, uv t.account, uv t.nonce, .int .i64 t.expiry, .slice pa t.proof.length pc] 101) := ⟨_, rfl⟩
  have hx0 : Ext w w0 := by rw [hw0]; exact (Ext.refl w).alloc _
  have hb0 : w0.heap[N]? = some (.cells #[uv t.anchor, .slice ma t.marks.length mc, .slice oa t.outs.length oc, uv t.deposit, uv t.withdraw, uv t.fee, uv t.account, uv t.nonce, .int .i64 t.expiry, .slice pa t.proof.length pc] 101 (0, 0)) := by rw [hw0, hN]; exact heap_new _ _
  have HB := hid hb0
  have HX0 := hid hx0
  have HW := hid hw0
  have HM := hid h.m
  have HH : Hid (∀ v : World, Calls Tryz.prog 64 #[.int .u64 18446744069414584321, .int .u64 5, .slice (some ⟨v.heap.size, 0, none⟩) 2 2] (v.alloc (.cells #[uv t.account, uv t.nonce] 22)) fun e w' => e = .returned (uv (hashU 5 [t.account, t.nonce])) ∧ Ext v w') := hid fun v => rhash2_any 5 t.account t.nonce v
  obtain ⟨V, hV⟩ : ∃ V, V = txV t := ⟨_, rfl⟩
  obtain ⟨R, hR⟩ : ∃ R, R = originT t := ⟨_, rfl⟩
  have HR : Hid (R = if V = 0 then (match t.marks with | m :: _ => m | [] => hashU 5 [t.account, t.nonce]) else 0) := hid (by rw [hR, hV]; rfl)
  rw [← hV] at VA
  rw [← hR]
  have hml : (t.marks.length : Int) ≤ 1000 := by have := hs.m; omega
  clear h hs hV hR hw0 hx0 hb0
  obtain ⟨c0, c1, c2, c3, c4, c5, c6, c7, c8, c9⟩ := ten_cells HB.out
  go_enter Tryz.func101, Tryz.ntmps101
  go_upto_region 1 with fail
  rw [← HW.out, ← hN]
  clear hN HW
  go_wp2_with fail
  refine (VA.out _ HX0.out).mono ?_
  rintro e w1 ⟨rfl, hx⟩
  have X1 := hid (HX0.out.trans hx)
  have HB1 := hid (hx.heap_some HB.out)
  clear hx VA c0 c1 c2 c3 c4 c5 c6 c7 c8 c9
  by_cases hv : V = 0
  case neg =>
    have hvB : decide (V = 0) = false := decide_eq_false hv
    obtain rfl : R = 0 := by rw [HR.out, if_neg hv]
    go_wp2_with fail
    go_ret
    exact ⟨rfl, X1.out⟩
  subst hv
  obtain ⟨c0, c1, c2, c3, c4, c5, c6, c7, c8, c9⟩ := ten_cells HB1.out
  by_cases hm : t.marks.length = 0
  · have hr : R = hashU 5 [t.account, t.nonce] := by rw [HR.out, if_pos rfl, List.eq_nil_of_length_eq_zero hm]
    have hmB : decide (0 < t.marks.length) = false := decide_eq_false (by omega)
    have hmB2 : decide ((0 : Int) < (t.marks.length : Int)) = false := decide_eq_false (by omega)
    rw [← hr] at HH
    clear hr
    go_wp2_with fail
    refine (HH.out _).mono ?_
    rintro e w2 ⟨rfl, hx⟩
    have X2 := hid (X1.out.trans hx)
    clear hx HH
    go_wp2_with fail
    go_ret
    exact ⟨rfl, X2.out⟩
  · obtain ⟨x, hx⟩ : ∃ x, t.marks[0]? = some x := ⟨_, List.getElem?_eq_getElem (by omega)⟩
    have hr : R = x := by
      rw [HR.out, if_pos rfl]
      cases hmm : t.marks with
      | nil => rw [hmm] at hx; cases hx
      | cons y r => rw [hmm] at hx; simpa using hx
    obtain ⟨b, o, rfl, hc⟩ := (HM.out.ext X1.out).uat hx
    have hmB : decide (0 < t.marks.length) = true := decide_eq_true (by omega)
    have hmB2 : decide ((0 : Int) < (t.marks.length : Int)) = true := decide_eq_true (by omega)
    have hmp : (0 : Int) < (t.marks.length : Int) := by omega
    have hc' : w1.cell? ⟨b, o, none⟩ = some (.int .u64 x.toNat) := by simpa using hc
    clear hx hc HR
    subst hr
    go_wp2_with fail
    go_ret
    exact ⟨rfl, X1.out⟩
set_option maxRecDepth 100000 in
set_option maxHeartbeats 3200000 in
theorem rRho_any (t : TxT) (mv ov pv : Value) (i : Nat) (w : World) (h : RdT w t mv ov pv) (hs : TSm t) (hi : i ≤ 100000) :
    Calls Tryz.prog 56 #[txVal t mv ov pv, .int .i64 (i : Int)] w fun e w' => e = .returned (uv (rhoT t i)) ∧ Ext w w' := by
  have OR : Hid (∀ v, Ext w v → Calls Tryz.prog 101 #[txVal t mv ov pv] v fun e w' => e = .returned (uv (originT t)) ∧ Ext v w') := hid fun v k => rOrigin_any t mv ov pv v (h.ext k) hs
  obtain ⟨ma, mc, oa, oc, pa, pc, rfl, rfl, rfl⟩ := h.shape
  obtain ⟨N, hN⟩ : ∃ N, N = w.heap.size := ⟨_, rfl⟩
  obtain ⟨w0, hw0⟩ : ∃ w0, w0 = w.alloc (.cells #[uv t.anchor, .slice ma t.marks.length mc, .slice oa t.outs.length oc, uv t.deposit, uv t.withdraw, uv t.fee, uv t.account, uv t.nonce, .int .i64 t.expiry, .slice pa t.proof.length pc] 101) := ⟨_, rfl⟩
  have hx0 : Ext w w0 := by rw [hw0]; exact (Ext.refl w).alloc _
  have hb0 : w0.heap[N]? = some (.cells #[uv t.anchor, .slice ma t.marks.length mc, .slice oa t.outs.length oc, uv t.deposit, uv t.withdraw, uv t.fee, uv t.account, uv t.nonce, .int .i64 t.expiry, .slice pa t.proof.length pc] 101 (0, 0)) := by rw [hw0, hN]; exact heap_new _ _
  have HX0 := hid hx0
  have HW := hid hw0
  obtain ⟨org, horg⟩ : ∃ org, org = originT t := ⟨_, rfl⟩
  obtain ⟨z, hz⟩ : ∃ z : UInt64, z = UInt64.ofNat i := ⟨_, rfl⟩
  have hzi : (i : Int) = (z.toNat : Int) := by rw [hz, toNat_ofNat_lt (by omega)]
  have HH : Hid (∀ v : World, Calls Tryz.prog 64 #[.int .u64 18446744069414584321, .int .u64 4, .slice (some ⟨v.heap.size, 0, none⟩) 2 2] (v.alloc (.cells #[uv org, uv z] 22)) fun e w' => e = .returned (uv (rhoT t i)) ∧ Ext v w') := hid fun v => by
    have := rhash2_any 4 org z v
    rw [horg, hz] at this
    rw [horg, hz]
    exact this
  rw [← horg] at OR
  generalize rhoT t i = R at *
  have hwz := wrap_uK z
  have hzl := u_lt z
  obtain ⟨c0, c1, c2, c3, c4, c5, c6, c7, c8, c9⟩ := ten_cells hb0
  rw [hzi]
  clear hw0 hx0 hb0 h hs hz hzi hi horg
  go_enter Tryz.func56, Tryz.ntmps56
  go_upto_region 1 with fail
  rw [← HW.out, ← hN]
  clear hN HW
  go_wp2_with fail
  refine (OR.out _ HX0.out).mono ?_
  rintro e w1 ⟨rfl, hx⟩
  have X1 := hid (HX0.out.trans hx)
  clear hx OR c0 c1 c2 c3 c4 c5 c6 c7 c8 c9
  go_wp2_with fail
  refine (HH.out _).mono ?_
  rintro e w2 ⟨rfl, hx⟩
  have X2 := hid (X1.out.trans hx)
  clear hx HH
  go_wp2_with fail
  go_ret
  exact ⟨rfl, X2.out⟩
set_option maxRecDepth 100000 in
set_option maxHeartbeats 6400000 in
theorem rBalance_any (v : Value) (l : List OwT) (w : World) (h : OwnN w v l) (hn : l.length ≤ 10000) :
    Calls Tryz.prog 73 #[v] w fun e w' => e = .returned (uv (balW l)) ∧ Ext w w' := by
  obtain ⟨na, nc, rfl, -⟩ := ownsRow_rd h
  have HO := hid h
  have hnI : (l.length : Int) ≤ 10000 := by omega
  clear h hn
  go_enter Tryz.func73, Tryz.ntmps73
  go_wp2_with fail
  go_loopw [3, 4] (fun sv iv wr => ∃ i : Nat, i ≤ l.length ∧ sv = uv (balW (l.take i)) ∧ iv = .int .i64 i ∧ Hid (Ext w wr)) (fun _ iv _ => l.length - (intOf iv).toNat)
  case atStart => exact ⟨0, by omega, rfl, rfl, hid (Ext.refl w)⟩
  case round =>
    obtain ⟨i, hi, rfl, rfl, HX⟩ := hrel
    have hi0 : (0 : Int) ≤ (i : Int) := Int.natCast_nonneg _
    by_cases hlt : i < l.length
    · have hltB : decide ((i : Int) < (l.length : Int)) = true := by simp; omega
      have hil : (i : Int) < (l.length : Int) := by omega
      obtain ⟨x, hxi⟩ : ∃ x, l[i]? = some x := ⟨_, List.getElem?_eq_getElem hlt⟩
      obtain ⟨g, rfl⟩ : ∃ g, na = some ⟨g, 0, none⟩ := own_shape HO.out (by omega)
      have hrow : ∀ j u, j < 8 → (owCells x)[j]? = some u → wr.cell? ⟨g, i * 8 + j, none⟩ = some u := by
        obtain ⟨b, o, e, hc⟩ := rows_at owCells_len (by omega) rfl (ownsRow_rd (ownsRow_ext HO.out HX.out)).weak hxi
        injection e with e
        injection e with e1 e2
        subst e1 e2
        intro j u hj hu
        have := hc j u hj hu
        rwa [Nat.zero_add] at this
      have f0 : wr.cell? ⟨g, i * 8, none⟩ = some (uv x.note.value) := hrow 0 _ (by omega) rfl
      have f7 : wr.cell? ⟨g, i * 8 + 7, none⟩ = some (.int .i64 (x.spent : Int)) := hrow 7 _ (by omega) rfl
      have HB := hid (balW_snoc hxi)
      clear hrow hxi
      obtain ⟨s, hs⟩ : ∃ s, s = balW (l.take i) := ⟨_, rfl⟩
      rw [← hs] at HB ⊢
      clear hs
      have hadd : IntKind.u64.wrap ((s.toNat : Int) + (x.note.value.toNat : Int)) = ((s + x.note.value).toNat : Int) := by
        rw [IntKind.wrap_u64, UInt64.toNat_add]; omega
      by_cases hsp : x.spent = 0
      · have hspI : (x.spent : Int) = 0 := by omega
        have hb := HB.out
        rw [if_pos hsp] at hb
        have HB2 := hid hb
        clear hb HB
        go_wp2_with fail
        go_roundw
        case rel => exact ⟨i + 1, by omega, by rw [HB2.out]; first | rfl | (unfold uv; rw [← hadd]) | (unfold uv; rw [← hadd, IntKind.wrap_u64]), by go_num, HX⟩
        case measure => simp [intOf]; omega
      · have hspB : decide ((x.spent : Int) = 0) = false := decide_eq_false (by omega)
        have hspB2 : ((x.spent : Int) == 0) = false := by rw [beq_eq_false_iff_ne]; omega
        have hb := HB.out
        rw [if_neg hsp] at hb
        have HB2 := hid hb
        clear hb HB
        go_wp2_with fail
        go_roundw
        case rel => exact ⟨i + 1, by omega, by rw [HB2.out], by go_num, HX⟩
        case measure => simp [intOf]; omega
    · have hltB : decide ((i : Int) < (l.length : Int)) = false := by simp; omega
      obtain rfl : i = l.length := by omega
      rw [List.take_length]
      go_wp2_with fail
      go_ret
      exact ⟨rfl, HX.out⟩
end Go.Proofs.YtcikjcjfcanloaaGreat
namespace Go.Proofs.YtcikjcjfcanloaaGreat
open Go.RowKit
abbrev blkCells (x : BlkT × Value) : List Value := [uv x.1.parent, .int .i64 x.1.height, uv x.1.miner, uv x.1.work, uv x.1.nonce, x.2]
theorem blkCells_len (x : BlkT × Value) : (blkCells x).length = 6 := rfl
/-- v reads in w as the blocks l, whose transactions are read in w0. -/
def RdBs (w0 w : World) (v : Value) (l : List BlkT) : Prop := ∃ X : List (BlkT × Value), X.map (·.1) = l ∧ RdC' w v l.length (X.flatMap blkCells) ∧ ∀ x ∈ X, RdTs w0 x.2 x.1.txs
theorem RdBs.ext {w0 w w' : World} {v : Value} {l : List BlkT} (h : RdBs w0 w v l) (k : Ext w w') : RdBs w0 w' v l := by
  obtain ⟨X, h1, h2, h3⟩ := h
  exact ⟨X, h1, h2.ext k, h3⟩
theorem RdBs.old {w0 w0' w : World} {v : Value} {l : List BlkT} (h : RdBs w0 w v l) (k : Ext w0 w0') : RdBs w0' w v l := by
  obtain ⟨X, h1, h2, h3⟩ := h
  exact ⟨X, h1, h2, fun x hx => (h3 x hx).ext k⟩
theorem RdBs.kp {F : Nat → Prop} {w0 w w' : World} {v : Value} {l : List BlkT} (h : RdBs w0 w v l) (k : Kp F w w') (hF : ∀ b, blk v = some b → b < w.heap.size → ¬ F b) : RdBs w0 w' v l := by
  obtain ⟨X, h1, h2, h3⟩ := h
  exact ⟨X, h1, h2.kp k hF, h3⟩
theorem RdBs.nil (w0 w : World) : RdBs w0 w (.slice none 0 0) [] := ⟨[], rfl, (RdC.nil w).weak, fun x h => by cases h⟩
theorem RdBs.shape {w0 w : World} {v : Value} {l : List BlkT} (h : RdBs w0 w v l) : ∃ a c, v = .slice a l.length c ∧ l.length ≤ c ∧ c ≤ maxLen := by
  obtain ⟨X, h1, h2, h3⟩ := h
  exact h2.shape
theorem RdBs.at {w0 w : World} {a : Option Addr} {n c : Nat} {l : List BlkT} (h : RdBs w0 w (.slice a n c) l) {i : Nat} {x : BlkT} (hx : l[i]? = some x) :
    ∃ b q ta tc, a = some ⟨b, q, none⟩ ∧ RdTs w0 (.slice ta x.txs.length tc) x.txs ∧
      (w.cell? ⟨b, q + i * 6, none⟩ = some (uv x.parent) ∧ w.cell? ⟨b, q + i * 6 + 1, none⟩ = some (.int .i64 x.height) ∧ w.cell? ⟨b, q + i * 6 + 2, none⟩ = some (uv x.miner) ∧ w.cell? ⟨b, q + i * 6 + 3, none⟩ = some (uv x.work) ∧ w.cell? ⟨b, q + i * 6 + 4, none⟩ = some (uv x.nonce) ∧ w.cell? ⟨b, q + i * 6 + 5, none⟩ = some (.slice ta x.txs.length tc)) := by
  obtain ⟨X, h1, h2, h3⟩ := h
  have hn : n = l.length := by obtain ⟨a', c', he, -⟩ := h2; injection he
  have hXl : X.length = l.length := by rw [← h1, List.length_map]
  have hi : i < X.length := by rw [hXl]; exact (List.getElem?_eq_some_iff.1 hx).1
  have hy : X[i]? = some X[i] := List.getElem?_eq_getElem hi
  have hr := h3 _ (List.getElem_mem hi)
  obtain ⟨⟨x', tv⟩, hX⟩ : ∃ y, y = X[i] := ⟨_, rfl⟩
  rw [← hX] at hy hr
  have hxo : x' = x := by
    have : l[i]? = some x' := by rw [← h1, List.getElem?_map, hy]; rfl
    rw [hx] at this
    exact (Option.some.inj this).symm
  subst hn hxo
  obtain ⟨b, q, rfl, hc⟩ := rows_at blkCells_len (by omega) hXl.symm h2 hy
  simp only at hr
  obtain ⟨ta, tc, rfl, -⟩ := hr.shape
  exact ⟨b, q, ta, tc, rfl, hr, hc 0 _ (by omega) rfl, hc 1 _ (by omega) rfl, hc 2 _ (by omega) rfl, hc 3 _ (by omega) rfl, hc 4 _ (by omega) rfl, hc 5 _ (by omega) rfl⟩
/-- The first k blocks, with another room. -/
theorem RdBs.take {w0 w : World} {a : Option Addr} {n c : Nat} {l : List BlkT} (h : RdBs w0 w (.slice a n c) l) {k c' : Nat} (hk : k ≤ l.length) (hkc : k ≤ c') (hc : c' ≤ maxLen) (hz : a = none → c' = 0) : RdBs w0 w (.slice a k c') (l.take k) := by
  obtain ⟨X, h1, ⟨a1, c1, e, h2, h4, h5, h6⟩, h3⟩ := h
  injection e with e1 e2 e3
  subst e1
  refine ⟨X.take k, by rw [List.map_take, h1], ⟨a, c', by rw [List.length_take, Nat.min_eq_left hk], by rw [List.length_take]; omega, hc, hz, fun ad ha j u hu => ?_⟩, fun x hx => h3 x (List.mem_of_mem_take hx)⟩
  refine h6 ad ha j u ?_
  have hX : X.flatMap blkCells = (X.take k).flatMap blkCells ++ (X.drop k).flatMap blkCells := by rw [← List.flatMap_append, List.take_append_drop]
  rw [hX, List.getElem?_append_left (List.getElem?_eq_some_iff.1 hu).1]
  exact hu
/-- The blocks from k on: where their address stands. -/
theorem RdBs.drop {w0 w : World} {b q n c : Nat} {l : List BlkT} (h : RdBs w0 w (.slice (some ⟨b, q, none⟩) n c) l) {k c' : Nat} (hk : k ≤ l.length) (hc0 : l.length - k ≤ c') (hc : c' ≤ maxLen) : RdBs w0 w (.slice (some ⟨b, q + k * 6, none⟩) (l.length - k) c') (l.drop k) := by
  obtain ⟨X, h1, ⟨a1, c1, e, h2, h4, h5, h6⟩, h3⟩ := h
  injection e with e1 e2 e3
  subst e1
  have hXl : X.length = l.length := by rw [← h1, List.length_map]
  refine ⟨X.drop k, by rw [List.map_drop, h1], ⟨_, c', by rw [List.length_drop], by rw [List.length_drop]; exact hc0, hc, (fun e => by cases e), fun ad ha j u hu => ?_⟩, fun x hx => h3 x (List.mem_of_mem_drop hx)⟩
  obtain rfl := Option.some.inj ha
  have hX : X.flatMap blkCells = (X.take k).flatMap blkCells ++ (X.drop k).flatMap blkCells := by rw [← List.flatMap_append, List.take_append_drop]
  have hl : ((X.take k).flatMap blkCells).length = k * 6 := by rw [flat_len blkCells_len, List.length_take, Nat.min_eq_left (by omega)]
  have := h6 _ rfl (k * 6 + j) u (by rw [hX, List.getElem?_append_right (by omega), hl, Nat.add_sub_cancel_left]; exact hu)
  rw [Addr.add_lit] at this ⊢
  rw [Nat.add_assoc]
  exact this
/-- An own row of blocks. -/
theorem RdBs.own {w0 w : World} {v : Value} {X : List (BlkT × Value)} (h : w.ownsRow 0 75 6 v X.length (X.flatMap blkCells)) (hx : ∀ x ∈ X, RdTs w0 x.2 x.1.txs) : RdBs w0 w v (X.map (·.1)) :=
  ⟨X, rfl, by rw [List.length_map]; exact (ownsRow_rd h).weak, hx⟩
/-- One block in a block of the heap of its own. -/
theorem RdBs.one {w0 w : World} {g : Nat} {b : BlkT} {tv : Value} {T : TypeId} (h : w.heap[g]? = some (.cells #[uv b.parent, .int .i64 b.height, uv b.miner, uv b.work, uv b.nonce, tv] T (0, 0))) (ht : RdTs w0 tv b.txs) : RdBs w0 w (.slice (some ⟨g, 0, none⟩) 1 1) [b] := by
  refine ⟨[(b, tv)], rfl, RdC.weak ⟨_, 1, rfl, Nat.le_refl _, by unfold maxLen; omega, (fun h => by cases h), fun ad ha => ?_⟩, fun x hx => by obtain rfl := List.mem_singleton.1 hx; exact ht⟩
  obtain rfl := Option.some.inj ha
  refine ⟨rfl, fun j u hu => ?_⟩
  rw [cell_of h]
  simpa using hu
end Go.Proofs.YtcikjcjfcanloaaGreat
namespace Go.Proofs.YtcikjcjfcanloaaGreat
open Go.RowKit
structure OpT where
  undo : Bool
  b : BlkT
abbrev opCells (x : OpT × Value) : List Value := [.bool x.1.undo, uv x.1.b.parent, .int .i64 x.1.b.height, uv x.1.b.miner, uv x.1.b.work, uv x.1.b.nonce, x.2]
theorem opCells_len (x : OpT × Value) : (opCells x).length = 7 := rfl
def RdWops (w : World) (v : Value) (l : List OpT) : Prop := ∃ X : List (OpT × Value), X.map (·.1) = l ∧ RdC' w v l.length (X.flatMap opCells) ∧ ∀ x ∈ X, RdTs w x.2 x.1.b.txs
theorem RdWops.ext {w w' : World} {v : Value} {l : List OpT} (h : RdWops w v l) (k : Ext w w') : RdWops w' v l := by
  obtain ⟨X, h1, h2, h3⟩ := h
  exact ⟨X, h1, h2.ext k, fun x hx => (h3 x hx).ext k⟩
theorem RdWops.shape {w : World} {v : Value} {l : List OpT} (h : RdWops w v l) : ∃ a c, v = .slice a l.length c ∧ l.length ≤ c ∧ c ≤ maxLen := by
  obtain ⟨X, h1, h2, h3⟩ := h
  exact h2.shape
theorem RdWops.at {w : World} {a : Option Addr} {n c : Nat} {l : List OpT} (h : RdWops w (.slice a n c) l) {i : Nat} {x : OpT} (hx : l[i]? = some x) :
    ∃ b q ta tc, a = some ⟨b, q, none⟩ ∧ RdTs w (.slice ta x.b.txs.length tc) x.b.txs ∧
      (w.cell? ⟨b, q + i * 7, none⟩ = some (.bool x.undo) ∧ w.cell? ⟨b, q + i * 7 + 1, none⟩ = some (uv x.b.parent) ∧ w.cell? ⟨b, q + i * 7 + 2, none⟩ = some (.int .i64 x.b.height) ∧ w.cell? ⟨b, q + i * 7 + 3, none⟩ = some (uv x.b.miner) ∧ w.cell? ⟨b, q + i * 7 + 4, none⟩ = some (uv x.b.work) ∧ w.cell? ⟨b, q + i * 7 + 5, none⟩ = some (uv x.b.nonce) ∧ w.cell? ⟨b, q + i * 7 + 6, none⟩ = some (.slice ta x.b.txs.length tc)) := by
  obtain ⟨X, h1, h2, h3⟩ := h
  have hn : n = l.length := by obtain ⟨a', c', he, -⟩ := h2; injection he
  have hXl : X.length = l.length := by rw [← h1, List.length_map]
  have hi : i < X.length := by rw [hXl]; exact (List.getElem?_eq_some_iff.1 hx).1
  have hy : X[i]? = some X[i] := List.getElem?_eq_getElem hi
  have hr := h3 _ (List.getElem_mem hi)
  obtain ⟨⟨x', tv⟩, hX⟩ : ∃ y, y = X[i] := ⟨_, rfl⟩
  rw [← hX] at hy hr
  have hxo : x' = x := by
    have : l[i]? = some x' := by rw [← h1, List.getElem?_map, hy]; rfl
    rw [hx] at this
    exact (Option.some.inj this).symm
  subst hn hxo
  obtain ⟨b, q, rfl, hc⟩ := rows_at opCells_len (by omega) hXl.symm h2 hy
  simp only at hr
  obtain ⟨ta, tc, rfl, -⟩ := hr.shape
  exact ⟨b, q, ta, tc, rfl, hr, hc 0 _ (by omega) rfl, hc 1 _ (by omega) rfl, hc 2 _ (by omega) rfl, hc 3 _ (by omega) rfl, hc 4 _ (by omega) rfl, hc 5 _ (by omega) rfl, hc 6 _ (by omega) rfl⟩
/-- The first k operations. -/
theorem RdWops.take {w : World} {a : Option Addr} {n c : Nat} {l : List OpT} (h : RdWops w (.slice a n c) l) {k : Nat} (hk : k ≤ l.length) : RdWops w (.slice a k c) (l.take k) := by
  obtain ⟨X, h1, ⟨a1, c1, e, h2, h4, h5, h6⟩, h3⟩ := h
  injection e with e1 e2 e3
  subst e1 e3
  refine ⟨X.take k, by rw [List.map_take, h1], ⟨a, c, by rw [List.length_take, Nat.min_eq_left hk], by rw [List.length_take]; omega, h4, h5, fun ad ha j u hu => ?_⟩, fun x hx => h3 x (List.mem_of_mem_take hx)⟩
  refine h6 ad ha j u ?_
  have hX : X.flatMap opCells = (X.take k).flatMap opCells ++ (X.drop k).flatMap opCells := by rw [← List.flatMap_append, List.take_append_drop]
  rw [hX, List.getElem?_append_left (List.getElem?_eq_some_iff.1 hu).1]
  exact hu
def opW (d : Nat) (l : List BlkT) (o : OpT) : List BlkT := if o.undo then l.dropLast else if checkW d l o.b = 0 then l ++ [o.b] else l
def playTo (d : Nat) (ops : List OpT) (i : Nat) : List BlkT := (ops.take i).foldl (opW d) []
def playW (d : Nat) (ops : List OpT) : List BlkT := ops.foldl (opW d) []
theorem playTo_succ {d : Nat} {ops : List OpT} {i : Nat} {o : OpT} (h : ops[i]? = some o) : playTo d ops (i + 1) = opW d (playTo d ops i) o := by
  unfold playTo
  rw [List.take_add_one, h, List.foldl_append]
  rfl
theorem playTo_all (d : Nat) (ops : List OpT) : playTo d ops ops.length = playW d ops := by unfold playTo playW; rw [List.take_length]
theorem okAll_nil (d : Nat) : okAll d [] := fun i b h => by cases h
theorem okAll_take {d : Nat} {l : List BlkT} (h : okAll d l) (k : Nat) : okAll d (l.take k) := fun i b hb => by
  have hi := (List.getElem?_eq_some_iff.1 hb).1
  rw [List.length_take] at hi
  rw [List.take_take, Nat.min_eq_left (by omega)]
  refine h i b ?_
  rw [← hb, List.getElem?_take_of_lt (by omega)]
theorem okAll_snoc {d : Nat} {l : List BlkT} {b : BlkT} (h : okAll d l) (hb : checkW d l b = 0) : okAll d (l ++ [b]) := fun i x hx => by
  by_cases hi : i < l.length
  · rw [List.getElem?_append_left hi] at hx
    rw [List.take_append_of_le_length (by omega)]
    exact h i x hx
  · have hl := (List.getElem?_eq_some_iff.1 hx).1
    rw [List.length_append, List.length_singleton] at hl
    obtain rfl : i = l.length := by omega
    rw [List.getElem?_append_right (Nat.le_refl _), Nat.sub_self] at hx
    obtain rfl := Option.some.inj hx
    rw [List.take_left]
    exact hb
theorem opW_ok {d : Nat} {l : List BlkT} {o : OpT} (h : okAll d l) : okAll d (opW d l o) := by
  unfold opW
  split
  · rw [List.dropLast_eq_take]; exact okAll_take h _
  · split
    · next hb => exact okAll_snoc h hb
    · exact h
theorem playTo_ok (d : Nat) (ops : List OpT) : ∀ i, okAll d (playTo d ops i)
  | 0 => okAll_nil d
  | i + 1 => by
    by_cases hi : i < ops.length
    · rw [playTo_succ (List.getElem?_eq_getElem hi)]
      exact opW_ok (playTo_ok d ops i)
    · have : playTo d ops (i + 1) = playTo d ops i := by
        unfold playTo
        rw [List.take_of_length_le (by omega), List.take_of_length_le (by omega)]
      rw [this]
      exact playTo_ok d ops i
theorem opW_mem {d : Nat} {l : List BlkT} {o : OpT} {b : BlkT} (h : b ∈ opW d l o) : b ∈ l ∨ b = o.b := by
  unfold opW at h
  split at h
  · rw [List.dropLast_eq_take] at h
    exact .inl (List.mem_of_mem_take h)
  · split at h
    · rcases List.mem_append.1 h with h | h
      · exact .inl h
      · exact .inr (List.mem_singleton.1 h)
    · exact .inl h
theorem playTo_mem {d : Nat} {ops : List OpT} {b : BlkT} : ∀ i, b ∈ playTo d ops i → ∃ o ∈ ops, o.b = b
  | 0, h => by cases h
  | i + 1, h => by
    by_cases hi : i < ops.length
    · rw [playTo_succ (List.getElem?_eq_getElem hi)] at h
      rcases opW_mem h with h | h
      · exact playTo_mem i h
      · exact ⟨_, List.getElem_mem hi, h.symm⟩
    · have : playTo d ops (i + 1) = playTo d ops i := by
        unfold playTo
        rw [List.take_of_length_le (by omega), List.take_of_length_le (by omega)]
      rw [this] at h
      exact playTo_mem i h
theorem opW_len {d : Nat} {l : List BlkT} {o : OpT} : (opW d l o).length ≤ l.length + 1 := by
  unfold opW
  split
  · rw [List.length_dropLast]; omega
  · split
    · simp
    · omega
theorem playTo_len {d : Nat} {ops : List OpT} : ∀ i, (playTo d ops i).length ≤ i
  | 0 => Nat.le_refl _
  | i + 1 => by
    by_cases hi : i < ops.length
    · rw [playTo_succ (List.getElem?_eq_getElem hi)]
      have := opW_len (d := d) (l := playTo d ops i) (o := ops[i])
      have := playTo_len (d := d) (ops := ops) i
      omega
    · have : playTo d ops (i + 1) = playTo d ops i := by
        unfold playTo
        rw [List.take_of_length_le (by omega), List.take_of_length_le (by omega)]
      rw [this]
      have := playTo_len (d := d) (ops := ops) i
      omega
end Go.Proofs.YtcikjcjfcanloaaGreat
namespace Go.Proofs.YtcikjcjfcanloaaGreat
open Go.RowKit
attribute [local irreducible] perm fAdd fMul fPow fSub fNeg fRed hashU
structure BSm (b : BlkT) : Prop where
  n : b.txs.length ≤ 100
  t : ∀ t ∈ b.txs, TSm t
def FrU (w v : World) (x : Value) (l : List UInt64) : Prop := OwnU v x l ∧ Ext w v ∧ ∀ k, blk x = some k → w.heap.size ≤ k
theorem FrU.app {w v v' : World} {x y : Value} {l : List UInt64} {c : UInt64} (h : FrU w v x l) {n : Nat} (hown : v'.ownsRow 0 22 1 y (n + 1) (us l ++ [uv c])) (hn : n = l.length) (u : World) (hu : Ext v u) (hk : Kp (fun k => some k = blk x) u v') (hb : blk y = blk x ∨ blk y = some u.heap.size) : FrU w v' y (l ++ [c]) := by
  subst hn
  refine ⟨?_, (h.2.1.trans hu).kp hk (fun k e => h.2.2 k e.symm), fun k e => ?_⟩
  · show v'.ownsRow 0 22 1 y (l ++ [c]).length (us (l ++ [c]))
    rw [List.length_append, show us (l ++ [c]) = us l ++ [uv c] by simp [us]]
    exact hown
  · rcases hb with e2 | e2
    · exact h.2.2 k (by rw [← e2]; exact e)
    · rw [e2] at e
      have := Option.some.inj e
      have := (h.2.1.trans hu).size
      omega
def outsK (l : List TxT) : List UInt64 := l.flatMap fun t => t.outs.map (·.commit)
theorem outsK_snoc {l : List TxT} {i : Nat} {t : TxT} (h : l[i]? = some t) : outsK (l.take (i + 1)) = outsK (l.take i) ++ t.outs.map (·.commit) := by
  unfold outsK
  rw [List.take_add_one, h]
  simp
theorem leavesW_take {l : List BlkT} {i : Nat} {b : BlkT} (h : l[i]? = some b) : leavesW (l.take (i + 1)) = leavesW (l.take i) ++ outsK b.txs := by
  rw [List.take_add_one, h]
  exact leavesW_snoc _ _
theorem outsK_len {l : List TxT} (h : ∀ t ∈ l, TSm t) : (outsK l).length ≤ 1000 * l.length := by
  induction l with
  | nil => simp [outsK]
  | cons t r ih =>
    have h1 := ih fun t ht => h t (List.mem_cons_of_mem _ ht)
    have h2 := (h t (by simp)).o
    unfold outsK at h1 ⊢
    rw [List.flatMap_cons, List.length_append, List.length_map, List.length_cons]
    omega
theorem leavesW_len {l : List BlkT} (h : ∀ b ∈ l, BSm b) : (leavesW l).length ≤ 100000 * l.length := by
  induction l with
  | nil => simp [leavesW]
  | cons b r ih =>
    have h1 := ih fun t ht => h t (List.mem_cons_of_mem _ ht)
    have h2 := (h b (by simp)).n
    have h3 := outsK_len (h b (by simp)).t
    unfold outsK at h3
    unfold leavesW outsOf at h1 ⊢
    rw [List.flatMap_cons, List.length_append, List.length_cons]
    omega
set_option maxRecDepth 100000 in
set_option maxHeartbeats 12800000 in
theorem rLeaves_any (v : Value) (l : List BlkT) (w : World) (h : RdBs w w v l) (hl : l.length ≤ 1000) (hs : ∀ b ∈ l, BSm b) :
    Calls Tryz.prog 32 #[v] w fun e w' => ∃ u, e = .returned u ∧ FrU w w' u (leavesW l) := by
  obtain ⟨la, lc, rfl, -⟩ := h.shape
  have HH : Hid (∀ u, Ext w u → RdBs u u (.slice la l.length lc) l) := hid fun u k => (h.ext k).old k
  have HS := hid hs
  have hlI : (l.length : Int) ≤ 1000 := by omega
  obtain ⟨i0, hi, hz0, hz1, hz2⟩ := info_parts Tryz.infoU
  have HI0 := hid (And.intro hi (And.intro hz0 (And.intro hz1 hz2)))
  have F0 : Hid (FrU w (w.alloc (.cells #[] 22)) (.slice (some ⟨w.heap.size, 0, none⟩) 0 0) []) := hid ⟨own_empty w, (Ext.refl w).alloc _, fun k e => by change some w.heap.size = some k at e; injection e with e; omega⟩
  clear h hs hl hi hz0 hz1 hz2
  go_enter Tryz.func32, Tryz.ntmps32
  go_wp2_with fail
  go_loopw [3, 4] (fun bv iv wr => ∃ i : Nat, i ≤ l.length ∧ iv = .int .i64 i ∧ Hid (FrU w wr bv (leavesW (l.take i)))) (fun _ iv _ => l.length - (intOf iv).toNat)
  case atStart => exact ⟨0, by omega, rfl, by simpa [leavesW] using F0⟩
  case round =>
    clear F0
    obtain ⟨i, hi, rfl, HI⟩ := hrel
    have hi0 : (0 : Int) ≤ (i : Int) := Int.natCast_nonneg _
    by_cases hlt : i < l.length
    · have hltB : decide ((i : Int) < (l.length : Int)) = true := by simp; omega
      have hil : (i : Int) < (l.length : Int) := by omega
      obtain ⟨b, hbi⟩ : ∃ b, l[i]? = some b := ⟨_, List.getElem?_eq_getElem hlt⟩
      have BS := hid (HS.out b (List.mem_of_getElem? hbi))
      have HLT := hid (leavesW_take hbi)
      have HLL : Hid ((leavesW (l.take i)).length ≤ 100000 * i) := hid (by
        have := leavesW_len (l := l.take i) fun b hb => HS.out b (List.mem_of_mem_take hb)
        rw [List.length_take] at this
        omega)
      obtain ⟨q, o, ta, tc, rfl, htx, -, -, -, -, -, e5⟩ := (HH.out w (Ext.refl w)).at hbi
      have HE : Hid (∀ u, Ext w u → u.cell? ⟨q, o + i * 6 + 5, none⟩ = some (.slice ta b.txs.length tc) ∧ RdTs u (.slice ta b.txs.length tc) b.txs) := hid fun u k => ⟨k.cell_some e5, htx.ext k⟩
      have htI : (b.txs.length : Int) ≤ 100 := by have := BS.out.n; omega
      obtain ⟨f5, -⟩ := HE.out wr HI.out.2.1
      clear e5 htx hbi
      go_wp2_with fail
      clear f5
      go_loopw [3, 5] (fun bv kv wr => ∃ k : Nat, k ≤ b.txs.length ∧ kv = .int .i64 k ∧ Hid (FrU w wr bv (leavesW (l.take i) ++ outsK (b.txs.take k)))) (fun _ kv _ => b.txs.length - (intOf kv).toNat)
      case atStart => exact ⟨0, by omega, rfl, by simpa [outsK] using HI⟩
      case round =>
        clear HI
        obtain ⟨k, hk, rfl, HK⟩ := hrel
        have hk0 : (0 : Int) ≤ (k : Int) := Int.natCast_nonneg _
        obtain ⟨f5, htx⟩ := HE.out wr HK.out.2.1
        by_cases hkt : k < b.txs.length
        · have hktB : decide ((k : Int) < (b.txs.length : Int)) = true := by simp; omega
          have hkl : (k : Int) < (b.txs.length : Int) := by omega
          obtain ⟨t, htk⟩ : ∃ t, b.txs[k]? = some t := ⟨_, List.getElem?_eq_getElem hkt⟩
          have TS := hid (BS.out.t t (List.mem_of_getElem? htk))
          have HOT := hid (outsK_snoc htk)
          have HOL : Hid ((outsK (b.txs.take k)).length ≤ 1000 * k) := hid (by
            have := outsK_len (l := b.txs.take k) fun t ht => BS.out.t t (List.mem_of_mem_take ht)
            rw [List.length_take] at this
            omega)
          clear htx
          obtain ⟨q2, o2, ma, mc, oa, oc, pa, pc, rfl, hrt, -, -, e2, -⟩ := (HE.out w (Ext.refl w)).2.at htk
          have HF : Hid (∀ u, Ext w u → u.cell? ⟨q2, o2 + k * 10 + 2, none⟩ = some (.slice oa t.outs.length oc) ∧ RdOs u (.slice oa t.outs.length oc) t.outs) := hid fun u ku => ⟨ku.cell_some e2, hrt.o.ext ku⟩
          have hoI : (t.outs.length : Int) ≤ 1000 := by have := TS.out.o; omega
          obtain ⟨f2, -⟩ := HF.out wr HK.out.2.1
          clear e2 hrt htk
          go_wp2_with fail
          clear f2 f5
          go_loopw [3, 6] (fun bv jv wr => ∃ j : Nat, j ≤ t.outs.length ∧ jv = .int .i64 j ∧ Hid (FrU w wr bv (leavesW (l.take i) ++ outsK (b.txs.take k) ++ (t.outs.take j).map (·.commit)))) (fun _ jv _ => t.outs.length - (intOf jv).toNat)
          case atStart => exact ⟨0, by omega, rfl, by simpa using HK⟩
          case round =>
            clear HK
            obtain ⟨j, hj, rfl, HJ⟩ := hrel
            have hj0 : (0 : Int) ≤ (j : Int) := Int.natCast_nonneg _
            obtain ⟨f5, -⟩ := HE.out wr HJ.out.2.1
            obtain ⟨f2, hro⟩ := HF.out wr HJ.out.2.1
            by_cases hjt : j < t.outs.length
            · have hjtB : decide ((j : Int) < (t.outs.length : Int)) = true := by simp; omega
              have hjl : (j : Int) < (t.outs.length : Int) := by omega
              obtain ⟨x, hx⟩ : ∃ x, t.outs[j]? = some x := ⟨_, List.getElem?_eq_getElem hjt⟩
              obtain ⟨q3, o3, ca, cc, rfl, g0, -⟩ := hro.at hx
              have HT : Hid ((t.outs.take (j + 1)).map (·.commit) = (t.outs.take j).map (·.commit) ++ [x.commit]) := hid (by rw [List.take_add_one, hx]; simp)
              obtain ⟨cur, hcur⟩ : ∃ cur, cur = leavesW (l.take i) ++ outsK (b.txs.take k) ++ (t.outs.take j).map (·.commit) := ⟨_, rfl⟩
              have HCU := hid hcur
              rw [← hcur] at HJ
              have HCL : Hid (cur.length ≤ 1000000000) := hid (by
                rw [hcur, List.length_append, List.length_append, List.length_map, List.length_take]
                have := HLL.out
                have := HOL.out
                have := TS.out.o
                omega)
              obtain ⟨ba, bc, rfl, -⟩ := ownsRow_rd HJ.out.1
              clear hcur hx hro
              obtain ⟨y, hy⟩ : ∃ y, y = x.commit := ⟨_, rfl⟩
              rw [← hy] at g0 HT
              clear hy
              go_wp2_with (at_builtin; refine wpList_app rfl _ _ 57 rfl 22 i0 (.int .u64 0) 1 8 Tryz.underlying57 HI0.out.1 HI0.out.2.1 HI0.out.2.2.1 HI0.out.2.2.2 rfl (by decide) _ cur.length (us cur) rfl (ownsRow_ext HJ.out.1 ((Ext.refl _).alloc _)) _ 1 [.int .u64 y.toNat] rfl (RdC.new1 _ _ _) rfl (us_one [y]) (by have := HCL.out; unfold maxLen; omega) (by have := HCL.out; omega) ?_)
              intro v' w3 hown hk2 hb
              have G : Hid (FrU w w3 v' (cur ++ [y])) := hid (HJ.out.app hown rfl _ ((Ext.refl _).alloc _) hk2 (by simpa using hb))
              obtain ⟨va, vc, rfl, -⟩ := ownsRow_rd hown
              clear hown hk2 hb
              go_wp2_with fail
              go_roundw
              case rel => exact ⟨j + 1, by omega, by go_num, by rw [HT.out, ← List.append_assoc, ← HCU.out]; exact G⟩
              case measure => simp [intOf]; omega
            · have hjtB : decide ((j : Int) < (t.outs.length : Int)) = false := by simp; omega
              obtain rfl : j = t.outs.length := by omega
              rw [List.take_length, List.append_assoc, ← HOT.out] at HJ
              go_wp2_with fail
              go_roundw
              case rel => exact ⟨k + 1, by omega, by go_num, HJ⟩
              case measure => simp [intOf]; omega
        · have hktB : decide ((k : Int) < (b.txs.length : Int)) = false := by simp; omega
          obtain rfl : k = b.txs.length := by omega
          rw [List.take_length] at HK
          rw [← HLT.out] at HK
          go_wp2_with fail
          go_roundw
          case rel => exact ⟨i + 1, by omega, by go_num, HK⟩
          case measure => simp [intOf]; omega
    · have hltB : decide ((i : Int) < (l.length : Int)) = false := by simp; omega
      obtain rfl : i = l.length := by omega
      rw [List.take_length] at HI
      obtain ⟨ba, bc, rfl, -⟩ := ownsRow_rd HI.out.1
      go_wp2_with fail
      go_ret
      exact ⟨_, rfl, HI.out⟩
set_option maxRecDepth 100000 in
set_option maxHeartbeats 12800000 in
theorem rCheck_any (d : Nat) (v : Value) (l : List BlkT) (b : BlkT) (tv : Value) (w : World) (h : RdBs w w v l) (hl : l.length ≤ 1000) (hs : ∀ b ∈ l, BSm b) (hb : RdTs w tv b.txs) (hbs : BSm b) (hd : d ≤ 12) :
    Calls Tryz.prog 62 #[.int .i64 (d : Int), v, blkVal b tv] w fun e w' => e = .returned (.int .i64 (checkW d l b)) ∧ Ext w w' := by
  obtain ⟨la, lc, rfl, -⟩ := h.shape
  obtain ⟨ta, tc, rfl, -⟩ := hb.shape
  have LV : Hid (∀ u, Ext w u → Calls Tryz.prog 32 #[.slice la l.length lc] u fun e w' => ∃ x, e = .returned x ∧ FrU u w' x (leavesW l)) := hid fun u k => rLeaves_any _ l u ((h.ext k).old k) hl hs
  have LB : Hid (∀ u g T, Ext w u → u.heap[g]? = some (.cells #[uv b.parent, .int .i64 b.height, uv b.miner, uv b.work, uv b.nonce, .slice ta b.txs.length tc] T (0, 0)) → Calls Tryz.prog 32 #[.slice (some ⟨g, 0, none⟩) 1 1] u fun e w' => ∃ x, e = .returned x ∧ FrU u w' x (leavesW [b])) := hid fun u g T k hg => rLeaves_any _ [b] u (RdBs.one hg (hb.ext k)) (by simp) fun c hc => by obtain rfl := List.mem_singleton.1 hc; exact hbs
  have LL : Hid ((leavesW l).length ≤ 100000 * l.length) := hid (leavesW_len hs)
  have LN : Hid ((leavesW [b]).length = outsN b.txs ∧ (leavesW [b]).length ≤ 100000) := hid (by
    have h1 : leavesW [b] = outsOf b := by simp [leavesW]
    have h2 := leavesW_len (l := [b]) fun c hc => by obtain rfl := List.mem_singleton.1 hc; exact hbs
    exact ⟨by rw [h1, outsOf_length], by simpa using h2⟩)
  have HS := hid hbs.t
  have hbI : (b.txs.length : Int) ≤ 100 := by have := hbs.n; omega
  have hlI : (l.length : Int) ≤ 1000 := by omega
  have h2d : 2 ^ d ≤ 2 ^ 12 := Nat.pow_le_pow_right (by omega) hd
  have hp2 : (2 : Int) ^ d = ((2 ^ d : Nat) : Int) := by push_cast; rfl
  obtain ⟨N, hN⟩ : ∃ N, N = w.heap.size := ⟨_, rfl⟩
  obtain ⟨w0, hw0⟩ : ∃ w0, w0 = w.alloc (.cells #[uv b.parent, .int .i64 b.height, uv b.miner, uv b.work, uv b.nonce, .slice ta b.txs.length tc] 75) := ⟨_, rfl⟩
  have hx0 : Ext w w0 := by rw [hw0]; exact (Ext.refl w).alloc _
  have hb0 : w0.heap[N]? = some (.cells #[uv b.parent, .int .i64 b.height, uv b.miner, uv b.work, uv b.nonce, .slice ta b.txs.length tc] 75 (0, 0)) := by rw [hw0, hN]; exact heap_new _ _
  have HB0 := hid hb0
  have HX0 := hid hx0
  have HW := hid hw0
  have HB := hid hb
  have HL := hid hl
  obtain ⟨R, hR⟩ : ∃ R, R = checkW d l b := ⟨_, rfl⟩
  have HR := hid hR
  rw [← hR]
  obtain ⟨T, hT⟩ : ∃ T : Nat, T = 2 ^ d := ⟨_, rfl⟩
  have HT := hid hT
  have hTI : T ≤ 4096 := by omega
  have HWR : Hid (IntKind.i64.wrap (2 ^ min d 64) = (T : Int) ∧ (2 : Int) ^ d = (T : Int)) := hid (by rw [Nat.min_eq_left (by omega), hp2, IntKind.wrap_i64, ← hT]; exact ⟨by omega, rfl⟩)
  have hd0 : (0 : Int) ≤ (d : Int) := Int.natCast_nonneg _
  have hdI : (d : Int) ≤ 12 := by omega
  have hdw : IntKind.u64.wrap (d : Int) = (d : Int) := by rw [IntKind.wrap_u64]; omega
  obtain ⟨c0, c1, c2, c3, c4, c5⟩ := six_cellsB hb0
  clear h hb hs hbs hl hp2 h2d hx0 hb0 hw0 hR hT hd
  go_enter Tryz.func62, Tryz.ntmps62
  go_upto_region 1 with fail
  rw [← HW.out, ← hN]
  clear hN HW
  by_cases hh : b.height = (l.length : Int) + 1
  case neg =>
    have hhB : decide (b.height = (l.length : Int) + 1) = false := decide_eq_false hh
    obtain rfl : R = 18 := by rw [HR.out]; unfold checkW fitsW; rw [if_neg hh]
    go_wp2_with fail
    go_ret
    exact ⟨rfl, HX0.out⟩
  have HHH := hid hh
  have hhB : decide (b.height = (l.length : Int) + 1) = true := decide_eq_true hh
  go_wp2_with fail
  clear hh hhB c0 c1 c2 c3 c4 c5
  go_loopw [7] (fun iv wr => ∃ i : Nat, i ≤ b.txs.length ∧ iv = .int .i64 i ∧ Hid ((∀ (j : Nat) (t : TxT), j < i → b.txs[j]? = some t → txV t = 0) ∧ Ext w0 wr)) (fun iv _ => b.txs.length - (intOf iv).toNat)
  case atStart => exact ⟨0, by omega, rfl, hid ⟨fun j t hj => by omega, Ext.refl w0⟩⟩
  case round =>
    obtain ⟨i, hi, rfl, HI⟩ := hrel
    have hi0 : (0 : Int) ≤ (i : Int) := Int.natCast_nonneg _
    obtain ⟨c0, c1, c2, c3, c4, c5⟩ := six_cellsB (HI.out.2.heap_some HB0.out)
    by_cases hlt : i < b.txs.length
    · have hltB : decide ((i : Int) < (b.txs.length : Int)) = true := by simp; omega
      have hil : (i : Int) < (b.txs.length : Int) := by omega
      obtain ⟨x, hxi⟩ : ∃ x, b.txs[i]? = some x := ⟨_, List.getElem?_eq_getElem hlt⟩
      obtain ⟨q, o, ma, mc, oa, oc, pa', pc', rfl, hrx, e0, e1, e2, e3, e4, e5, e6, e7, e8, e9⟩ := (HB.out.ext (HX0.out.trans HI.out.2)).at hxi
      have TV := hid (rTxValid_any x _ _ _ wr hrx (HS.out x (List.mem_of_getElem? hxi)))
      have HXI := hid hxi
      obtain ⟨V, hV⟩ : ∃ V, V = txV x := ⟨_, rfl⟩
      rw [← hV] at TV
      have HV := hid hV
      clear hxi hrx hV
      go_wp2_with fail
      refine (TV.out).mono ?_
      rintro e w2 ⟨rfl, hx⟩
      have X2 := hid (HI.out.2.trans hx)
      clear hx TV e0 e1 e2 e3 e4 e5 e6 e7 e8 e9 c0 c1 c2 c3 c4 c5
      by_cases hv : V = 0
      · subst hv
        have HN := hid (And.intro (fun (j : Nat) (t : TxT) (hj : j < i + 1) (ht : b.txs[j]? = some t) => show txV t = 0 from by
          by_cases hji : j = i
          · subst hji
            rw [HXI.out] at ht
            obtain rfl := Option.some.inj ht
            exact HV.out.symm
          · exact HI.out.1 j t (by omega) ht) X2.out)
        go_wp2_with fail
        go_roundw
        case rel => exact ⟨i + 1, by omega, by go_num, HN⟩
        case measure => simp [intOf]; omega
      · have hvB : decide (V = 0) = false := decide_eq_false hv
        obtain rfl : R = 1 := by
          rw [HR.out]
          unfold checkW fitsW
          rw [if_pos HHH.out, if_neg]
          intro h
          have := List.all_eq_true.1 h x (List.mem_of_getElem? HXI.out)
          rw [decide_eq_true_eq, ← HV.out] at this
          exact hv this
        go_wp2_with fail
        go_ret
        exact ⟨rfl, HX0.out.trans X2.out⟩
    · have hltB : decide ((i : Int) < (b.txs.length : Int)) = false := by simp; omega
      obtain rfl : i = b.txs.length := by omega
      have hall : (b.txs.all fun t => decide (txV t = 0)) = true := by
        rw [List.all_eq_true]
        intro t ht
        obtain ⟨j, hj, rfl⟩ := List.getElem_of_mem ht
        simpa using HI.out.1 j _ hj (List.getElem?_eq_getElem hj)
      obtain ⟨a, ha⟩ : ∃ a, a = (leavesW l).length := ⟨_, rfl⟩
      obtain ⟨c, hc⟩ : ∃ c, c = (leavesW [b]).length := ⟨_, rfl⟩
      have HRE : Hid (R = if T < a + c then 16 else 0) := hid (by
        rw [HR.out, ha, hc, LN.out.1]
        unfold checkW fitsW
        rw [if_pos HHH.out, if_pos hall, HT.out])
      have haI : (a : Int) ≤ 100000000 := by have := LL.out; have := HL.out; omega
      have hcI : (c : Int) ≤ 100000 := by have := LN.out.2; omega
      have ha0 : (0 : Int) ≤ (a : Int) := Int.natCast_nonneg _
      have hc0 : (0 : Int) ≤ (c : Int) := Int.natCast_nonneg _
      have XR := hid HI.out.2
      have HA := hid ha
      have HC := hid hc
      have HSV : Hid (∀ u, Ext wr u → (u.cell? ⟨N, 0, none⟩ = some (uv b.parent) ∧ u.cell? ⟨N, 1, none⟩ = some (.int .i64 b.height) ∧ u.cell? ⟨N, 2, none⟩ = some (uv b.miner) ∧ u.cell? ⟨N, 3, none⟩ = some (uv b.work) ∧ u.cell? ⟨N, 4, none⟩ = some (uv b.nonce) ∧ u.cell? ⟨N, 5, none⟩ = some (.slice ta b.txs.length tc)) ∧ Ext wr u) := hid fun u k => ⟨six_cellsB (k.heap_some (XR.out.heap_some HB0.out)), k⟩
      have hwr1 := HWR.out.1
      have hwr2 := HWR.out.2
      clear hall ha hc HI HR
      go_wp2_with fail
      clear c0 c1 c2 c3 c4 c5
      refine wp_region_N (fun u => (u.cell? ⟨N, 0, none⟩ = some (uv b.parent) ∧ u.cell? ⟨N, 1, none⟩ = some (.int .i64 b.height) ∧ u.cell? ⟨N, 2, none⟩ = some (uv b.miner) ∧ u.cell? ⟨N, 3, none⟩ = some (uv b.work) ∧ u.cell? ⟨N, 4, none⟩ = some (uv b.nonce) ∧ u.cell? ⟨N, 5, none⟩ = some (.slice ta b.txs.length tc)) ∧ Ext wr u) 11 12 (by kernel_rfl) (by kernel_rfl) ?_
      intro ops hops
      have HS0 := HSV.out _ (Ext.refl wr).drew
      refine N_take (i := 0) (v := ?_) (by rw [hops, List.getElem?_toArray]; rfl) (by rw [hops]; kernel_rfl) (by intro c a d v w h; cases d <;> exact h) (by first | rfl | (rw [hops]; rfl)) ?_ HS0 ?_
      rotate_left
      · intro v h; go_simp; with_reducible rfl
      simp only [Act.put, List.getElem_toArray, List.getElem_cons_zero, List.getElem_cons_succ, List.setIfInBounds_toArray, List.set_cons_zero, List.set_cons_succ]
      refine N_take (i := 3) (v := ?_) (by rw [hops, List.getElem?_toArray]; rfl) (by rw [hops]; kernel_rfl) (by intro c a d v w h; cases d <;> exact h) (by first | rfl | (rw [hops]; rfl)) ?_ HS0 ?_
      rotate_left
      · intro v h; go_simp; with_reducible rfl
      simp only [Act.put, List.getElem_toArray, List.getElem_cons_zero, List.getElem_cons_succ, List.setIfInBounds_toArray, List.set_cons_zero, List.set_cons_succ]
      refine N_take (i := 8) (v := ?_) (by rw [hops, List.getElem?_toArray]; rfl) (by rw [hops]; kernel_rfl) (by intro c a d v w h; cases d <;> exact h) (by first | rfl | (rw [hops]; rfl)) ?_ HS0 ?_
      rotate_left
      · intro v h; go_simp; with_reducible rfl
      simp only [Act.put, List.getElem_toArray, List.getElem_cons_zero, List.getElem_cons_succ, List.setIfInBounds_toArray, List.set_cons_zero, List.set_cons_succ]
      refine N_take (i := 9) (v := ?_) (by rw [hops, List.getElem?_toArray]; rfl) (by rw [hops]; kernel_rfl) (by intro c a d v w h; cases d <;> exact h) (by first | rfl | (rw [hops]; rfl)) ?_ HS0 ?_
      rotate_left
      · intro v h; go_simp; with_reducible rfl
      simp only [Act.put, List.getElem_toArray, List.getElem_cons_zero, List.getElem_cons_succ, List.setIfInBounds_toArray, List.set_cons_zero, List.set_cons_succ]
      refine N_take (i := 10) (v := ?_) (by rw [hops, List.getElem?_toArray]; rfl) (by rw [hops]; kernel_rfl) (by intro c a d v w h; cases d <;> exact h) (by first | rfl | (rw [hops]; rfl)) ?_ HS0 ?_
      rotate_left
      · intro v h; go_simp; with_reducible rfl
      simp only [Act.put, List.getElem_toArray, List.getElem_cons_zero, List.getElem_cons_succ, List.setIfInBounds_toArray, List.set_cons_zero, List.set_cons_succ]
      refine N_two (i := 1) (k := 4) (by rw [hops]; rfl) (by rw [hops, List.getElem?_toArray]; rfl) (by rw [hops]; kernel_rfl) (by first | rfl | (rw [hops]; rfl)) (by first | rfl | (rw [hops]; rfl)) ?_ ?_
      · intro K hK
        go_wp2_with fail
        refine (LV.out _ (HX0.out.trans (XR.out.trans HS0.2))).mono ?_
        rintro e v1 ⟨x1, rfl, hf1⟩
        obtain ⟨xa, xc, rfl, -⟩ := ownsRow_rd hf1.1
        rw [← HA.out]
        have HS1 := HSV.out v1 (HS0.2.trans hf1.2.1)
        clear hf1 HS0
        refine hK _ _ ⟨fun _ => HS1, ?_⟩
        clear hK K
        refine N_take (i := 2) (v := ?_) (by rw [hops, List.getElem?_toArray]; rfl) (by rw [hops]; kernel_rfl) (by intro c a d v w h; cases d <;> exact h) (by first | rfl | (rw [hops]; rfl)) ?_ HS1 ?_
        rotate_left
        · intro v h; go_simp; with_reducible rfl
        simp only [Act.put, List.getElem_toArray, List.getElem_cons_zero, List.getElem_cons_succ, List.setIfInBounds_toArray, List.set_cons_zero, List.set_cons_succ]
        have hbb := heap_new v1 (.cells #[uv b.parent, .int .i64 b.height, uv b.miner, uv b.work, uv b.nonce, .slice ta b.txs.length tc] 75)
        have HS2 := HSV.out _ (HS1.2.alloc (.cells #[uv b.parent, .int .i64 b.height, uv b.miner, uv b.work, uv b.nonce, .slice ta b.txs.length tc] 75))
        refine N_one (i := 4) (by rw [hops, List.getElem?_toArray]; rfl) (by rw [hops]; kernel_rfl) (by first | rfl | (rw [hops]; rfl)) ?_
        intro K hK
        go_wp2_with fail
        refine ⟨fun _ => HS2, ?_⟩
        try rw [← hops]
        refine N_one (i := 5) (by rw [hops, List.getElem?_toArray]; rfl) (by rw [hops]; kernel_rfl) (by first | rfl | (rw [hops]; rfl)) ?_
        intro K hK
        go_wp2_with fail
        refine (LB.out _ _ _ (HX0.out.trans (XR.out.trans HS2.2)) hbb).mono ?_
        rintro e v3 ⟨x3, rfl, hf3⟩
        obtain ⟨ya, yc, rfl, -⟩ := ownsRow_rd hf3.1
        rw [← HC.out]
        have XF := hid (HX0.out.trans (XR.out.trans (HS2.2.trans hf3.2.1)))
        have HS3 := HSV.out v3 (HS2.2.trans hf3.2.1)
        clear hf3 HS1 HS2 hbb
        refine hK _ _ ⟨fun _ => HS3, ?_⟩
        clear hK K
        refine N_take (i := 6) (v := ?_) (by rw [hops, List.getElem?_toArray]; rfl) (by rw [hops]; kernel_rfl) (by intro c a d v w h; cases d <;> exact h) (by first | rfl | (rw [hops]; rfl)) ?_ HS3 ?_
        rotate_left
        · intro v h; go_simp; with_reducible rfl
        simp only [Act.put, List.getElem_toArray, List.getElem_cons_zero, List.getElem_cons_succ, List.setIfInBounds_toArray, List.set_cons_zero, List.set_cons_succ]
        refine N_take (i := 7) (v := ?_) (by rw [hops, List.getElem?_toArray]; rfl) (by rw [hops]; kernel_rfl) (by intro c a d v w h; cases d <;> exact h) (by first | rfl | (rw [hops]; rfl)) ?_ HS3 ?_
        rotate_left
        · intro v h; go_simp; with_reducible rfl
        simp only [Act.put, List.getElem_toArray, List.getElem_cons_zero, List.getElem_cons_succ, List.setIfInBounds_toArray, List.set_cons_zero, List.set_cons_succ]
        clear HS3
        refine N_one (i := 11) (by rw [hops, List.getElem?_toArray]; rfl) (by rw [hops]; kernel_rfl) (by first | rfl | (rw [hops]; rfl)) ?_
        intro K hK
        go_wp2_with fail
        refine ⟨fun h => absurd h (by decide), ?_⟩
        try rw [← hops]
        refine N_done (by rw [hops]; kernel_rfl) ?_
        clear hops ops
        by_cases hfull : T < a + c
        · have hfB : decide ((T : Int) < (a : Int) + (c : Int)) = true := decide_eq_true (by omega)
          have hfB2 : decide (T < a + c) = true := decide_eq_true hfull
          obtain rfl : R = 16 := by rw [HRE.out, if_pos hfull]
          go_wp2_with fail
          go_ret
          exact ⟨rfl, XF.out⟩
        · have hfB : decide ((T : Int) < (a : Int) + (c : Int)) = false := decide_eq_false (by omega)
          have hfB2 : decide (T < a + c) = false := decide_eq_false hfull
          obtain rfl : R = 0 := by rw [HRE.out, if_neg hfull]
          go_wp2_with fail
          go_ret
          exact ⟨rfl, XF.out⟩
      · intro K hK
        go_wp2_with fail
        have hbb := heap_new wr.drew (.cells #[uv b.parent, .int .i64 b.height, uv b.miner, uv b.work, uv b.nonce, .slice ta b.txs.length tc] 75)
        have HS2 := HSV.out _ (HS0.2.alloc (.cells #[uv b.parent, .int .i64 b.height, uv b.miner, uv b.work, uv b.nonce, .slice ta b.txs.length tc] 75))
        refine ⟨fun _ => HS2, ?_⟩
        try rw [← hops]
        refine N_one (i := 1) (by rw [hops, List.getElem?_toArray]; rfl) (by rw [hops]; kernel_rfl) (by first | rfl | (rw [hops]; rfl)) ?_
        intro K hK
        go_wp2_with fail
        refine (LV.out _ (HX0.out.trans (XR.out.trans HS2.2))).mono ?_
        rintro e v1 ⟨x1, rfl, hf1⟩
        obtain ⟨xa, xc, rfl, -⟩ := ownsRow_rd hf1.1
        rw [← HA.out]
        have HS1 := HSV.out v1 (HS2.2.trans hf1.2.1)
        have hb1 := hf1.2.1.heap_some hbb
        clear hf1 HS0 HS2 hbb
        refine hK _ _ ⟨fun _ => HS1, ?_⟩
        clear hK K
        refine N_take (i := 2) (v := ?_) (by rw [hops, List.getElem?_toArray]; rfl) (by rw [hops]; kernel_rfl) (by intro c a d v w h; cases d <;> exact h) (by first | rfl | (rw [hops]; rfl)) ?_ HS1 ?_
        rotate_left
        · intro v h; go_simp; with_reducible rfl
        simp only [Act.put, List.getElem_toArray, List.getElem_cons_zero, List.getElem_cons_succ, List.setIfInBounds_toArray, List.set_cons_zero, List.set_cons_succ]
        refine N_one (i := 5) (by rw [hops, List.getElem?_toArray]; rfl) (by rw [hops]; kernel_rfl) (by first | rfl | (rw [hops]; rfl)) ?_
        intro K hK
        go_wp2_with fail
        refine (LB.out _ _ _ (HX0.out.trans (XR.out.trans HS1.2)) hb1).mono ?_
        rintro e v3 ⟨x3, rfl, hf3⟩
        obtain ⟨ya, yc, rfl, -⟩ := ownsRow_rd hf3.1
        rw [← HC.out]
        have XF := hid (HX0.out.trans (XR.out.trans (HS1.2.trans hf3.2.1)))
        have HS3 := HSV.out v3 (HS1.2.trans hf3.2.1)
        clear hf3 HS1 hb1
        refine hK _ _ ⟨fun _ => HS3, ?_⟩
        clear hK K
        refine N_take (i := 6) (v := ?_) (by rw [hops, List.getElem?_toArray]; rfl) (by rw [hops]; kernel_rfl) (by intro c a d v w h; cases d <;> exact h) (by first | rfl | (rw [hops]; rfl)) ?_ HS3 ?_
        rotate_left
        · intro v h; go_simp; with_reducible rfl
        simp only [Act.put, List.getElem_toArray, List.getElem_cons_zero, List.getElem_cons_succ, List.setIfInBounds_toArray, List.set_cons_zero, List.set_cons_succ]
        refine N_take (i := 7) (v := ?_) (by rw [hops, List.getElem?_toArray]; rfl) (by rw [hops]; kernel_rfl) (by intro c a d v w h; cases d <;> exact h) (by first | rfl | (rw [hops]; rfl)) ?_ HS3 ?_
        rotate_left
        · intro v h; go_simp; with_reducible rfl
        simp only [Act.put, List.getElem_toArray, List.getElem_cons_zero, List.getElem_cons_succ, List.setIfInBounds_toArray, List.set_cons_zero, List.set_cons_succ]
        clear HS3
        refine N_one (i := 11) (by rw [hops, List.getElem?_toArray]; rfl) (by rw [hops]; kernel_rfl) (by first | rfl | (rw [hops]; rfl)) ?_
        intro K hK
        go_wp2_with fail
        refine ⟨fun h => absurd h (by decide), ?_⟩
        try rw [← hops]
        refine N_done (by rw [hops]; kernel_rfl) ?_
        clear hops ops
        by_cases hfull : T < a + c
        · have hfB : decide ((T : Int) < (a : Int) + (c : Int)) = true := decide_eq_true (by omega)
          have hfB2 : decide (T < a + c) = true := decide_eq_true hfull
          obtain rfl : R = 16 := by rw [HRE.out, if_pos hfull]
          go_wp2_with fail
          go_ret
          exact ⟨rfl, XF.out⟩
        · have hfB : decide ((T : Int) < (a : Int) + (c : Int)) = false := decide_eq_false (by omega)
          have hfB2 : decide (T < a + c) = false := decide_eq_false hfull
          obtain rfl : R = 0 := by rw [HRE.out, if_neg hfull]
          go_wp2_with fail
          go_ret
          exact ⟨rfl, XF.out⟩
end Go.Proofs.YtcikjcjfcanloaaGreat
