/- Texts of this claim, joined: L51a, OpenB, OpenQ, Open51, L51b. -/
import Derived.Deep.Slices
import Derived.ProofKit
import Derived.Lib.SmallJoins
import Derived.Deep.Strs
import Derived.Test.YtcikjcjfcanloaaGreatJr8
import Derived.Test.YtcikjcjfcanloaaGreatJr15
import Derived.Test.YtcikjcjfcanloaaGreatJr16
import Derived.Test.YtcikjcjfcanloaaGreatJr22
import Derived.Test.YtcikjcjfcanloaaGreatJr23
set_option linter.unusedSimpArgs false
namespace Go.Proofs.YtcikjcjfcanloaaGreat
open Go.RowKit
attribute [local irreducible] perm fAdd fMul fPow fSub fNeg fRed hashU drawOf nextState
def errTB (c : List BlkT → BlkT → Int) (l : List BlkT) : Nat → Int
  | 0 => 0
  | i + 1 => if errTB c l i = 0 then (match l[i]? with | some b => c (l.take i) b | none => 0) else errTB c l i
def errB (c : List BlkT → BlkT → Int) (l : List BlkT) : Int := errTB c l l.length
def okB (c : List BlkT → BlkT → Int) (l : List BlkT) : Prop := ∀ i b, l[i]? = some b → c (l.take i) b = 0
theorem errTB_ok {c : List BlkT → BlkT → Int} {l : List BlkT} : ∀ (i : Nat), (∀ j b, j < i → l[j]? = some b → c (l.take j) b = 0) → errTB c l i = 0
  | 0, _ => rfl
  | i + 1, h => by
    unfold errTB
    rw [if_pos (errTB_ok i fun j b hj hb => h j b (by omega) hb)]
    cases hb : l[i]? with
    | none => rfl
    | some b => exact h i b (by omega) hb
theorem errTB_stay {c : List BlkT → BlkT → Int} {l : List BlkT} {i : Nat} (h : errTB c l i ≠ 0) : ∀ k, errTB c l (i + k) = errTB c l i
  | 0 => rfl
  | k + 1 => by
    have ih := errTB_stay h k
    show (if errTB c l (i + k) = 0 then (match l[i + k]? with | some b => c (l.take (i + k)) b | none => 0) else errTB c l (i + k)) = _
    rw [if_neg (by rw [ih]; exact h), ih]
theorem errB_ok {c : List BlkT → BlkT → Int} {l : List BlkT} (h : okB c l) : errB c l = 0 := errTB_ok _ fun j b _ hb => h j b hb
theorem errB_bad {c : List BlkT → BlkT → Int} {l : List BlkT} {i : Nat} {b : BlkT} (h0 : okB c (l.take i)) (hb : l[i]? = some b) (hc : c (l.take i) b ≠ 0) : errB c l = c (l.take i) b := by
  have hi := (List.getElem?_eq_some_iff.1 hb).1
  have h1 : errTB c l (i + 1) = c (l.take i) b := by
    unfold errTB
    rw [if_pos (errTB_ok i fun j x hj hxj => ?_), hb]
    have := h0 j x (by rw [List.getElem?_take_of_lt hj]; exact hxj)
    rwa [List.take_take, Nat.min_eq_left (by omega)] at this
  have h2 := errTB_stay (c := c) (l := l) (i := i + 1) (by rw [h1]; exact hc) (l.length - (i + 1))
  unfold errB
  rw [show l.length = i + 1 + (l.length - (i + 1)) by omega, h2, h1]
theorem okB_nil (c : List BlkT → BlkT → Int) (l : List BlkT) : okB c (l.take 0) := fun i b h => by rw [List.take_zero] at h; simp at h
theorem okB_snocT {c : List BlkT → BlkT → Int} {l : List BlkT} {i : Nat} {b : BlkT} (h : okB c (l.take i)) (hb : l[i]? = some b) (hc : c (l.take i) b = 0) : okB c (l.take (i + 1)) := by
  intro j x hj
  have hi := (List.getElem?_eq_some_iff.1 hb).1
  have hji : j < i + 1 := by
    have := (List.getElem?_eq_some_iff.1 hj).1
    rw [List.length_take] at this
    omega
  rw [List.getElem?_take_of_lt hji] at hj
  rw [List.take_take, Nat.min_eq_left (by omega)]
  by_cases e : j = i
  · subst e
    rw [hb] at hj
    obtain rfl := Option.some.inj hj
    exact hc
  · have := h j x (by rw [List.getElem?_take_of_lt (by omega)]; exact hj)
    rwa [List.take_take, Nat.min_eq_left (by omega)] at this
theorem errTB_W (d : Nat) (l : List BlkT) : ∀ i, errTB (checkW d) l i = errTo d l i
  | 0 => rfl
  | i + 1 => by unfold errTB errTo; rw [errTB_W d l i]; cases l[i]? <;> rfl
theorem errB_W (d : Nat) (l : List BlkT) : errB (checkW d) l = errW d l := errTB_W d l _
theorem leavesW_sub {l : List BlkT} (i : Nat) : (leavesW (l.take i)).length ≤ (leavesW l).length := by
  have h : leavesW l = leavesW (l.take i) ++ leavesW (l.drop i) := by
    conv => lhs; rw [← List.take_append_drop i l]
    unfold leavesW
    rw [List.flatMap_append]
  rw [h, List.length_append]
  omega
theorem leavesW_at {l : List BlkT} {i : Nat} {b : BlkT} (h : l[i]? = some b) : outsN b.txs ≤ (leavesW l).length := by
  have h1 := leavesW_sub (l := l) (i + 1)
  rw [List.take_add_one, h] at h1
  unfold leavesW at h1 ⊢
  rw [List.flatMap_append, List.length_append] at h1
  have h2 : ((some b).toList.flatMap outsOf).length = outsN b.txs := by
    show (List.flatMap outsOf [b]).length = _
    rw [List.flatMap_cons, List.flatMap_nil, List.append_nil, outsOf_length]
  omega
set_option maxRecDepth 100000 in
set_option maxHeartbeats 12800000 in
theorem rErr51G_any (d : Int) (v : Value) (l : List BlkT) (w : World) (hr : RdBs w w v l) (hl : l.length ≤ 10000000000) (hs : ∀ b ∈ l, BWd b) (hM : (leavesW l).length ≤ 1000000000) :
    Calls Tryz.prog 47 #[.int .i64 d, v] w fun e w' => e = .returned (.int .i64 (errB (checkT (shl1 d)) l)) ∧ Ext w w' := by
  obtain ⟨la, lc, rfl, hlc, hlc2⟩ := hr.shape
  have HRD := hid hr
  have HS := hid hs
  have HLL := hid hl
  have HM := hid hM
  obtain ⟨ck, hck⟩ : ∃ ck, ck = checkT (shl1 d) := ⟨_, rfl⟩
  rw [← hck]
  have HCKD := hid hck
  obtain ⟨R, hR⟩ : ∃ R, R = errB ck l := ⟨_, rfl⟩
  rw [← hR]
  have HR := hid hR
  have hlI : (l.length : Int) ≤ 10000000000 := by omega
  have hlcI : (l.length : Int) ≤ (lc : Int) := by omega
  have HLC := hid hlc2
  clear hr hs hR hlc2 hM hck
  go_enter Tryz.func47, Tryz.ntmps47
  go_wp2_with fail
  go_loopw [5] (fun iv wr => ∃ i : Nat, i ≤ l.length ∧ iv = .int .i64 i ∧ Hid (okB ck (l.take i) ∧ Ext w wr)) (fun iv _ => l.length - (intOf iv).toNat)
  case atStart => exact ⟨0, by omega, rfl, hid ⟨okB_nil ck l, Ext.refl w⟩⟩
  case round =>
    obtain ⟨i, hi, rfl, HI⟩ := hrel
    have hi0 : (0 : Int) ≤ (i : Int) := Int.natCast_nonneg _
    by_cases hlt : i < l.length
    case neg =>
      have hltB : decide ((i : Int) < (l.length : Int)) = false := decide_eq_false (by omega)
      obtain rfl : i = l.length := by omega
      rw [List.take_length] at HI
      obtain rfl : R = 0 := by rw [HR.out]; exact errB_ok HI.out.1
      go_wp2_with fail
      go_ret
      exact ⟨rfl, HI.out.2⟩
    have hltB : decide ((i : Int) < (l.length : Int)) = true := decide_eq_true (by omega)
    have hil : (i : Int) < (l.length : Int) := by omega
    obtain ⟨x, hxi⟩ : ∃ x, l[i]? = some x := ⟨_, List.getElem?_eq_getElem hlt⟩
    obtain ⟨q, o, ta, tc, rfl, htx, e0, e1, e2, e3, e4, e5⟩ := HRD.out.at hxi
    have HXI := hid hxi
    have HBX := hid (HS.out x (List.mem_of_getElem? hxi))
    have HSV : Hid (∀ u, Ext w u → (u.cell? ⟨q, o + i * 6, none⟩ = some (uv x.parent) ∧ u.cell? ⟨q, o + i * 6 + 1, none⟩ = some (.int .i64 x.height) ∧ u.cell? ⟨q, o + i * 6 + 2, none⟩ = some (uv x.miner) ∧ u.cell? ⟨q, o + i * 6 + 3, none⟩ = some (uv x.work) ∧ u.cell? ⟨q, o + i * 6 + 4, none⟩ = some (uv x.nonce) ∧ u.cell? ⟨q, o + i * 6 + 5, none⟩ = some (.slice ta x.txs.length tc)) ∧ Ext w u) := hid fun u k => ⟨⟨k.cell_some e0, k.cell_some e1, k.cell_some e2, k.cell_some e3, k.cell_some e4, k.cell_some e5⟩, k⟩
    have hilc : i ≤ lc := by omega
    have CK : Hid (∀ u, Ext w u → Calls Tryz.prog 62 #[.int .i64 d, .slice (some ⟨q, o, none⟩) i lc, blkVal x (.slice ta x.txs.length tc)] u fun e w' => e = .returned (.int .i64 (ck (l.take i) x)) ∧ Ext u w') := hid fun u k => by
      have := rCheckG_any d _ (l.take i) x _ u (((HRD.out.ext k).old k).take (by omega) hilc HLC.out (fun e => by cases e)) (by rw [List.length_take]; have := HLL.out; omega) (fun b hb => HS.out b (List.mem_of_mem_take hb)) (Nat.le_trans (leavesW_sub i) HM.out) (htx.ext k) HBX.out (Nat.le_trans (leavesW_at HXI.out) HM.out)
      rwa [← HCKD.out] at this
    obtain ⟨C, hC⟩ : ∃ C, C = ck (l.take i) x := ⟨_, rfl⟩
    rw [← hC] at CK
    have HCK := hid hC
    have HS0 := HSV.out _ (HI.out.2.trans (Ext.refl wr).drew)
    have hilcI : (i : Int) ≤ (lc : Int) := by omega
    clear hxi htx e0 e1 e2 e3 e4 e5 hC hilc
    go_wp2_with fail
    refine wp_region_T (fun u => (u.cell? ⟨q, o + i * 6, none⟩ = some (uv x.parent) ∧ u.cell? ⟨q, o + i * 6 + 1, none⟩ = some (.int .i64 x.height) ∧ u.cell? ⟨q, o + i * 6 + 2, none⟩ = some (uv x.miner) ∧ u.cell? ⟨q, o + i * 6 + 3, none⟩ = some (uv x.work) ∧ u.cell? ⟨q, o + i * 6 + 4, none⟩ = some (uv x.nonce) ∧ u.cell? ⟨q, o + i * 6 + 5, none⟩ = some (.slice ta x.txs.length tc)) ∧ Ext w u) 8 [(0, true), (1, true), (2, true), (4, true), (5, true), (6, true), (7, true), (3, false), (8, false), (9, false)] (by kernel_rfl) (by kernel_rfl) (by intro c a d v w h; cases d <;> exact h) ?_
    intro ops hops
    iterate 7
      refine wpT_take (v := ?_) (by rw [hops, List.getElem?_toArray]; rfl) (by first | rfl | (rw [hops]; rfl)) ?_ HS0 ?_
      rotate_left
      · intro v h; go_simp; with_reducible rfl
      simp only [Act.put, List.getElem_toArray, List.getElem_cons_zero, List.getElem_cons_succ, List.setIfInBounds_toArray, List.set_cons_zero, List.set_cons_succ]
    refine wpT_step (by rw [hops, List.getElem?_toArray]; rfl) (by first | rfl | (rw [hops]; rfl)) ?_
    intro K hK
    go_wp2_with fail
    refine ⟨fun _ => HS0, ?_⟩
    try rw [← hops]
    refine wpT_step (by rw [hops, List.getElem?_toArray]; rfl) (by first | rfl | (rw [hops]; rfl)) ?_
    intro K hK
    go_wp2_with fail
    refine (CK.out _ HS0.2).mono ?_
    rintro e w3 ⟨rfl, hx⟩
    have X3 := hid (HS0.2.trans hx)
    clear hx HS0 CK
    refine hK _ _ ⟨fun h => absurd h (by decide), ?_⟩
    clear hK K
    refine wpT_step (by rw [hops, List.getElem?_toArray]; rfl) (by first | rfl | (rw [hops]; rfl)) ?_
    intro K hK
    go_wp2_with fail
    try (with_reducible refine ⟨fun h => absurd h (by decide), ?_⟩)
    try rw [wpT_nil]
    try clear hops ops
    by_cases hz : C = 0
    · subst hz
      have HN := hid (And.intro (okB_snocT HI.out.1 HXI.out HCK.out.symm) X3.out)
      go_wp2_with fail
      go_roundw
      case rel => exact ⟨i + 1, by omega, by go_num, HN⟩
      case measure => simp [intOf]; omega
    · have hzB : decide (C = 0) = false := decide_eq_false hz
      have hzB2 : (C == 0) = false := by rw [beq_eq_false_iff_ne]; exact hz
      obtain rfl : R = C := by rw [HR.out]; exact (errB_bad HI.out.1 HXI.out (by rw [← HCK.out]; exact hz)).trans HCK.out.symm
      clear hz
      go_wp2_with fail
      go_ret
      exact ⟨rfl, X3.out⟩
theorem rErr51_any (d : Nat) (h12 : d ≤ 12) (v : Value) (l : List BlkT) (w : World) (hr : RdBs w w v l) (hl : l.length ≤ 1000) (hs : ∀ b ∈ l, BSm b) :
    Calls Tryz.prog 47 #[.int .i64 (d : Int), v] w fun e w' => e = .returned (.int .i64 (errW d l)) ∧ Ext w w' := by
  have h := rErr51G_any (d : Int) v l w hr (by omega) (fun b hb => (hs b hb).wide) (by have := leavesW_len hs; omega)
  rwa [show checkT (shl1 (d : Int)) = checkW d from funext fun l => funext fun b => checkT_nat (by omega) l b, errB_W] at h
set_option maxRecDepth 100000 in
set_option maxHeartbeats 12800000 in
theorem is51_any {w : World} {W d : Nat} {seed : UInt64} {l : List BlkT} {G : Nat → Prop} (h : WalAt w W d (fRed seed) l G) (hok : okAll d l) (lv : Value) (hr : RdBs w w lv l) (hl : l.length ≤ 1000) (hs : ∀ b ∈ l, BSm b) :
    Calls Tryz.prog 48 #[.pointer (some ⟨W, 0, none⟩), uv seed, lv] w fun e w' => e = .returned (.bool true) ∧ Ext w w' := by
  obtain ⟨la, lc, rfl, -⟩ := hr.shape
  have hd := depth_le h
  have hLn : (stW seed l).leaves.length ≤ 10000 := by
    have h2 := fitsAll_stW ((okAll_fits (seed := seed)).2 hok)
    have h3 := pow12 hd
    omega
  have hv := okAll_valid hok
  have HT : Hid (∀ u, Ext w u → Calls Tryz.prog 29 #[.pointer (some ⟨W, 0, none⟩)] u fun e w' => e = .returned (.int .i64 (l.length : Int)) ∧ Ext u w') := hid fun u k => wHeight_any (h.ext k)
  have ENC : Hid (∀ u, Ext w u → Calls Tryz.prog 39 #[.pointer (some ⟨W, 0, none⟩)] u (NewB u (walB l.length (stW seed l).leaves (stW seed l).notes))) := hid fun u k => by
    have := wEncode_any (h.ext k) hok
    rw [stW_red] at this
    exact this
  have REF : Hid (∀ u, Ext w u → Calls Tryz.prog 40 #[uv seed, .slice la l.length lc] u (NewB u (walB l.length (stW seed l).leaves (stW seed l).notes))) := hid fun u k => rEncodeW_any seed _ l u ((hr.ext k).old k) hl hs hv hLn
  generalize walB l.length (stW seed l).leaves (stW seed l).notes = BY at *
  have hlI : (l.length : Int) ≤ 1000 := by omega
  clear h hok hr hs hd hLn hv hl
  go_enter Tryz.func48, Tryz.ntmps48
  go_wp2_with fail
  refine wp_region_N (fun u => Ext w u) 13 16 (by kernel_rfl) (by kernel_rfl) ?_
  intro ops hops
  have HS9 : Ext w w.drew := (Ext.refl w).drew
  refine N_take (i := 0) (v := ?_) (by rw [hops, List.getElem?_toArray]; rfl) (by rw [hops]; kernel_rfl) (by intro c a d v w h; cases d <;> exact h) (by first | rfl | (rw [hops]; rfl)) ?_ HS9 ?_
  rotate_left
  · intro v h; go_simp; with_reducible rfl
  simp only [Act.put, List.getElem_toArray, List.getElem_cons_zero, List.getElem_cons_succ, List.setIfInBounds_toArray, List.set_cons_zero, List.set_cons_succ]
  refine N_take (i := 2) (v := ?_) (by rw [hops, List.getElem?_toArray]; rfl) (by rw [hops]; kernel_rfl) (by intro c a d v w h; cases d <;> exact h) (by first | rfl | (rw [hops]; rfl)) ?_ HS9 ?_
  rotate_left
  · intro v h; go_simp; with_reducible rfl
  simp only [Act.put, List.getElem_toArray, List.getElem_cons_zero, List.getElem_cons_succ, List.setIfInBounds_toArray, List.set_cons_zero, List.set_cons_succ]
  refine N_take (i := 3) (v := ?_) (by rw [hops, List.getElem?_toArray]; rfl) (by rw [hops]; kernel_rfl) (by intro c a d v w h; cases d <;> exact h) (by first | rfl | (rw [hops]; rfl)) ?_ HS9 ?_
  rotate_left
  · intro v h; go_simp; with_reducible rfl
  simp only [Act.put, List.getElem_toArray, List.getElem_cons_zero, List.getElem_cons_succ, List.setIfInBounds_toArray, List.set_cons_zero, List.set_cons_succ]
  refine N_one (i := 1) (by rw [hops, List.getElem?_toArray]; rfl) (by rw [hops]; kernel_rfl) (by first | rfl | (rw [hops]; rfl)) ?_
  intro K hK
  go_wp2_with fail
  refine (HT.out _ HS9).mono ?_
  rintro e y0 ⟨rfl, hx⟩
  have HS0 : Ext w y0 := HS9.trans hx
  clear hx HS9 HT
  refine hK _ _ ⟨fun _ => HS0, ?_⟩
  clear hK K
  refine N_take (i := 4) (v := ?_) (by rw [hops, List.getElem?_toArray]; rfl) (by rw [hops]; kernel_rfl) (by intro c a d v w h; cases d <;> exact h) (by first | rfl | (rw [hops]; rfl)) ?_ HS0 ?_
  rotate_left
  · intro v h; go_simp; with_reducible rfl
  simp only [Act.put, List.getElem_toArray, List.getElem_cons_zero, List.getElem_cons_succ, List.setIfInBounds_toArray, List.set_cons_zero, List.set_cons_succ]
  refine N_take (i := 5) (v := ?_) (by rw [hops, List.getElem?_toArray]; rfl) (by rw [hops]; kernel_rfl) (by intro c a d v w h; cases d <;> exact h) (by first | rfl | (rw [hops]; rfl)) ?_ HS0 ?_
  rotate_left
  · intro v h; go_simp; with_reducible rfl
  simp only [Act.put, List.getElem_toArray, List.getElem_cons_zero, List.getElem_cons_succ, List.setIfInBounds_toArray, List.set_cons_zero, List.set_cons_succ]
  refine N_take (i := 6) (v := ?_) (by rw [hops, List.getElem?_toArray]; rfl) (by rw [hops]; kernel_rfl) (by intro c a d v w h; cases d <;> exact h) (by first | rfl | (rw [hops]; rfl)) ?_ HS0 ?_
  rotate_left
  · intro v h; go_simp; with_reducible rfl
  simp only [Act.put, List.getElem_toArray, List.getElem_cons_zero, List.getElem_cons_succ, List.setIfInBounds_toArray, List.set_cons_zero, List.set_cons_succ]
  refine N_take (i := 9) (v := ?_) (by rw [hops, List.getElem?_toArray]; rfl) (by rw [hops]; kernel_rfl) (by intro c a d v w h; cases d <;> exact h) (by first | rfl | (rw [hops]; rfl)) ?_ HS0 ?_
  rotate_left
  · intro v h; go_simp; with_reducible rfl
  simp only [Act.put, List.getElem_toArray, List.getElem_cons_zero, List.getElem_cons_succ, List.setIfInBounds_toArray, List.set_cons_zero, List.set_cons_succ]
  refine N_take (i := 10) (v := ?_) (by rw [hops, List.getElem?_toArray]; rfl) (by rw [hops]; kernel_rfl) (by intro c a d v w h; cases d <;> exact h) (by first | rfl | (rw [hops]; rfl)) ?_ HS0 ?_
  rotate_left
  · intro v h; go_simp; with_reducible rfl
  simp only [Act.put, List.getElem_toArray, List.getElem_cons_zero, List.getElem_cons_succ, List.setIfInBounds_toArray, List.set_cons_zero, List.set_cons_succ]
  refine N_one (i := 7) (by rw [hops, List.getElem?_toArray]; rfl) (by rw [hops]; kernel_rfl) (by first | rfl | (rw [hops]; rfl)) ?_
  intro K hK
  go_wp2_with fail
  refine (ENC.out _ HS0).mono ?_
  rintro e y1 ⟨v1, rfl, ho1, hx1, -⟩
  have HS1 : Ext w y1 := HS0.trans hx1
  have O1 := hid ho1
  clear ho1 hx1 HS0 ENC
  refine hK _ _ ⟨fun _ => HS1, ?_⟩
  clear hK K
  refine N_two (i := 8) (k := 11) (by rw [hops]; rfl) (by rw [hops, List.getElem?_toArray]; rfl) (by rw [hops]; kernel_rfl) (by first | rfl | (rw [hops]; rfl)) (by first | rfl | (rw [hops]; rfl)) ?_ ?_
  · have hcv := run_str y1 _ _ O1.out
    intro K hK
    go_wp2_with fail
    clear hcv
    refine ⟨fun _ => HS1, ?_⟩
    try rw [← hops]
    refine N_one (i := 11) (by rw [hops, List.getElem?_toArray]; rfl) (by rw [hops]; kernel_rfl) (by first | rfl | (rw [hops]; rfl)) ?_
    intro K hK
    go_wp2_with fail
    refine (REF.out _ HS1).mono ?_
    rintro e y2 ⟨v2, rfl, ho2, hx2, -⟩
    have HS2 : Ext w y2 := HS1.trans hx2
    have hcv := run_str y2 _ _ ho2
    have HXE := hid HS2
    clear ho2 hx2 HS1 REF
    refine hK _ _ ⟨fun _ => HS2, ?_⟩
    clear hK K
    refine N_one (i := 12) (by rw [hops, List.getElem?_toArray]; rfl) (by rw [hops]; kernel_rfl) (by first | rfl | (rw [hops]; rfl)) ?_
    intro K hK
    go_wp2_with fail
    refine ⟨fun _ => HS2, ?_⟩
    try rw [← hops]
    clear hcv HS2
    refine N_one (i := 13) (by rw [hops, List.getElem?_toArray]; rfl) (by rw [hops]; kernel_rfl) (by first | rfl | (rw [hops]; rfl)) ?_
    intro K hK
    go_wp2_with fail
    refine ⟨fun h => absurd h (by decide), ?_⟩
    try rw [← hops]
    refine N_one (i := 14) (by rw [hops, List.getElem?_toArray]; rfl) (by rw [hops]; kernel_rfl) (by first | rfl | (rw [hops]; rfl)) ?_
    intro K hK
    go_wp2_with fail
    refine ⟨fun h => absurd h (by decide), ?_⟩
    try rw [← hops]
    refine N_one (i := 15) (by rw [hops, List.getElem?_toArray]; rfl) (by rw [hops]; kernel_rfl) (by first | rfl | (rw [hops]; rfl)) ?_
    intro K hK
    go_wp2_with fail
    refine ⟨fun h => absurd h (by decide), ?_⟩
    try rw [← hops]
    refine N_done (by rw [hops]; kernel_rfl) ?_
    clear hops ops
    go_wp2_with fail
    go_ret
    exact ⟨rfl, HXE.out⟩
  · intro K hK
    go_wp2_with fail
    refine (REF.out _ HS1).mono ?_
    rintro e y2 ⟨v2, rfl, ho2, hx2, -⟩
    have HS2 : Ext w y2 := HS1.trans hx2
    have HXE := hid HS2
    have hcv := run_str y2 _ _ (ownsRow_ext O1.out hx2)
    have hcv2 := run_str y2 _ _ ho2
    clear ho2 hx2 HS1 REF
    refine hK _ _ ⟨fun _ => HS2, ?_⟩
    clear hK K
    refine N_two (i := 8) (k := 12) (by rw [hops]; rfl) (by rw [hops, List.getElem?_toArray]; rfl) (by rw [hops]; kernel_rfl) (by first | rfl | (rw [hops]; rfl)) (by first | rfl | (rw [hops]; rfl)) ?_ ?_
    · intro K hK
      go_wp2_with fail
      refine ⟨fun _ => HS2, ?_⟩
      try rw [← hops]
      refine N_one (i := 12) (by rw [hops, List.getElem?_toArray]; rfl) (by rw [hops]; kernel_rfl) (by first | rfl | (rw [hops]; rfl)) ?_
      intro K hK
      go_wp2_with fail
      refine ⟨fun _ => HS2, ?_⟩
      try rw [← hops]
      clear hcv hcv2 HS2
      refine N_one (i := 13) (by rw [hops, List.getElem?_toArray]; rfl) (by rw [hops]; kernel_rfl) (by first | rfl | (rw [hops]; rfl)) ?_
      intro K hK
      go_wp2_with fail
      refine ⟨fun h => absurd h (by decide), ?_⟩
      try rw [← hops]
      refine N_one (i := 14) (by rw [hops, List.getElem?_toArray]; rfl) (by rw [hops]; kernel_rfl) (by first | rfl | (rw [hops]; rfl)) ?_
      intro K hK
      go_wp2_with fail
      refine ⟨fun h => absurd h (by decide), ?_⟩
      try rw [← hops]
      refine N_one (i := 15) (by rw [hops, List.getElem?_toArray]; rfl) (by rw [hops]; kernel_rfl) (by first | rfl | (rw [hops]; rfl)) ?_
      intro K hK
      go_wp2_with fail
      refine ⟨fun h => absurd h (by decide), ?_⟩
      try rw [← hops]
      refine N_done (by rw [hops]; kernel_rfl) ?_
      clear hops ops
      go_wp2_with fail
      go_ret
      exact ⟨rfl, HXE.out⟩
    · intro K hK
      go_wp2_with fail
      refine ⟨fun _ => HS2, ?_⟩
      try rw [← hops]
      refine N_one (i := 8) (by rw [hops, List.getElem?_toArray]; rfl) (by rw [hops]; kernel_rfl) (by first | rfl | (rw [hops]; rfl)) ?_
      intro K hK
      go_wp2_with fail
      refine ⟨fun _ => HS2, ?_⟩
      try rw [← hops]
      clear hcv hcv2 HS2
      refine N_one (i := 13) (by rw [hops, List.getElem?_toArray]; rfl) (by rw [hops]; kernel_rfl) (by first | rfl | (rw [hops]; rfl)) ?_
      intro K hK
      go_wp2_with fail
      refine ⟨fun h => absurd h (by decide), ?_⟩
      try rw [← hops]
      refine N_one (i := 14) (by rw [hops, List.getElem?_toArray]; rfl) (by rw [hops]; kernel_rfl) (by first | rfl | (rw [hops]; rfl)) ?_
      intro K hK
      go_wp2_with fail
      refine ⟨fun h => absurd h (by decide), ?_⟩
      try rw [← hops]
      refine N_one (i := 15) (by rw [hops, List.getElem?_toArray]; rfl) (by rw [hops]; kernel_rfl) (by first | rfl | (rw [hops]; rfl)) ?_
      intro K hK
      go_wp2_with fail
      refine ⟨fun h => absurd h (by decide), ?_⟩
      try rw [← hops]
      refine N_done (by rw [hops]; kernel_rfl) ?_
      clear hops ops
      go_wp2_with fail
      go_ret
      exact ⟨rfl, HXE.out⟩
end Go.Proofs.YtcikjcjfcanloaaGreat
namespace Go.Proofs.YtcikjcjfcanloaaGreat
open Go.ChangeShapes Go.WideShapes Go.ChangeAt Go.RowKit Go.Joins
theorem own : ownKnob Tryz.prog.godebug = none := by kernel_rfl
theorem laidOut : laidOutB Tryz.prog = true := by kernel_rfl
theorem u64_back {a : Int} (h : (Lit.int .u64 a).wf = true) : ∃ x : UInt64, a = (x.toNat : Int) := by
  simp [Lit.wf, IntKind.min, IntKind.max, IntKind.signed, IntKind.bits] at h
  exact ⟨UInt64.ofNat a.toNat, by rw [toNat_ofNat_lt (by omega)]; omega⟩
theorem u8_back {a : Int} (h : (Lit.int .u8 a).wf = true) : ∃ x : UInt8, a = (x.toNat : Int) := by
  simp [Lit.wf, IntKind.min, IntKind.max, IntKind.signed, IntKind.bits] at h
  exact ⟨UInt8.ofNat a.toNat, by rw [UInt8.toNat_ofNat']; omega⟩
theorem choose_list {α : Type} {p : Nat → α → Prop} : ∀ (n : Nat), (∀ i, i < n → ∃ x, p i x) → ∃ l : List α, l.length = n ∧ ∀ i x, l[i]? = some x → p i x
  | 0, _ => ⟨[], rfl, by simp⟩
  | n + 1, h => by
    obtain ⟨l, hl, hp⟩ := choose_list n fun i hi => h i (by omega)
    obtain ⟨x, hx⟩ := h n (by omega)
    refine ⟨l ++ [x], by simp [hl], fun i y hy => ?_⟩
    rcases Nat.lt_or_ge i n with hi | hi
    · rw [List.getElem?_append_left (by omega)] at hy; exact hp i y hy
    · have hlt := (List.getElem?_eq_some_iff.1 hy).1
      have : i = n := by simp at hlt; omega
      subst this
      rw [List.getElem?_append_right (by omega), hl] at hy
      simp at hy
      subst hy
      exact hx
theorem u64_cell1 : Tryz.prog.cellsOf 22 = 1 := by kernel_rfl
theorem u8_cell1 : Tryz.prog.cellsOf 5 = 1 := by kernel_rfl
theorem int_cell1 : Tryz.prog.cellsOf 3 = 1 := by kernel_rfl
theorem u64s_cell1 : Tryz.prog.cellsOf 57 = 1 := by kernel_rfl
theorem u8s_cell1 : Tryz.prog.cellsOf 69 = 1 := by kernel_rfl
theorem outs_cell1 : Tryz.prog.cellsOf 99 = 1 := by kernel_rfl
theorem txs_cell1 : Tryz.prog.cellsOf 73 = 1 := by kernel_rfl
theorem arr2_cells : Tryz.prog.cellsOf 94 = 2 := by kernel_rfl
theorem out_cells4 : Tryz.prog.cellsOf 103 = 4 := by kernel_rfl
theorem tx_cells10 : Tryz.prog.cellsOf 101 = 10 := by kernel_rfl
theorem blk_cells6 : Tryz.prog.cellsOf 75 = 6 := by kernel_rfl
section
variable {H : Type} {enc : TypeId × Value → H} {W : World} {base : Nat} {sp : Nat → Bool} {held : Bool}
theorem open_u64 {n : Nat} {v : Value} {x : DataW H × List MemPlace} (h : DataW.trod enc Tryz.prog W base sp held n 22 [v] = some x) : ∃ a : UInt64, v = uv a := by
  obtain ⟨a, e0, hd0, wa⟩ := DataW.trod_int Tryz.underlying22 h
  simp only [List.cons.injEq, and_true] at e0
  subst e0
  obtain ⟨a, rfl⟩ := u64_back wa
  exact ⟨a, rfl⟩
theorem open_u8 {n : Nat} {v : Value} {x : DataW H × List MemPlace} (h : DataW.trod enc Tryz.prog W base sp held n 5 [v] = some x) : ∃ a : UInt8, v = .int .u8 (a.toNat : Int) := by
  obtain ⟨a, e0, hd0, wa⟩ := DataW.trod_int Tryz.underlying5 h
  simp only [List.cons.injEq, and_true] at e0
  subst e0
  obtain ⟨a, rfl⟩ := u8_back wa
  exact ⟨a, rfl⟩
theorem open_int {n : Nat} {v : Value} {x : DataW H × List MemPlace} (h : DataW.trod enc Tryz.prog W base sp held n 3 [v] = some x) : ∃ a : Int, v = .int .i64 a := by
  obtain ⟨a, e0, hd0, wa⟩ := DataW.trod_int Tryz.underlying3 h
  simp only [List.cons.injEq, and_true] at e0
  exact ⟨a, e0⟩
set_option maxRecDepth 100000 in
theorem open_rows {α : Type} {f : α → List Value} {R : α → Prop} {k : Nat} {t e : TypeId} (ht : Tryz.prog.underlying t = some (.slice e)) (hk : Tryz.prog.cellsOf e = k) (hk0 : 0 < k) (hf : ∀ x, (f x).length = k)
    (hel : ∀ (n : Nat) (cs : List Value) (x : DataW H × List MemPlace), cs.length = k → DataW.trod enc Tryz.prog W base sp held n e cs = some x → ∃ y : α, cs = f y ∧ R y)
    {n : Nat} {v : Value} {x : DataW H × List MemPlace} (h : DataW.trod enc Tryz.prog W base sp held n t [v] = some x) : ∃ X : List α, RdC' W v X.length (X.flatMap f) ∧ ∀ x ∈ X, R x := by
  rcases Go.Deep.open_slice ht h with ⟨hc, -⟩ | ⟨a, len, cap, m, n', D, Pl, hc, hb, hl, hm, hmm, -, hx⟩
  · simp only [List.cons.injEq, and_true] at hc
    subst hc
    exact ⟨[], (RdC.nil W).weak, by simp⟩
  · simp only [List.cons.injEq, and_true] at hc
    subst hc
    have hlm : len ≤ m := by rw [hmm]; split <;> omega
    obtain ⟨X, hX, hp⟩ := choose_list (α := α) (p := fun i y => R y ∧ ∀ j, j < k → W.cell? (a.add (i * k + j)) = (f y)[j]?) len (fun i hi => by
      obtain ⟨cs', hcs, htr⟩ := hx i (by omega)
      rw [hk] at hcs
      obtain ⟨_, hlen, hcell⟩ := World.cells?_some hcs
      obtain ⟨y, rfl, hy⟩ := hel _ _ _ hlen htr
      refine ⟨y, hy, fun j hj => ?_⟩
      rw [← hcell j hj, Addr.add_add])
    subst hX
    refine ⟨X, ⟨some a, cap, rfl, hl, hm, (fun h => by cases h), fun ad ha j u hu => ?_⟩, fun x hx => ?_⟩
    · injection ha with ha
      subst ha
      have hj : j < X.length * k := by
        have := (List.getElem?_eq_some_iff.1 hu).1
        rwa [flat_len hf] at this
      have hi : j / k < X.length := Nat.div_lt_of_lt_mul (by rw [Nat.mul_comm]; exact hj)
      have hr : j % k < k := Nat.mod_lt _ hk0
      have he : j / k * k + j % k = j := by rw [Nat.mul_comm]; exact Nat.div_add_mod j k
      have h1 := (hp (j / k) _ (List.getElem?_eq_getElem hi)).2 (j % k) hr
      have h2 := flat_at hf X (j / k) (List.getElem?_eq_getElem hi) (j % k) hr
      rw [he] at h1 h2
      rw [h1, ← h2, hu]
    · obtain ⟨i, hi, rfl⟩ := List.getElem_of_mem hx
      exact (hp i _ (List.getElem?_eq_getElem hi)).1
theorem flat1 {α : Type} (g : α → Value) (X : List α) : X.flatMap (fun x => [g x]) = X.map g := by
  induction X with
  | nil => rfl
  | cons x r ih => rw [List.flatMap_cons, ih]; rfl
theorem open_u64s {n : Nat} {v : Value} {x : DataW H × List MemPlace} (h : DataW.trod enc Tryz.prog W base sp held n 57 [v] = some x) : ∃ l : List UInt64, RdU' W v l := by
  obtain ⟨X, h1, -⟩ := open_rows (f := fun x : UInt64 => [uv x]) (R := fun _ => True) Tryz.underlying57 u64_cell1 (by omega) (fun _ => rfl) (fun n cs x hl hx => by
    match cs, hl with
    | [c], _ => obtain ⟨a, rfl⟩ := open_u64 hx; exact ⟨a, rfl, trivial⟩) h
  rw [flat1] at h1
  exact ⟨X, h1⟩
theorem open_u8s {n : Nat} {v : Value} {x : DataW H × List MemPlace} (h : DataW.trod enc Tryz.prog W base sp held n 69 [v] = some x) : ∃ l : List UInt8, RdB' W v l := by
  obtain ⟨X, h1, -⟩ := open_rows (f := fun x : UInt8 => [.int .u8 (x.toNat : Int)]) (R := fun _ => True) Tryz.underlying69 u8_cell1 (by omega) (fun _ => rfl) (fun n cs x hl hx => by
    match cs, hl with
    | [c], _ => obtain ⟨a, rfl⟩ := open_u8 hx; exact ⟨a, rfl, trivial⟩) h
  rw [flat1] at h1
  exact ⟨X, h1⟩
set_option maxRecDepth 100000 in
theorem e2_of_cells {n : Nat} {c0 c1 : Value} {x : DataW H × List MemPlace} (h : DataW.trod enc Tryz.prog W base sp held n 94 [c0, c1] = some x) : ∃ y : E2, c0 = uv y.a ∧ c1 = uv y.b := by
  have ht : Tryz.prog.underlying 94 = some (.array 2 22) := by kernel_rfl
  obtain ⟨xs, m, -, -, -, hl, hx⟩ := DataW.trod_array ht h
  have h0 := hx 0 (by omega)
  have h1 := hx 1 (by omega)
  rw [u64_cell1, List.getElem?_eq_getElem (by omega)] at h0 h1
  obtain ⟨a, rfl⟩ := open_u64 (v := c0) (by simpa [Value.cells] using h0)
  obtain ⟨b, rfl⟩ := open_u64 (v := c1) (by simpa [Value.cells] using h1)
  exact ⟨⟨a, b⟩, rfl, rfl⟩
set_option maxRecDepth 100000 in
theorem out_of_cells {n : Nat} {cs : List Value} {x : DataW H × List MemPlace} (hl : cs.length = 4) (h : DataW.trod enc Tryz.prog W base sp held n 103 cs = some x) : ∃ y : OutT × Value, cs = outCells y ∧ RdU' W y.2 y.1.cipher := by
  obtain ⟨y0, y1, y2, m, -, -, h0, h1, h2⟩ := Go.Deep.trod_struct3 Tryz.underlying103 h
  match cs, hl with
  | [c0, c1, c2, c3], _ =>
    simp only [u64_cell1, arr2_cells, u64s_cell1] at h0 h1 h2
    obtain ⟨a, rfl⟩ := open_u64 (v := c0) h0
    obtain ⟨p, rfl, rfl⟩ := e2_of_cells (c0 := c1) (c1 := c2) h1
    obtain ⟨l, hl⟩ := open_u64s (v := c3) h2
    exact ⟨(⟨a, p, l⟩, c3), rfl, hl⟩
set_option maxRecDepth 100000 in
theorem open_outs {n : Nat} {v : Value} {x : DataW H × List MemPlace} (h : DataW.trod enc Tryz.prog W base sp held n 99 [v] = some x) : ∃ l : List OutT, RdOs W v l := by
  obtain ⟨X, h1, h2⟩ := open_rows (f := outCells) (R := fun y => RdU' W y.2 y.1.cipher) Tryz.underlying99 out_cells4 (by omega) outCells_len (fun n cs x hl hx => out_of_cells hl hx) h
  exact ⟨X.map (·.1), X, rfl, by rw [List.length_map]; exact h1, h2⟩
theorem fld {fs : Array Field} {cs : List Value} {xs : List (DataW H × List MemPlace)} {m : Nat} (hf : ∀ (i : Nat) (f : Field), fs[i]? = some f → DataW.trod enc Tryz.prog W base sp held m f.type ((cs.drop f.offset).take (Tryz.prog.cellsOf f.type)) = xs[i]?)
    (i : Nat) {f : Field} (hi : fs[i]? = some f) (hx : i < xs.length) (ty : TypeId) (off k : Nat) (h1 : f.type = ty) (h2 : f.offset = off) (hk : Tryz.prog.cellsOf ty = k) : DataW.trod enc Tryz.prog W base sp held m ty ((cs.drop off).take k) = some xs[i] := by
  subst h1 h2 hk
  rw [hf i f hi, List.getElem?_eq_getElem hx]
set_option maxRecDepth 100000 in
set_option maxHeartbeats 1000000 in
theorem tx_of_cells {n : Nat} {cs : List Value} {x : DataW H × List MemPlace} (hl : cs.length = 10) (h : DataW.trod enc Tryz.prog W base sp held n 101 cs = some x) : ∃ y : TxM, cs = txCells y ∧ RdT W y.1 y.2.1 y.2.2.1 y.2.2.2 := by
  obtain ⟨xs, m, -, -, -, hxs, hf⟩ := DataW.trod_struct Tryz.underlying101 h
  have hxl : xs.length = 10 := hxs
  match cs, hl with
  | [c0, c1, c2, c3, c4, c5, c6, c7, c8, c9], _ =>
    have h0 := fld hf 0 rfl (by omega) 22 0 1 rfl rfl u64_cell1
    have h1 := fld hf 1 rfl (by omega) 57 1 1 rfl rfl u64s_cell1
    have h2 := fld hf 2 rfl (by omega) 99 2 1 rfl rfl outs_cell1
    have h3 := fld hf 3 rfl (by omega) 22 3 1 rfl rfl u64_cell1
    have h4 := fld hf 4 rfl (by omega) 22 4 1 rfl rfl u64_cell1
    have h5 := fld hf 5 rfl (by omega) 22 5 1 rfl rfl u64_cell1
    have h6 := fld hf 6 rfl (by omega) 22 6 1 rfl rfl u64_cell1
    have h7 := fld hf 7 rfl (by omega) 22 7 1 rfl rfl u64_cell1
    have h8 := fld hf 8 rfl (by omega) 3 8 1 rfl rfl int_cell1
    have h9 := fld hf 9 rfl (by omega) 69 9 1 rfl rfl u8s_cell1
    obtain ⟨a0, rfl⟩ := open_u64 (v := c0) h0
    obtain ⟨a1, m1⟩ := open_u64s (v := c1) h1
    obtain ⟨a2, m2⟩ := open_outs (v := c2) h2
    obtain ⟨a3, rfl⟩ := open_u64 (v := c3) h3
    obtain ⟨a4, rfl⟩ := open_u64 (v := c4) h4
    obtain ⟨a5, rfl⟩ := open_u64 (v := c5) h5
    obtain ⟨a6, rfl⟩ := open_u64 (v := c6) h6
    obtain ⟨a7, rfl⟩ := open_u64 (v := c7) h7
    obtain ⟨a8, rfl⟩ := open_int (v := c8) h8
    obtain ⟨a9, m9⟩ := open_u8s (v := c9) h9
    exact ⟨(⟨a0, a1, a2, a3, a4, a5, a6, a7, a8, a9⟩, c1, c2, c9), rfl, ⟨m1, m2, m9⟩⟩
set_option maxRecDepth 100000 in
theorem open_txs {n : Nat} {v : Value} {x : DataW H × List MemPlace} (h : DataW.trod enc Tryz.prog W base sp held n 73 [v] = some x) : ∃ l : List TxT, RdTs W v l := by
  obtain ⟨X, h1, h2⟩ := open_rows (f := txCells) (R := fun y => RdT W y.1 y.2.1 y.2.2.1 y.2.2.2) Tryz.underlying73 tx_cells10 (by omega) txCells_len (fun n cs x hl hx => tx_of_cells hl hx) h
  exact ⟨X.map (·.1), X, rfl, by rw [List.length_map]; exact h1, h2⟩
end
end Go.Proofs.YtcikjcjfcanloaaGreat
namespace Go.Proofs.YtcikjcjfcanloaaGreat
open Go.ChangeShapes Go.WideShapes Go.ChangeAt Go.RowKit Go.Joins
section
variable {H : Type} {enc : TypeId × Value → H} {W : World} {base : Nat} {sp : Nat → Bool} {held : Bool}
set_option maxRecDepth 100000 in
theorem blk_of_cells {n : Nat} {cs : List Value} {x : DataW H × List MemPlace} (hl : cs.length = 6) (h : DataW.trod enc Tryz.prog W base sp held n 75 cs = some x) : ∃ y : BlkT × Value, cs = blkCells y ∧ RdTs W y.2 y.1.txs := by
  obtain ⟨xs, m, -, -, -, hxs, hf⟩ := DataW.trod_struct Tryz.underlying75 h
  have hxl : xs.length = 6 := hxs
  match cs, hl with
  | [c0, c1, c2, c3, c4, c5], _ =>
    have h0 := fld hf 0 rfl (by omega) 22 0 1 rfl rfl u64_cell1
    have h1 := fld hf 1 rfl (by omega) 3 1 1 rfl rfl int_cell1
    have h2 := fld hf 2 rfl (by omega) 22 2 1 rfl rfl u64_cell1
    have h3 := fld hf 3 rfl (by omega) 22 3 1 rfl rfl u64_cell1
    have h4 := fld hf 4 rfl (by omega) 22 4 1 rfl rfl u64_cell1
    have h5 := fld hf 5 rfl (by omega) 73 5 1 rfl rfl txs_cell1
    obtain ⟨a0, rfl⟩ := open_u64 (v := c0) h0
    obtain ⟨a1, rfl⟩ := open_int (v := c1) h1
    obtain ⟨a2, rfl⟩ := open_u64 (v := c2) h2
    obtain ⟨a3, rfl⟩ := open_u64 (v := c3) h3
    obtain ⟨a4, rfl⟩ := open_u64 (v := c4) h4
    obtain ⟨a5, m5⟩ := open_txs (v := c5) h5
    exact ⟨(⟨a0, a1, a2, a3, a4, a5⟩, c5), rfl, m5⟩
set_option maxRecDepth 100000 in
theorem open_uv {r : Reach} {v : Value} {d : DataW H} {p : List MemPlace} {b0 : Nat} (hv : Value.okWide Tryz.prog W r b0 22 v) {b' : Nat} (h : DataW.Trod enc Tryz.prog W b' sp held 22 v d p) : ∃ a : UInt64, v = uv a := by
  obtain ⟨n0, hf0⟩ := h
  obtain ⟨c0, rfl⟩ := okWide_int Tryz.underlying22 hv
  exact open_u64 hf0
end
end Go.Proofs.YtcikjcjfcanloaaGreat
namespace Go.Proofs.YtcikjcjfcanloaaGreat
open Go.ChangeShapes Go.WideShapes Go.ChangeAt Go.RowKit Go.Joins
/-- v reads as lists of blocks. -/
def RdBL (w : World) (v : Value) (ls : List (List BlkT)) : Prop := ∃ X : List (List BlkT × Value), X.map (·.1) = ls ∧ RdC' w v ls.length (X.map (·.2)) ∧ ∀ x ∈ X, RdBs w w x.2 x.1
theorem RdBL.ext {w w' : World} {v : Value} {ls : List (List BlkT)} (h : RdBL w v ls) (k : Ext w w') : RdBL w' v ls := by
  obtain ⟨X, h1, h2, h3⟩ := h
  exact ⟨X, h1, h2.ext k, fun x hx => ((h3 x hx).ext k).old k⟩
theorem RdBL.shape {w : World} {v : Value} {ls : List (List BlkT)} (h : RdBL w v ls) : ∃ a c, v = .slice a ls.length c ∧ ls.length ≤ c ∧ c ≤ maxLen := by
  obtain ⟨X, h1, h2, h3⟩ := h
  exact h2.shape
theorem RdBL.nil (w : World) : RdBL w (.slice none 0 0) [] := ⟨[], rfl, (RdC.nil w).weak, fun x h => by cases h⟩
theorem flat_one {α : Type} (X : List (α × Value)) : X.flatMap (fun y => [y.2]) = X.map (·.2) := by
  induction X with
  | nil => rfl
  | cons a r ih => rw [List.flatMap_cons, ih]; rfl
theorem RdBL.at {w : World} {a : Option Addr} {n c : Nat} {ls : List (List BlkT)} (h : RdBL w (.slice a n c) ls) {i : Nat} {l : List BlkT} (hx : ls[i]? = some l) :
    ∃ b q la lc, a = some ⟨b, q, none⟩ ∧ RdBs w w (.slice la l.length lc) l ∧ w.cell? ⟨b, q + i, none⟩ = some (.slice la l.length lc) := by
  obtain ⟨X, h1, h2, h3⟩ := h
  have hn : n = ls.length := by obtain ⟨a', c', he, -⟩ := h2; injection he
  have hXl : X.length = ls.length := by rw [← h1, List.length_map]
  have hi : i < X.length := by rw [hXl]; exact (List.getElem?_eq_some_iff.1 hx).1
  have hy : X[i]? = some X[i] := List.getElem?_eq_getElem hi
  have hr := h3 _ (List.getElem_mem hi)
  obtain ⟨⟨x', tv⟩, hX⟩ : ∃ y, y = X[i] := ⟨_, rfl⟩
  rw [← hX] at hy hr
  have hxo : x' = l := by
    have : ls[i]? = some x' := by rw [← h1, List.getElem?_map, hy]; rfl
    rw [hx] at this
    exact (Option.some.inj this).symm
  subst hn hxo
  rw [← flat_one] at h2
  obtain ⟨b, q, rfl, hc⟩ := rows_at (f := fun y : List BlkT × Value => [y.2]) (k := 1) (fun _ => rfl) (by omega) hXl.symm h2 hy
  simp only at hr
  obtain ⟨ta, tc, rfl, -⟩ := hr.shape
  have := hc 0 _ (by omega) rfl
  rw [Nat.mul_one, Nat.add_zero] at this
  exact ⟨b, q, ta, tc, rfl, hr, this⟩
theorem blks_cell1 : Tryz.prog.cellsOf 31 = 1 := by kernel_rfl
theorem blkss_cell1 : Tryz.prog.cellsOf 81 = 1 := by kernel_rfl
theorem case51_cells3 : Tryz.prog.cellsOf 83 = 3 := by kernel_rfl
section
variable {H : Type} {enc : TypeId × Value → H} {W : World} {base : Nat} {sp : Nat → Bool} {held : Bool}
set_option maxRecDepth 100000 in
theorem open_blks {n : Nat} {v : Value} {x : DataW H × List MemPlace} (h : DataW.trod enc Tryz.prog W base sp held n 31 [v] = some x) : ∃ l : List BlkT, RdBs W W v l := by
  obtain ⟨X, h1, h2⟩ := open_rows (f := blkCells) (R := fun y => RdTs W y.2 y.1.txs) Tryz.underlying31 blk_cells6 (by omega) blkCells_len (fun n cs x hl hx => blk_of_cells hl hx) h
  exact ⟨X.map (·.1), X, rfl, by rw [List.length_map]; exact h1, h2⟩
set_option maxRecDepth 100000 in
theorem open_blkss {n : Nat} {v : Value} {x : DataW H × List MemPlace} (h : DataW.trod enc Tryz.prog W base sp held n 81 [v] = some x) : ∃ l : List (List BlkT), RdBL W v l := by
  obtain ⟨X, h1, h2⟩ := open_rows (f := fun y : List BlkT × Value => [y.2]) (R := fun y => RdBs W W y.2 y.1) (k := 1) Tryz.underlying81 blks_cell1 (by omega) (fun _ => rfl) (fun n cs x hl hx => by
    match cs, hl with
    | [c0], _ =>
      obtain ⟨l, hl⟩ := open_blks hx
      exact ⟨(l, c0), rfl, hl⟩) h
  rw [flat_one] at h1
  exact ⟨X.map (·.1), X, rfl, by rw [List.length_map]; exact h1, h2⟩
set_option maxRecDepth 100000 in
theorem open_case51 {r : Reach} {v : Value} {d : DataW H} {p : List MemPlace} {b0 : Nat} (hv : Value.okWide Tryz.prog W r b0 83 v) {b' : Nat} (h : DataW.Trod enc Tryz.prog W b' sp held 83 v d p) :
    ∃ (d : Int) (s : UInt64) (lv : Value) (ls : List (List BlkT)), v = .agg #[.int .i64 d, uv s, lv] ∧ RdBL W lv ls := by
  obtain ⟨cs, rfl, hsz⟩ := okWide_struct Tryz.underlying83 hv
  rw [case51_cells3] at hsz
  obtain ⟨fuel, hf⟩ := h
  obtain ⟨cl⟩ := cs
  obtain ⟨xs, m, -, -, -, hxs, hf⟩ := DataW.trod_struct Tryz.underlying83 hf
  have hxl : xs.length = 3 := hxs
  match cl, hsz with
  | [c0, c1, c2], _ =>
    have h0 := fld hf 0 rfl (by omega) 3 0 1 rfl rfl int_cell1
    have h1 := fld hf 1 rfl (by omega) 22 1 1 rfl rfl u64_cell1
    have h2 := fld hf 2 rfl (by omega) 81 2 1 rfl rfl blkss_cell1
    obtain ⟨a0, rfl⟩ := open_int (v := c0) h0
    obtain ⟨a1, rfl⟩ := open_u64 (v := c1) h1
    obtain ⟨a2, m2⟩ := open_blkss (v := c2) h2
    exact ⟨a0, a1, c2, a2, rfl, m2⟩
end
end Go.Proofs.YtcikjcjfcanloaaGreat
namespace Go.Proofs.YtcikjcjfcanloaaGreat
open Go.RowKit
attribute [local irreducible] perm fAdd fMul fPow fSub fNeg fRed hashU drawOf nextState
def smBk (b : BlkT) : Bool := decide (b.txs.length ≤ 4) && b.txs.all smT
def smL (l : List BlkT) : Bool := decide (l.length ≤ 6) && l.all smBk
def smLs (ls : List (List BlkT)) : Bool := ls.all smL && decide (ls.length ≤ 6)
def rightW (d : Int) (ls : List (List BlkT)) : Bool := decide (1 ≤ d) && (decide (d ≤ 6) && smLs ls)
set_option maxRecDepth 100000 in
set_option maxHeartbeats 12800000 in
theorem small51_any (lv : Value) (ls : List (List BlkT)) (w : World) (h : RdBL w lv ls) :
    Calls Tryz.prog 92 #[lv] w fun e w' => e = .returned (.bool (smLs ls)) ∧ Ext w w' := by
  obtain ⟨oa, oc, rfl, hc1, hc2⟩ := h.shape
  have HOL : Hid (bigN ls.length) := hid (by unfold bigN; unfold maxLen at hc2; omega)
  have HH := hid h
  obtain ⟨R, hR⟩ : ∃ R, R = smLs ls := ⟨_, rfl⟩
  have HR := hid hR
  rw [← hR]
  clear h hc1 hc2 hR
  go_enter Tryz.func92, Tryz.ntmps92
  go_wp2_with fail
  go_loopw [3] (fun iv wr => ∃ i : Nat, i ≤ ls.length ∧ iv = .int .i64 i ∧ Hid ((ls.take i).all smL = true ∧ Ext w wr)) (fun iv _ => ls.length - (intOf iv).toNat)
  case atStart => exact ⟨0, by omega, rfl, hid ⟨rfl, Ext.refl w⟩⟩
  case round =>
    obtain ⟨i, hi, rfl, HI⟩ := hrel
    have hi0 : (0 : Int) ≤ (i : Int) := Int.natCast_nonneg _
    by_cases hlt : i < ls.length
    case neg =>
      have hltB : decide ((i : Int) < (ls.length : Int)) = false := decide_eq_false (by omega)
      obtain rfl : i = ls.length := by omega
      rw [List.take_length] at HI
      have HR2 : Hid (R = decide (ls.length ≤ 6)) := hid (by rw [HR.out]; unfold smLs; rw [HI.out.1, Bool.true_and])
      by_cases h6 : ls.length ≤ 6
      · have h6a : decide ((ls.length : Int) ≤ 6) = true := decide_eq_true (by omega)
        obtain rfl : R = true := by rw [HR2.out]; exact decide_eq_true h6
        clear h6
        go_wp2_with fail
        go_ret
        exact ⟨rfl, HI.out.2⟩
      · have h6a : decide ((ls.length : Int) ≤ 6) = false := decide_eq_false (by omega)
        obtain rfl : R = false := by rw [HR2.out]; exact decide_eq_false h6
        clear h6
        go_wp2_with fail
        go_ret
        exact ⟨rfl, HI.out.2⟩
    have hltB : decide ((i : Int) < (ls.length : Int)) = true := decide_eq_true (by omega)
    have hil : (i : Int) < (ls.length : Int) := by omega
    obtain ⟨l, hli⟩ : ∃ l, ls[i]? = some l := ⟨_, List.getElem?_eq_getElem hlt⟩
    have HWR := hid (wrap_next HOL.out hlt)
    obtain ⟨g, q, la, lc, rfl, hrl, e0⟩ := HH.out.at hli
    have HE : Hid (∀ u, Ext w u → u.cell? ⟨g, q + i, none⟩ = some (.slice la l.length lc) ∧ RdBs u u (.slice la l.length lc) l) := hid fun u k => ⟨k.cell_some e0, (hrl.ext k).old k⟩
    have HLI := hid hli
    clear hli hrl e0
    obtain ⟨f0, -⟩ := HE.out wr HI.out.2
    by_cases h6 : l.length ≤ 6
    case neg =>
      have h6a : decide ((6 : Int) < (l.length : Int)) = true := decide_eq_true (by omega)
      have h6b : decide (6 < l.length) = true := decide_eq_true (by omega)
      obtain rfl : R = false := by
        rw [HR.out]
        unfold smLs
        rw [all_bad HLI.out (by unfold smL; rw [decide_eq_false h6]; rfl)]
        rfl
      clear h6
      go_wp2_with fail
      go_ret
      exact ⟨rfl, HI.out.2⟩
    have h6a : decide ((6 : Int) < (l.length : Int)) = false := decide_eq_false (by omega)
    have h6b : decide (6 < l.length) = false := decide_eq_false (by omega)
    have H6 := hid h6
    have hlI : (l.length : Int) ≤ 6 := by omega
    clear h6
    go_wp2_with fail
    clear f0 h6a h6b
    go_loopw [4] (fun kv wr => ∃ k : Nat, k ≤ l.length ∧ kv = .int .i64 k ∧ Hid ((l.take k).all smBk = true ∧ Ext w wr)) (fun kv _ => l.length - (intOf kv).toNat)
    case atStart => exact ⟨0, by omega, rfl, hid ⟨rfl, HI.out.2⟩⟩
    case round =>
      obtain ⟨k, hk, rfl, HK⟩ := hrel
      have hk0 : (0 : Int) ≤ (k : Int) := Int.natCast_nonneg _
      obtain ⟨f0, hrl⟩ := HE.out wr HK.out.2
      by_cases hkt : k < l.length
      case neg =>
        have hkB : decide ((k : Int) < (l.length : Int)) = false := decide_eq_false (by omega)
        obtain rfl : k = l.length := by omega
        rw [List.take_length] at HK
        have HN := hid (And.intro (all_snoc HLI.out HI.out.1 (by unfold smL; rw [HK.out.1, decide_eq_true H6.out]; rfl)) HK.out.2)
        clear hrl
        go_wp2_with fail
        go_roundw
        case rel => exact ⟨i + 1, by omega, by rw [HWR.out], HN⟩
        case measure => rw [HWR.out]; simp [intOf]; omega
      have hkB : decide ((k : Int) < (l.length : Int)) = true := decide_eq_true (by omega)
      have hkl : (k : Int) < (l.length : Int) := by omega
      obtain ⟨b, hbk⟩ : ∃ b, l[k]? = some b := ⟨_, List.getElem?_eq_getElem hkt⟩
      obtain ⟨g2, q2, ta, tc, rfl, htx, -, -, -, -, -, e5⟩ := hrl.at hbk
      have HTX : Hid (∀ u, Ext wr u → RdTs u (.slice ta b.txs.length tc) b.txs) := hid fun u k => htx.ext k
      have HBK := hid hbk
      clear hbk htx hrl
      by_cases h4 : b.txs.length ≤ 4
      case neg =>
        have h4a : decide ((4 : Int) < (b.txs.length : Int)) = true := decide_eq_true (by omega)
        have h4b : decide (4 < b.txs.length) = true := decide_eq_true (by omega)
        obtain rfl : R = false := by
          rw [HR.out]
          unfold smLs
          rw [all_bad HLI.out (by unfold smL; rw [all_bad HBK.out (by unfold smBk; rw [decide_eq_false h4]; rfl), Bool.and_false])]
          rfl
        clear h4
        go_wp2_with fail
        go_ret
        exact ⟨rfl, HK.out.2⟩
      have h4a : decide ((4 : Int) < (b.txs.length : Int)) = false := decide_eq_false (by omega)
      have h4b : decide (4 < b.txs.length) = false := decide_eq_false (by omega)
      have H4 := hid h4
      have htI : (b.txs.length : Int) ≤ 4 := by omega
      clear h4
      go_wp2_with fail
      clear f0 e5 h4a h4b
      go_loopw [6] (fun jv wz => ∃ j : Nat, j ≤ b.txs.length ∧ jv = .int .i64 j ∧ Hid ((b.txs.take j).all smT = true ∧ Ext w wz ∧ Ext wr wz)) (fun jv _ => b.txs.length - (intOf jv).toNat)
      case atStart => exact ⟨0, by omega, rfl, hid ⟨rfl, HK.out.2, Ext.refl _⟩⟩
      case round =>
        obtain ⟨j, hj, rfl, HJ⟩ := hrel
        have hj0 : (0 : Int) ≤ (j : Int) := Int.natCast_nonneg _
        by_cases hjt : j < b.txs.length
        case neg =>
          have hjB : decide ((j : Int) < (b.txs.length : Int)) = false := decide_eq_false (by omega)
          obtain rfl : j = b.txs.length := by omega
          rw [List.take_length] at HJ
          have HN := hid (And.intro (all_snoc HBK.out HK.out.1 (by unfold smBk; rw [HJ.out.1, decide_eq_true H4.out]; rfl)) HJ.out.2.1)
          go_wp2_with fail
          go_roundw
          case rel => exact ⟨k + 1, by omega, by go_num, HN⟩
          case measure => simp [intOf]; omega
        have hjB : decide ((j : Int) < (b.txs.length : Int)) = true := decide_eq_true (by omega)
        have hjl : (j : Int) < (b.txs.length : Int) := by omega
        obtain ⟨t, htj⟩ : ∃ t, b.txs[j]? = some t := ⟨_, List.getElem?_eq_getElem hjt⟩
        obtain ⟨g3, q3, ma, mc, xa, xc, pa, pc, rfl, hrt, e0, e1, e2, e3, e4, e5, e6, e7, e8, e9⟩ := (HTX.out _ HJ.out.2.2).at htj
        have SMC := hid (smTx_any t _ _ _ 100 wr hrt)
        obtain ⟨S, hS⟩ : ∃ S, S = smT t := ⟨_, rfl⟩
        change Hid (Calls Tryz.prog 59 #[txVal t (.slice ma t.marks.length mc) (.slice xa t.outs.length xc) (.slice pa t.proof.length pc), .int .i64 100] wr fun e w' => e = .returned (.bool (smT t)) ∧ Ext wr w') at SMC
        rw [← hS] at SMC
        have HS := hid hS
        have HTJ := hid htj
        clear hS htj hrt
        go_wp2_with fail
        refine (SMC.out).mono ?_
        rintro e u3 ⟨rfl, hx⟩
        have G3 := hid (And.intro (HJ.out.2.1.trans hx) (HJ.out.2.2.trans hx))
        clear hx SMC e0 e1 e2 e3 e4 e5 e6 e7 e8 e9
        cases S with
        | true =>
          have HN := hid (And.intro (all_snoc HTJ.out HJ.out.1 HS.out.symm) G3.out)
          go_wp2_with fail
          go_roundw
          case rel => exact ⟨j + 1, by omega, by go_num, HN⟩
          case measure => simp [intOf]; omega
        | false =>
          obtain rfl : R = false := by
            rw [HR.out]
            unfold smLs
            rw [all_bad HLI.out (by unfold smL; rw [all_bad HBK.out (by unfold smBk; rw [all_bad HTJ.out HS.out.symm, Bool.and_false]), Bool.and_false])]
            rfl
          go_wp2_with fail
          go_ret
          exact ⟨rfl, G3.out.1⟩
set_option maxRecDepth 100000 in
set_option maxHeartbeats 3200000 in
theorem right51_any (d : Int) (seed : UInt64) (lv : Value) (ls : List (List BlkT)) (w : World) (h : RdBL w lv ls) :
    Calls Tryz.prog 45 #[.agg #[.int .i64 d, uv seed, lv]] w fun e w' => e = .returned (.bool (rightW d ls)) ∧ Ext w w' := by
  have SM : Hid (∀ u, Ext w u → Calls Tryz.prog 92 #[lv] u fun e w' => e = .returned (.bool (smLs ls)) ∧ Ext u w') := hid fun u k => small51_any lv ls u (h.ext k)
  obtain ⟨oa, oc, rfl, -⟩ := h.shape
  obtain ⟨S, hS⟩ : ∃ S, S = smLs ls := ⟨_, rfl⟩
  obtain ⟨R, hR⟩ : ∃ R, R = rightW d ls := ⟨_, rfl⟩
  have HR : Hid (R = (decide (1 ≤ d) && (decide (d ≤ 6) && S))) := hid (by rw [hR, hS]; rfl)
  rw [← hS] at SM
  rw [← hR]
  obtain ⟨N, hN⟩ : ∃ N, N = w.heap.size := ⟨_, rfl⟩
  obtain ⟨w0, hw0⟩ : ∃ w0, w0 = w.alloc (.cells #[.int .i64 d, uv seed, .slice oa ls.length oc] 83) := ⟨_, rfl⟩
  have hx0 : Ext w w0 := by rw [hw0]; exact (Ext.refl w).alloc _
  have hb0 : w0.heap[N]? = some (.cells #[.int .i64 d, uv seed, .slice oa ls.length oc] 83 (0, 0)) := by rw [hw0, hN]; exact heap_new _ _
  have HX0 := hid hx0
  have HW := hid hw0
  obtain ⟨c0, c2⟩ : w0.cell? ⟨N, 0, none⟩ = some (.int .i64 d) ∧ w0.cell? ⟨N, 2, none⟩ = some (.slice oa ls.length oc) := ⟨cell_of hb0 0, cell_of hb0 2⟩
  clear hw0 hx0 hb0 h hS hR
  go_enter Tryz.func45, Tryz.ntmps45
  go_upto_region 1 with fail
  rw [← HW.out, ← hN]
  clear hN HW
  by_cases h1 : 1 ≤ d
  case neg =>
    have h1a : decide (1 ≤ d) = false := decide_eq_false h1
    obtain rfl : R = false := by rw [HR.out, h1a]; rfl
    clear h1
    go_wp2_with fail
    go_ret
    exact ⟨rfl, HX0.out⟩
  have h1a : decide (1 ≤ d) = true := decide_eq_true h1
  by_cases h6 : d ≤ 6
  case neg =>
    have h6a : decide (d ≤ 6) = false := decide_eq_false h6
    obtain rfl : R = false := by rw [HR.out, h1a, h6a]; rfl
    clear h1 h6
    go_wp2_with fail
    go_ret
    exact ⟨rfl, HX0.out⟩
  have h6a : decide (d ≤ 6) = true := decide_eq_true h6
  obtain rfl : R = S := by rw [HR.out, h1a, h6a]; rfl
  clear h1 h6 HR
  go_wp2_with fail
  refine (SM.out _ HX0.out).mono ?_
  rintro e w1 ⟨rfl, hx⟩
  have X1 := hid (HX0.out.trans hx)
  clear hx SM
  go_wp2_with fail
  go_ret
  exact ⟨rfl, X1.out⟩
theorem right_facts {d : Int} {ls : List (List BlkT)} (h : rightW d ls = true) : ∃ n : Nat, d = (n : Int) ∧ 1 ≤ n ∧ n ≤ 6 ∧ ls.length ≤ 6 ∧ ∀ l ∈ ls, l.length ≤ 6 ∧ ∀ b ∈ l, BSm b := by
  unfold rightW smLs at h
  simp only [Bool.and_eq_true, decide_eq_true_eq] at h
  obtain ⟨h1, h2, h3, h4⟩ := h
  refine ⟨d.toNat, by omega, by omega, by omega, h4, fun l hl => ?_⟩
  have h5 := List.all_eq_true.1 h3 l hl
  unfold smL at h5
  simp only [Bool.and_eq_true, decide_eq_true_eq] at h5
  refine ⟨h5.1, fun b hb => ?_⟩
  have h6 := List.all_eq_true.1 h5.2 b hb
  unfold smBk at h6
  simp only [Bool.and_eq_true, decide_eq_true_eq] at h6
  exact ⟨by omega, fun t ht => (smTx_sm (by omega) (List.all_eq_true.1 h6.2 t ht)).1⟩
end Go.Proofs.YtcikjcjfcanloaaGreat
