/- Texts of this claim, joined: Ops49, RW4, RecA. -/
import Derived.Laws.IdiomStrings
import Derived.ChangeKeysEq
import Derived.Test.YtcikjcjfcanloaaGreatJr4
import Derived.Test.YtcikjcjfcanloaaGreatJr13
import Derived.Test.YtcikjcjfcanloaaGreatJr15
set_option linter.unusedSimpArgs false
namespace Go.Proofs.YtcikjcjfcanloaaGreat
open Go.RowKit
theorem okAll_nil (d : Nat) : okAll d [] := fun i b h => by cases h
theorem okAll_take {d : Nat} {l : List BlkT} (h : okAll d l) (k : Nat) : okAll d (l.take k) := fun i b hb => by
  have hi := (List.getElem?_eq_some_iff.1 hb).1
  rw [List.length_take] at hi
  rw [List.take_take, Nat.min_eq_left (by omega)]
  refine h i b ?_
  rw [← hb, List.getElem?_take_of_lt (by omega)]
theorem okAll_snoc {d : Nat} {l : List BlkT} {b : BlkT} (h : okAll d l) (hb : checkW d l b = 0) : okAll d (l ++ [b]) := fun i x hx => by
  by_cases hi : i < l.length
  · rw [List.getElem?_append_left hi] at hx
    rw [List.take_append_of_le_length (by omega)]
    exact h i x hx
  · have hl := (List.getElem?_eq_some_iff.1 hx).1
    rw [List.length_append, List.length_singleton] at hl
    obtain rfl : i = l.length := by omega
    rw [List.getElem?_append_right (Nat.le_refl _), Nat.sub_self] at hx
    obtain rfl := Option.some.inj hx
    rw [List.take_left]
    exact hb
end Go.Proofs.YtcikjcjfcanloaaGreat
namespace Go.Proofs.YtcikjcjfcanloaaGreat
open Go.RowKit
attribute [local irreducible] perm fAdd fMul fPow fSub fNeg fRed hashU
structure BSm (b : BlkT) : Prop where
  n : b.txs.length ≤ 100
  t : ∀ t ∈ b.txs, TSm t
/-- Wide bounds. -/
structure BWd (b : BlkT) : Prop where
  n : b.txs.length ≤ 10000000000
  t : ∀ t ∈ b.txs, TWd t
theorem BSm.wide {b : BlkT} (h : BSm b) : BWd b := ⟨Nat.le_trans h.n (by decide), fun t ht => (h.t t ht).wide⟩
def FrU (w v : World) (x : Value) (l : List UInt64) : Prop := OwnU v x l ∧ Ext w v ∧ ∀ k, blk x = some k → w.heap.size ≤ k
theorem FrU.app {w v v' : World} {x y : Value} {l : List UInt64} {c : UInt64} (h : FrU w v x l) {n : Nat} (hown : v'.ownsRow 0 22 1 y (n + 1) (us l ++ [uv c])) (hn : n = l.length) (u : World) (hu : Ext v u) (hk : Kp (fun k => some k = blk x) u v') (hb : blk y = blk x ∨ blk y = some u.heap.size) : FrU w v' y (l ++ [c]) := by
  subst hn
  refine ⟨?_, (h.2.1.trans hu).kp hk (fun k e => h.2.2 k e.symm), fun k e => ?_⟩
  · show v'.ownsRow 0 22 1 y (l ++ [c]).length (us (l ++ [c]))
    rw [List.length_append, show us (l ++ [c]) = us l ++ [uv c] by simp [us]]
    exact hown
  · rcases hb with e2 | e2
    · exact h.2.2 k (by rw [← e2]; exact e)
    · rw [e2] at e
      have := Option.some.inj e
      have := (h.2.1.trans hu).size
      omega
def outsK (l : List TxT) : List UInt64 := l.flatMap fun t => t.outs.map (·.commit)
theorem outsK_snoc {l : List TxT} {i : Nat} {t : TxT} (h : l[i]? = some t) : outsK (l.take (i + 1)) = outsK (l.take i) ++ t.outs.map (·.commit) := by
  unfold outsK
  rw [List.take_add_one, h]
  simp
theorem leavesW_take {l : List BlkT} {i : Nat} {b : BlkT} (h : l[i]? = some b) : leavesW (l.take (i + 1)) = leavesW (l.take i) ++ outsK b.txs := by
  rw [List.take_add_one, h]
  exact leavesW_snoc _ _
theorem outsK_len {l : List TxT} (h : ∀ t ∈ l, TSm t) : (outsK l).length ≤ 1000 * l.length := by
  induction l with
  | nil => simp [outsK]
  | cons t r ih =>
    have h1 := ih fun t ht => h t (List.mem_cons_of_mem _ ht)
    have h2 := (h t (by simp)).o
    unfold outsK at h1 ⊢
    rw [List.flatMap_cons, List.length_append, List.length_map, List.length_cons]
    omega
theorem leavesW_len {l : List BlkT} (h : ∀ b ∈ l, BSm b) : (leavesW l).length ≤ 100000 * l.length := by
  induction l with
  | nil => simp [leavesW]
  | cons b r ih =>
    have h1 := ih fun t ht => h t (List.mem_cons_of_mem _ ht)
    have h2 := (h b (by simp)).n
    have h3 := outsK_len (h b (by simp)).t
    unfold outsK at h3
    unfold leavesW outsOf at h1 ⊢
    rw [List.flatMap_cons, List.length_append, List.length_cons]
    omega
theorem cur_len {l : List BlkT} {i : Nat} {b : BlkT} (hb : l[i]? = some b) {k : Nat} {t : TxT} (ht : b.txs[k]? = some t) (j : Nat) : (leavesW (l.take i)).length + (outsK (b.txs.take k)).length + (t.outs.take j).length ≤ (leavesW l).length := by
  have h1 : l = l.take i ++ b :: l.drop (i + 1) := by
    have hi := (List.getElem?_eq_some_iff.1 hb).1
    have : l[i] = b := (List.getElem?_eq_some_iff.1 hb).2
    rw [← this, ← List.drop_eq_getElem_cons hi, List.take_append_drop]
  have h2 : b.txs = b.txs.take k ++ t :: b.txs.drop (k + 1) := by
    have hi := (List.getElem?_eq_some_iff.1 ht).1
    have : b.txs[k] = t := (List.getElem?_eq_some_iff.1 ht).2
    rw [← this, ← List.drop_eq_getElem_cons hi, List.take_append_drop]
  have h3 : (leavesW l).length = (leavesW (l.take i)).length + ((outsK b.txs).length + (leavesW (l.drop (i + 1))).length) := by
    conv => lhs; rw [h1]
    unfold leavesW outsOf outsK
    rw [List.flatMap_append, List.flatMap_cons, List.length_append, List.length_append]
  have h4 : (outsK b.txs).length = (outsK (b.txs.take k)).length + (t.outs.length + (outsK (b.txs.drop (k + 1))).length) := by
    conv => lhs; rw [h2]
    unfold outsK
    rw [List.flatMap_append, List.flatMap_cons, List.length_append, List.length_append, List.length_map]
  have h5 : (t.outs.take j).length ≤ t.outs.length := by rw [List.length_take]; omega
  omega
set_option maxRecDepth 100000 in
set_option maxHeartbeats 12800000 in
theorem rLeavesG_any (v : Value) (l : List BlkT) (w : World) (h : RdBs w w v l) (hl : l.length ≤ 10000000000) (hs : ∀ b ∈ l, BWd b) (hM : (leavesW l).length ≤ 1000000000) :
    Calls Tryz.prog 32 #[v] w fun e w' => ∃ u, e = .returned u ∧ FrU w w' u (leavesW l) := by
  obtain ⟨la, lc, rfl, -⟩ := h.shape
  have HH : Hid (∀ u, Ext w u → RdBs u u (.slice la l.length lc) l) := hid fun u k => (h.ext k).old k
  have HS := hid hs
  have HM := hid hM
  have hlI : (l.length : Int) ≤ 10000000000 := by omega
  obtain ⟨i0, hi, hz0, hz1, hz2⟩ := info_parts Tryz.infoU
  have HI0 := hid (And.intro hi (And.intro hz0 (And.intro hz1 hz2)))
  have F0 : Hid (FrU w (w.alloc (.cells #[] 22)) (.slice (some ⟨w.heap.size, 0, none⟩) 0 0) []) := hid ⟨own_empty w, (Ext.refl w).alloc _, fun k e => by change some w.heap.size = some k at e; injection e with e; omega⟩
  clear h hs hl hM hi hz0 hz1 hz2
  go_enter Tryz.func32, Tryz.ntmps32
  go_wp2_with fail
  go_loopw [3, 4] (fun bv iv wr => ∃ i : Nat, i ≤ l.length ∧ iv = .int .i64 i ∧ Hid (FrU w wr bv (leavesW (l.take i)))) (fun _ iv _ => l.length - (intOf iv).toNat)
  case atStart => exact ⟨0, by omega, rfl, by simpa [leavesW] using F0⟩
  case round =>
    clear F0
    obtain ⟨i, hi, rfl, HI⟩ := hrel
    have hi0 : (0 : Int) ≤ (i : Int) := Int.natCast_nonneg _
    by_cases hlt : i < l.length
    · have hltB : decide ((i : Int) < (l.length : Int)) = true := by simp; omega
      have hil : (i : Int) < (l.length : Int) := by omega
      obtain ⟨b, hbi⟩ : ∃ b, l[i]? = some b := ⟨_, List.getElem?_eq_getElem hlt⟩
      have BS := hid (HS.out b (List.mem_of_getElem? hbi))
      have HLT := hid (leavesW_take hbi)
      have HBI := hid hbi
      obtain ⟨q, o, ta, tc, rfl, htx, -, -, -, -, -, e5⟩ := (HH.out w (Ext.refl w)).at hbi
      have HE : Hid (∀ u, Ext w u → u.cell? ⟨q, o + i * 6 + 5, none⟩ = some (.slice ta b.txs.length tc) ∧ RdTs u (.slice ta b.txs.length tc) b.txs) := hid fun u k => ⟨k.cell_some e5, htx.ext k⟩
      have htI : (b.txs.length : Int) ≤ 10000000000 := by have := BS.out.n; omega
      obtain ⟨f5, -⟩ := HE.out wr HI.out.2.1
      clear e5 htx hbi
      go_wp2_with fail
      clear f5
      go_loopw [3, 5] (fun bv kv wr => ∃ k : Nat, k ≤ b.txs.length ∧ kv = .int .i64 k ∧ Hid (FrU w wr bv (leavesW (l.take i) ++ outsK (b.txs.take k)))) (fun _ kv _ => b.txs.length - (intOf kv).toNat)
      case atStart => exact ⟨0, by omega, rfl, by simpa [outsK] using HI⟩
      case round =>
        clear HI
        obtain ⟨k, hk, rfl, HK⟩ := hrel
        have hk0 : (0 : Int) ≤ (k : Int) := Int.natCast_nonneg _
        obtain ⟨f5, htx⟩ := HE.out wr HK.out.2.1
        by_cases hkt : k < b.txs.length
        · have hktB : decide ((k : Int) < (b.txs.length : Int)) = true := by simp; omega
          have hkl : (k : Int) < (b.txs.length : Int) := by omega
          obtain ⟨t, htk⟩ : ∃ t, b.txs[k]? = some t := ⟨_, List.getElem?_eq_getElem hkt⟩
          have TS := hid (BS.out.t t (List.mem_of_getElem? htk))
          have HOT := hid (outsK_snoc htk)
          have HTK := hid htk
          clear htx
          obtain ⟨q2, o2, ma, mc, oa, oc, pa, pc, rfl, hrt, -, -, e2, -⟩ := (HE.out w (Ext.refl w)).2.at htk
          have HF : Hid (∀ u, Ext w u → u.cell? ⟨q2, o2 + k * 10 + 2, none⟩ = some (.slice oa t.outs.length oc) ∧ RdOs u (.slice oa t.outs.length oc) t.outs) := hid fun u ku => ⟨ku.cell_some e2, hrt.o.ext ku⟩
          have hoI : (t.outs.length : Int) ≤ 10000000000 := by have := TS.out.o; omega
          obtain ⟨f2, -⟩ := HF.out wr HK.out.2.1
          clear e2 hrt htk
          go_wp2_with fail
          clear f2 f5
          go_loopw [3, 6] (fun bv jv wr => ∃ j : Nat, j ≤ t.outs.length ∧ jv = .int .i64 j ∧ Hid (FrU w wr bv (leavesW (l.take i) ++ outsK (b.txs.take k) ++ (t.outs.take j).map (·.commit)))) (fun _ jv _ => t.outs.length - (intOf jv).toNat)
          case atStart => exact ⟨0, by omega, rfl, by simpa using HK⟩
          case round =>
            clear HK
            obtain ⟨j, hj, rfl, HJ⟩ := hrel
            have hj0 : (0 : Int) ≤ (j : Int) := Int.natCast_nonneg _
            obtain ⟨f5, -⟩ := HE.out wr HJ.out.2.1
            obtain ⟨f2, hro⟩ := HF.out wr HJ.out.2.1
            by_cases hjt : j < t.outs.length
            · have hjtB : decide ((j : Int) < (t.outs.length : Int)) = true := by simp; omega
              have hjl : (j : Int) < (t.outs.length : Int) := by omega
              obtain ⟨x, hx⟩ : ∃ x, t.outs[j]? = some x := ⟨_, List.getElem?_eq_getElem hjt⟩
              obtain ⟨q3, o3, ca, cc, rfl, g0, -⟩ := hro.at hx
              have HT : Hid ((t.outs.take (j + 1)).map (·.commit) = (t.outs.take j).map (·.commit) ++ [x.commit]) := hid (by rw [List.take_add_one, hx]; simp)
              obtain ⟨cur, hcur⟩ : ∃ cur, cur = leavesW (l.take i) ++ outsK (b.txs.take k) ++ (t.outs.take j).map (·.commit) := ⟨_, rfl⟩
              have HCU := hid hcur
              rw [← hcur] at HJ
              have HCL : Hid (cur.length ≤ 1000000000) := hid (by
                rw [hcur, List.length_append, List.length_append, List.length_map]
                exact Nat.le_trans (cur_len HBI.out HTK.out j) HM.out)
              obtain ⟨ba, bc, rfl, -⟩ := ownsRow_rd HJ.out.1
              clear hcur hx hro
              obtain ⟨y, hy⟩ : ∃ y, y = x.commit := ⟨_, rfl⟩
              rw [← hy] at g0 HT
              clear hy
              go_wp2_with (at_builtin; refine wpList_app rfl _ _ 57 rfl 22 i0 (.int .u64 0) 1 8 Tryz.underlying57 HI0.out.1 HI0.out.2.1 HI0.out.2.2.1 HI0.out.2.2.2 rfl (by decide) _ cur.length (us cur) rfl (ownsRow_ext HJ.out.1 ((Ext.refl _).alloc _)) _ 1 [.int .u64 y.toNat] rfl (RdC.new1 _ _ _) rfl (us_one [y]) (by have := HCL.out; unfold maxLen; omega) (by have := HCL.out; omega) ?_)
              intro v' w3 hown hk2 hb
              have G : Hid (FrU w w3 v' (cur ++ [y])) := hid (HJ.out.app hown rfl _ ((Ext.refl _).alloc _) hk2 (by simpa using hb))
              obtain ⟨va, vc, rfl, -⟩ := ownsRow_rd hown
              clear hown hk2 hb
              go_wp2_with fail
              go_roundw
              case rel => exact ⟨j + 1, by omega, by go_num, by rw [HT.out, ← List.append_assoc, ← HCU.out]; exact G⟩
              case measure => simp [intOf]; omega
            · have hjtB : decide ((j : Int) < (t.outs.length : Int)) = false := by simp; omega
              obtain rfl : j = t.outs.length := by omega
              rw [List.take_length, List.append_assoc, ← HOT.out] at HJ
              go_wp2_with fail
              go_roundw
              case rel => exact ⟨k + 1, by omega, by go_num, HJ⟩
              case measure => simp [intOf]; omega
        · have hktB : decide ((k : Int) < (b.txs.length : Int)) = false := by simp; omega
          obtain rfl : k = b.txs.length := by omega
          rw [List.take_length] at HK
          rw [← HLT.out] at HK
          go_wp2_with fail
          go_roundw
          case rel => exact ⟨i + 1, by omega, by go_num, HK⟩
          case measure => simp [intOf]; omega
    · have hltB : decide ((i : Int) < (l.length : Int)) = false := by simp; omega
      obtain rfl : i = l.length := by omega
      rw [List.take_length] at HI
      obtain ⟨ba, bc, rfl, -⟩ := ownsRow_rd HI.out.1
      go_wp2_with fail
      go_ret
      exact ⟨_, rfl, HI.out⟩
theorem rLeaves_any (v : Value) (l : List BlkT) (w : World) (h : RdBs w w v l) (hl : l.length ≤ 1000) (hs : ∀ b ∈ l, BSm b) :
    Calls Tryz.prog 32 #[v] w fun e w' => ∃ u, e = .returned u ∧ FrU w w' u (leavesW l) :=
  rLeavesG_any v l w h (by omega) (fun b hb => (hs b hb).wide) (by have := leavesW_len hs; omega)
/-- 1 << uint(d), as an int. -/
def shl1 (d : Int) : Int := IntKind.i64.wrap (2 ^ min (IntKind.u64.wrap d).toNat 64)
theorem shl1_small {d : Nat} (h : d ≤ 62) : shl1 (d : Int) = ((2 ^ d : Nat) : Int) := by
  unfold shl1
  rw [show (IntKind.u64.wrap (d : Int)).toNat = d by rw [IntKind.wrap_u64]; omega, Nat.min_eq_left (by omega), IntKind.wrap_i64]
  have h1 : 2 ^ d ≤ 2 ^ 62 := Nat.pow_le_pow_right (by omega) h
  have h2 : (2 : Int) ^ d = ((2 ^ d : Nat) : Int) := by push_cast; rfl
  have h3 : (2 : Nat) ^ 62 = 4611686018427387904 := by decide
  rw [h2]
  clear h2
  generalize (2 : Nat) ^ d = x at h1 ⊢
  omega
/-- The error of a further block, where a tree has room for T leaves. -/
def checkT (T : Int) (l : List BlkT) (b : BlkT) : Int := if b.height = (l.length : Int) + 1 then (if b.txs.all fun t => decide (txV t = 0) then (if T < ((leavesW l).length + outsN b.txs : Nat) then 16 else 0) else 1) else 18
theorem checkT_nat {d : Nat} (h : d ≤ 62) (l : List BlkT) (b : BlkT) : checkT (shl1 (d : Int)) l b = checkW d l b := by
  unfold checkT checkW fitsW
  rw [shl1_small h]
  simp only [Int.ofNat_lt]
set_option maxRecDepth 100000 in
set_option maxHeartbeats 12800000 in
theorem rCheckG_any (d : Int) (v : Value) (l : List BlkT) (b : BlkT) (tv : Value) (w : World) (h : RdBs w w v l) (hl : l.length ≤ 10000000000) (hs : ∀ b ∈ l, BWd b) (hM : (leavesW l).length ≤ 1000000000) (hb : RdTs w tv b.txs) (hbs : BWd b) (hMb : outsN b.txs ≤ 1000000000) :
    Calls Tryz.prog 62 #[.int .i64 d, v, blkVal b tv] w fun e w' => e = .returned (.int .i64 (checkT (shl1 d) l b)) ∧ Ext w w' := by
  obtain ⟨la, lc, rfl, -⟩ := h.shape
  obtain ⟨ta, tc, rfl, -⟩ := hb.shape
  have LV : Hid (∀ u, Ext w u → Calls Tryz.prog 32 #[.slice la l.length lc] u fun e w' => ∃ x, e = .returned x ∧ FrU u w' x (leavesW l)) := hid fun u k => rLeavesG_any _ l u ((h.ext k).old k) hl hs hM
  have LB : Hid (∀ u g T, Ext w u → u.heap[g]? = some (.cells #[uv b.parent, .int .i64 b.height, uv b.miner, uv b.work, uv b.nonce, .slice ta b.txs.length tc] T (0, 0)) → Calls Tryz.prog 32 #[.slice (some ⟨g, 0, none⟩) 1 1] u fun e w' => ∃ x, e = .returned x ∧ FrU u w' x (leavesW [b])) := hid fun u g T k hg => rLeavesG_any _ [b] u (RdBs.one hg (hb.ext k)) (by simp) (fun c hc => by obtain rfl := List.mem_singleton.1 hc; exact hbs) (by rw [show leavesW [b] = outsOf b by simp [leavesW], outsOf_length]; exact hMb)
  have LL : Hid ((leavesW l).length ≤ 1000000000) := hid hM
  have LN : Hid ((leavesW [b]).length = outsN b.txs ∧ (leavesW [b]).length ≤ 1000000000) := hid (by
    have h1 : leavesW [b] = outsOf b := by simp [leavesW]
    have h2 : (leavesW [b]).length = outsN b.txs := by rw [h1, outsOf_length]
    exact ⟨h2, by rw [h2]; exact hMb⟩)
  have HS := hid hbs.t
  have hbI : (b.txs.length : Int) ≤ 10000000000 := by have := hbs.n; omega
  have hlI : (l.length : Int) ≤ 10000000000 := by omega
  obtain ⟨N, hN⟩ : ∃ N, N = w.heap.size := ⟨_, rfl⟩
  obtain ⟨w0, hw0⟩ : ∃ w0, w0 = w.alloc (.cells #[uv b.parent, .int .i64 b.height, uv b.miner, uv b.work, uv b.nonce, .slice ta b.txs.length tc] 75) := ⟨_, rfl⟩
  have hx0 : Ext w w0 := by rw [hw0]; exact (Ext.refl w).alloc _
  have hb0 : w0.heap[N]? = some (.cells #[uv b.parent, .int .i64 b.height, uv b.miner, uv b.work, uv b.nonce, .slice ta b.txs.length tc] 75 (0, 0)) := by rw [hw0, hN]; exact heap_new _ _
  have HB0 := hid hb0
  have HX0 := hid hx0
  have HW := hid hw0
  have HB := hid hb
  have HL := hid hl
  obtain ⟨R, hR⟩ : ∃ R, R = checkT (shl1 d) l b := ⟨_, rfl⟩
  have HR := hid hR
  rw [← hR]
  obtain ⟨T, hT⟩ : ∃ T : Int, T = shl1 d := ⟨_, rfl⟩
  have HT := hid hT
  obtain ⟨dn, hdn⟩ : ∃ dn : Nat, dn = (IntKind.u64.wrap d).toNat := ⟨_, rfl⟩
  have HWR : Hid (IntKind.u64.wrap d = (dn : Int) ∧ IntKind.i64.wrap (2 ^ min dn 64) = T) := hid ⟨by
    have : 0 ≤ IntKind.u64.wrap d := by rw [IntKind.wrap_u64]; omega
    rw [hdn]; omega, by rw [hT]; unfold shl1; rw [← hdn]⟩
  obtain ⟨c0, c1, c2, c3, c4, c5⟩ := six_cellsB hb0
  clear h hb hs hbs hl hM hMb hx0 hb0 hw0 hR hT hdn
  go_enter Tryz.func62, Tryz.ntmps62
  go_upto_region 1 with fail
  rw [← HW.out, ← hN]
  clear hN HW
  by_cases hh : b.height = (l.length : Int) + 1
  case neg =>
    have hhB : decide (b.height = (l.length : Int) + 1) = false := decide_eq_false hh
    obtain rfl : R = 18 := by rw [HR.out]; unfold checkT; rw [if_neg hh]
    go_wp2_with fail
    go_ret
    exact ⟨rfl, HX0.out⟩
  have HHH := hid hh
  have hhB : decide (b.height = (l.length : Int) + 1) = true := decide_eq_true hh
  go_wp2_with fail
  clear hh hhB c0 c1 c2 c3 c4 c5
  go_loopw [7] (fun iv wr => ∃ i : Nat, i ≤ b.txs.length ∧ iv = .int .i64 i ∧ Hid ((∀ (j : Nat) (t : TxT), j < i → b.txs[j]? = some t → txV t = 0) ∧ Ext w0 wr)) (fun iv _ => b.txs.length - (intOf iv).toNat)
  case atStart => exact ⟨0, by omega, rfl, hid ⟨fun j t hj => by omega, Ext.refl w0⟩⟩
  case round =>
    obtain ⟨i, hi, rfl, HI⟩ := hrel
    have hi0 : (0 : Int) ≤ (i : Int) := Int.natCast_nonneg _
    obtain ⟨c0, c1, c2, c3, c4, c5⟩ := six_cellsB (HI.out.2.heap_some HB0.out)
    by_cases hlt : i < b.txs.length
    · have hltB : decide ((i : Int) < (b.txs.length : Int)) = true := by simp; omega
      have hil : (i : Int) < (b.txs.length : Int) := by omega
      obtain ⟨x, hxi⟩ : ∃ x, b.txs[i]? = some x := ⟨_, List.getElem?_eq_getElem hlt⟩
      obtain ⟨q, o, ma, mc, oa, oc, pa', pc', rfl, hrx, e0, e1, e2, e3, e4, e5, e6, e7, e8, e9⟩ := (HB.out.ext (HX0.out.trans HI.out.2)).at hxi
      have TV := hid (rTxValidG_any x _ _ _ wr hrx (HS.out x (List.mem_of_getElem? hxi)))
      have HXI := hid hxi
      obtain ⟨V, hV⟩ : ∃ V, V = txV x := ⟨_, rfl⟩
      rw [← hV] at TV
      have HV := hid hV
      clear hxi hrx hV
      go_wp2_with fail
      refine (TV.out).mono ?_
      rintro e w2 ⟨rfl, hx⟩
      have X2 := hid (HI.out.2.trans hx)
      clear hx TV e0 e1 e2 e3 e4 e5 e6 e7 e8 e9 c0 c1 c2 c3 c4 c5
      by_cases hv : V = 0
      · subst hv
        have HN := hid (And.intro (fun (j : Nat) (t : TxT) (hj : j < i + 1) (ht : b.txs[j]? = some t) => show txV t = 0 from by
          by_cases hji : j = i
          · subst hji
            rw [HXI.out] at ht
            obtain rfl := Option.some.inj ht
            exact HV.out.symm
          · exact HI.out.1 j t (by omega) ht) X2.out)
        go_wp2_with fail
        go_roundw
        case rel => exact ⟨i + 1, by omega, by go_num, HN⟩
        case measure => simp [intOf]; omega
      · have hvB : decide (V = 0) = false := decide_eq_false hv
        obtain rfl : R = 1 := by
          rw [HR.out]
          unfold checkT
          rw [if_pos HHH.out, if_neg]
          intro h
          have := List.all_eq_true.1 h x (List.mem_of_getElem? HXI.out)
          rw [decide_eq_true_eq, ← HV.out] at this
          exact hv this
        go_wp2_with fail
        go_ret
        exact ⟨rfl, HX0.out.trans X2.out⟩
    · have hltB : decide ((i : Int) < (b.txs.length : Int)) = false := by simp; omega
      obtain rfl : i = b.txs.length := by omega
      have hall : (b.txs.all fun t => decide (txV t = 0)) = true := by
        rw [List.all_eq_true]
        intro t ht
        obtain ⟨j, hj, rfl⟩ := List.getElem_of_mem ht
        simpa using HI.out.1 j _ hj (List.getElem?_eq_getElem hj)
      obtain ⟨a, ha⟩ : ∃ a, a = (leavesW l).length := ⟨_, rfl⟩
      obtain ⟨c, hc⟩ : ∃ c, c = (leavesW [b]).length := ⟨_, rfl⟩
      have HRE : Hid (R = if T < (a : Int) + (c : Int) then 16 else 0) := hid (by
        rw [HR.out, ha, hc, LN.out.1]
        unfold checkT
        rw [if_pos HHH.out, if_pos hall, HT.out, Int.natCast_add])
      have haI : (a : Int) ≤ 1000000000 := by have := LL.out; omega
      have hcI : (c : Int) ≤ 1000000000 := by have := LN.out.2; omega
      have ha0 : (0 : Int) ≤ (a : Int) := Int.natCast_nonneg _
      have hc0 : (0 : Int) ≤ (c : Int) := Int.natCast_nonneg _
      have XR := hid HI.out.2
      have HA := hid ha
      have HC := hid hc
      have HSV : Hid (∀ u, Ext wr u → (u.cell? ⟨N, 0, none⟩ = some (uv b.parent) ∧ u.cell? ⟨N, 1, none⟩ = some (.int .i64 b.height) ∧ u.cell? ⟨N, 2, none⟩ = some (uv b.miner) ∧ u.cell? ⟨N, 3, none⟩ = some (uv b.work) ∧ u.cell? ⟨N, 4, none⟩ = some (uv b.nonce) ∧ u.cell? ⟨N, 5, none⟩ = some (.slice ta b.txs.length tc)) ∧ Ext wr u) := hid fun u k => ⟨six_cellsB (k.heap_some (XR.out.heap_some HB0.out)), k⟩
      have hwr1 := HWR.out.1
      have hwr2 := HWR.out.2
      clear hall ha hc HI HR
      go_wp2_with fail
      clear c0 c1 c2 c3 c4 c5
      refine wp_region_N (fun u => (u.cell? ⟨N, 0, none⟩ = some (uv b.parent) ∧ u.cell? ⟨N, 1, none⟩ = some (.int .i64 b.height) ∧ u.cell? ⟨N, 2, none⟩ = some (uv b.miner) ∧ u.cell? ⟨N, 3, none⟩ = some (uv b.work) ∧ u.cell? ⟨N, 4, none⟩ = some (uv b.nonce) ∧ u.cell? ⟨N, 5, none⟩ = some (.slice ta b.txs.length tc)) ∧ Ext wr u) 11 12 (by kernel_rfl) (by kernel_rfl) ?_
      intro ops hops
      have HS0 := HSV.out _ (Ext.refl wr).drew
      refine N_take (i := 0) (v := ?_) (by rw [hops, List.getElem?_toArray]; rfl) (by rw [hops]; kernel_rfl) (by intro c a d v w h; cases d <;> exact h) (by first | rfl | (rw [hops]; rfl)) ?_ HS0 ?_
      rotate_left
      · intro v h; go_simp; with_reducible rfl
      simp only [Act.put, List.getElem_toArray, List.getElem_cons_zero, List.getElem_cons_succ, List.setIfInBounds_toArray, List.set_cons_zero, List.set_cons_succ]
      refine N_take (i := 3) (v := ?_) (by rw [hops, List.getElem?_toArray]; rfl) (by rw [hops]; kernel_rfl) (by intro c a d v w h; cases d <;> exact h) (by first | rfl | (rw [hops]; rfl)) ?_ HS0 ?_
      rotate_left
      · intro v h; go_simp; with_reducible rfl
      simp only [Act.put, List.getElem_toArray, List.getElem_cons_zero, List.getElem_cons_succ, List.setIfInBounds_toArray, List.set_cons_zero, List.set_cons_succ]
      refine N_take (i := 8) (v := ?_) (by rw [hops, List.getElem?_toArray]; rfl) (by rw [hops]; kernel_rfl) (by intro c a d v w h; cases d <;> exact h) (by first | rfl | (rw [hops]; rfl)) ?_ HS0 ?_
      rotate_left
      · intro v h; go_simp; with_reducible rfl
      simp only [Act.put, List.getElem_toArray, List.getElem_cons_zero, List.getElem_cons_succ, List.setIfInBounds_toArray, List.set_cons_zero, List.set_cons_succ]
      refine N_take (i := 9) (v := ?_) (by rw [hops, List.getElem?_toArray]; rfl) (by rw [hops]; kernel_rfl) (by intro c a d v w h; cases d <;> exact h) (by first | rfl | (rw [hops]; rfl)) ?_ HS0 ?_
      rotate_left
      · intro v h; go_simp; with_reducible rfl
      simp only [Act.put, List.getElem_toArray, List.getElem_cons_zero, List.getElem_cons_succ, List.setIfInBounds_toArray, List.set_cons_zero, List.set_cons_succ]
      refine N_take (i := 10) (v := ?_) (by rw [hops, List.getElem?_toArray]; rfl) (by rw [hops]; kernel_rfl) (by intro c a d v w h; cases d <;> exact h) (by first | rfl | (rw [hops]; rfl)) ?_ HS0 ?_
      rotate_left
      · intro v h; go_simp; with_reducible rfl
      simp only [Act.put, List.getElem_toArray, List.getElem_cons_zero, List.getElem_cons_succ, List.setIfInBounds_toArray, List.set_cons_zero, List.set_cons_succ]
      refine N_two (i := 1) (k := 4) (by rw [hops]; rfl) (by rw [hops, List.getElem?_toArray]; rfl) (by rw [hops]; kernel_rfl) (by first | rfl | (rw [hops]; rfl)) (by first | rfl | (rw [hops]; rfl)) ?_ ?_
      · intro K hK
        go_wp2_with fail
        refine (LV.out _ (HX0.out.trans (XR.out.trans HS0.2))).mono ?_
        rintro e v1 ⟨x1, rfl, hf1⟩
        obtain ⟨xa, xc, rfl, -⟩ := ownsRow_rd hf1.1
        rw [← HA.out]
        have HS1 := HSV.out v1 (HS0.2.trans hf1.2.1)
        clear hf1 HS0
        refine hK _ _ ⟨fun _ => HS1, ?_⟩
        clear hK K
        refine N_take (i := 2) (v := ?_) (by rw [hops, List.getElem?_toArray]; rfl) (by rw [hops]; kernel_rfl) (by intro c a d v w h; cases d <;> exact h) (by first | rfl | (rw [hops]; rfl)) ?_ HS1 ?_
        rotate_left
        · intro v h; go_simp; with_reducible rfl
        simp only [Act.put, List.getElem_toArray, List.getElem_cons_zero, List.getElem_cons_succ, List.setIfInBounds_toArray, List.set_cons_zero, List.set_cons_succ]
        have hbb := heap_new v1 (.cells #[uv b.parent, .int .i64 b.height, uv b.miner, uv b.work, uv b.nonce, .slice ta b.txs.length tc] 75)
        have HS2 := HSV.out _ (HS1.2.alloc (.cells #[uv b.parent, .int .i64 b.height, uv b.miner, uv b.work, uv b.nonce, .slice ta b.txs.length tc] 75))
        refine N_one (i := 4) (by rw [hops, List.getElem?_toArray]; rfl) (by rw [hops]; kernel_rfl) (by first | rfl | (rw [hops]; rfl)) ?_
        intro K hK
        go_wp2_with fail
        refine ⟨fun _ => HS2, ?_⟩
        try rw [← hops]
        refine N_one (i := 5) (by rw [hops, List.getElem?_toArray]; rfl) (by rw [hops]; kernel_rfl) (by first | rfl | (rw [hops]; rfl)) ?_
        intro K hK
        go_wp2_with fail
        refine (LB.out _ _ _ (HX0.out.trans (XR.out.trans HS2.2)) hbb).mono ?_
        rintro e v3 ⟨x3, rfl, hf3⟩
        obtain ⟨ya, yc, rfl, -⟩ := ownsRow_rd hf3.1
        rw [← HC.out]
        have XF := hid (HX0.out.trans (XR.out.trans (HS2.2.trans hf3.2.1)))
        have HS3 := HSV.out v3 (HS2.2.trans hf3.2.1)
        clear hf3 HS1 HS2 hbb
        refine hK _ _ ⟨fun _ => HS3, ?_⟩
        clear hK K
        refine N_take (i := 6) (v := ?_) (by rw [hops, List.getElem?_toArray]; rfl) (by rw [hops]; kernel_rfl) (by intro c a d v w h; cases d <;> exact h) (by first | rfl | (rw [hops]; rfl)) ?_ HS3 ?_
        rotate_left
        · intro v h; go_simp; with_reducible rfl
        simp only [Act.put, List.getElem_toArray, List.getElem_cons_zero, List.getElem_cons_succ, List.setIfInBounds_toArray, List.set_cons_zero, List.set_cons_succ]
        refine N_take (i := 7) (v := ?_) (by rw [hops, List.getElem?_toArray]; rfl) (by rw [hops]; kernel_rfl) (by intro c a d v w h; cases d <;> exact h) (by first | rfl | (rw [hops]; rfl)) ?_ HS3 ?_
        rotate_left
        · intro v h; go_simp; with_reducible rfl
        simp only [Act.put, List.getElem_toArray, List.getElem_cons_zero, List.getElem_cons_succ, List.setIfInBounds_toArray, List.set_cons_zero, List.set_cons_succ]
        clear HS3
        refine N_one (i := 11) (by rw [hops, List.getElem?_toArray]; rfl) (by rw [hops]; kernel_rfl) (by first | rfl | (rw [hops]; rfl)) ?_
        intro K hK
        go_wp2_with fail
        refine ⟨fun h => absurd h (by decide), ?_⟩
        try rw [← hops]
        refine N_done (by rw [hops]; kernel_rfl) ?_
        clear hops ops
        by_cases hfull : T < (a : Int) + (c : Int)
        · have hfB : decide (T < (a : Int) + (c : Int)) = true := decide_eq_true hfull
          obtain rfl : R = 16 := by rw [HRE.out, if_pos hfull]
          go_wp2_with fail
          go_ret
          exact ⟨rfl, XF.out⟩
        · have hfB : decide (T < (a : Int) + (c : Int)) = false := decide_eq_false hfull
          obtain rfl : R = 0 := by rw [HRE.out, if_neg hfull]
          go_wp2_with fail
          go_ret
          exact ⟨rfl, XF.out⟩
      · intro K hK
        go_wp2_with fail
        have hbb := heap_new wr.drew (.cells #[uv b.parent, .int .i64 b.height, uv b.miner, uv b.work, uv b.nonce, .slice ta b.txs.length tc] 75)
        have HS2 := HSV.out _ (HS0.2.alloc (.cells #[uv b.parent, .int .i64 b.height, uv b.miner, uv b.work, uv b.nonce, .slice ta b.txs.length tc] 75))
        refine ⟨fun _ => HS2, ?_⟩
        try rw [← hops]
        refine N_one (i := 1) (by rw [hops, List.getElem?_toArray]; rfl) (by rw [hops]; kernel_rfl) (by first | rfl | (rw [hops]; rfl)) ?_
        intro K hK
        go_wp2_with fail
        refine (LV.out _ (HX0.out.trans (XR.out.trans HS2.2))).mono ?_
        rintro e v1 ⟨x1, rfl, hf1⟩
        obtain ⟨xa, xc, rfl, -⟩ := ownsRow_rd hf1.1
        rw [← HA.out]
        have HS1 := HSV.out v1 (HS2.2.trans hf1.2.1)
        have hb1 := hf1.2.1.heap_some hbb
        clear hf1 HS0 HS2 hbb
        refine hK _ _ ⟨fun _ => HS1, ?_⟩
        clear hK K
        refine N_take (i := 2) (v := ?_) (by rw [hops, List.getElem?_toArray]; rfl) (by rw [hops]; kernel_rfl) (by intro c a d v w h; cases d <;> exact h) (by first | rfl | (rw [hops]; rfl)) ?_ HS1 ?_
        rotate_left
        · intro v h; go_simp; with_reducible rfl
        simp only [Act.put, List.getElem_toArray, List.getElem_cons_zero, List.getElem_cons_succ, List.setIfInBounds_toArray, List.set_cons_zero, List.set_cons_succ]
        refine N_one (i := 5) (by rw [hops, List.getElem?_toArray]; rfl) (by rw [hops]; kernel_rfl) (by first | rfl | (rw [hops]; rfl)) ?_
        intro K hK
        go_wp2_with fail
        refine (LB.out _ _ _ (HX0.out.trans (XR.out.trans HS1.2)) hb1).mono ?_
        rintro e v3 ⟨x3, rfl, hf3⟩
        obtain ⟨ya, yc, rfl, -⟩ := ownsRow_rd hf3.1
        rw [← HC.out]
        have XF := hid (HX0.out.trans (XR.out.trans (HS1.2.trans hf3.2.1)))
        have HS3 := HSV.out v3 (HS1.2.trans hf3.2.1)
        clear hf3 HS1 hb1
        refine hK _ _ ⟨fun _ => HS3, ?_⟩
        clear hK K
        refine N_take (i := 6) (v := ?_) (by rw [hops, List.getElem?_toArray]; rfl) (by rw [hops]; kernel_rfl) (by intro c a d v w h; cases d <;> exact h) (by first | rfl | (rw [hops]; rfl)) ?_ HS3 ?_
        rotate_left
        · intro v h; go_simp; with_reducible rfl
        simp only [Act.put, List.getElem_toArray, List.getElem_cons_zero, List.getElem_cons_succ, List.setIfInBounds_toArray, List.set_cons_zero, List.set_cons_succ]
        refine N_take (i := 7) (v := ?_) (by rw [hops, List.getElem?_toArray]; rfl) (by rw [hops]; kernel_rfl) (by intro c a d v w h; cases d <;> exact h) (by first | rfl | (rw [hops]; rfl)) ?_ HS3 ?_
        rotate_left
        · intro v h; go_simp; with_reducible rfl
        simp only [Act.put, List.getElem_toArray, List.getElem_cons_zero, List.getElem_cons_succ, List.setIfInBounds_toArray, List.set_cons_zero, List.set_cons_succ]
        clear HS3
        refine N_one (i := 11) (by rw [hops, List.getElem?_toArray]; rfl) (by rw [hops]; kernel_rfl) (by first | rfl | (rw [hops]; rfl)) ?_
        intro K hK
        go_wp2_with fail
        refine ⟨fun h => absurd h (by decide), ?_⟩
        try rw [← hops]
        refine N_done (by rw [hops]; kernel_rfl) ?_
        clear hops ops
        by_cases hfull : T < (a : Int) + (c : Int)
        · have hfB : decide (T < (a : Int) + (c : Int)) = true := decide_eq_true hfull
          obtain rfl : R = 16 := by rw [HRE.out, if_pos hfull]
          go_wp2_with fail
          go_ret
          exact ⟨rfl, XF.out⟩
        · have hfB : decide (T < (a : Int) + (c : Int)) = false := decide_eq_false hfull
          obtain rfl : R = 0 := by rw [HRE.out, if_neg hfull]
          go_wp2_with fail
          go_ret
          exact ⟨rfl, XF.out⟩
end Go.Proofs.YtcikjcjfcanloaaGreat
namespace Go.Proofs.YtcikjcjfcanloaaGreat
open Go.RowKit
attribute [local irreducible] perm fAdd fMul fPow fSub fNeg fRed hashU drawOf nextState
set_option maxRecDepth 100000 in
set_option maxHeartbeats 800000 in
theorem Equal_any (av bv : Value) (a b : List UInt64) (w : World) (ha : RdU w av a) (hb : RdU w bv b) (hA : a.length ≤ 1000000000000) (hB : b.length ≤ 1000000000000) :
    Calls Tryz.prog 169 #[av, bv] w fun e w' => e = .returned (.bool (a == b)) ∧ Ext w w' := by
  have HA := hid ha
  have HB := hid hb
  obtain ⟨aa, ac, rfl, -⟩ := ha
  obtain ⟨ba, bc, rfl, -⟩ := hb
  have hA1 : (a.length : Int) ≤ 1000000000000 := by omega
  go_enter Tryz.func169, Tryz.ntmps169
  by_cases hlen : a.length = b.length
  · have hlB : ((a.length : Int) != (b.length : Int)) = false := by simp [hlen]
    have HL := hid hlen
    clear hlen
    go_wp2
    go_loopw [13] (fun iv wr => ∃ i : Nat, i ≤ a.length ∧ iv = .int .i64 i ∧ Hid (a.take i = b.take i) ∧ Ext w wr) (fun iv _ => a.length - (intOf iv).toNat)
    case atStart => exact ⟨0, by omega, rfl, hid rfl, Ext.refl _⟩
    case round =>
      obtain ⟨i, hi, rfl, hI, hE⟩ := hrel
      have HE := hid hE
      clear hE
      by_cases hlt : i < a.length
      · have hlt2 : i < b.length := by rw [← HL.out]; exact hlt
        have hx : a[i]? = some a[i] := List.getElem?_eq_getElem hlt
        have hy : b[i]? = some b[i] := List.getElem?_eq_getElem hlt2
        generalize a[i] = x at *
        generalize b[i] = y at *
        obtain ⟨ab, ao, rfl, hca⟩ := HA.out.at hx
        obtain ⟨bb, bo, rfl, hcb⟩ := HB.out.at hy
        have HX := hid hx
        have HY := hid hy
        have H : ∀ v, Ext w v → v.cell? ⟨ab, ao + i, none⟩ = some (.int .u64 x.toNat) ∧ v.cell? ⟨bb, bo + i, none⟩ = some (.int .u64 y.toNat) := fun v k => ⟨k.cell_some hca, k.cell_some hcb⟩
        have hd : decide ((i : Int) < (a.length : Int)) = true := by simp; omega
        have HS0 : (wr.drew.cell? ⟨ab, ao + i, none⟩ = some (.int .u64 x.toNat) ∧ wr.drew.cell? ⟨bb, bo + i, none⟩ = some (.int .u64 y.toNat)) ∧ Ext w wr.drew := ⟨H _ HE.out.drew, HE.out.drew⟩
        have HH := hid H
        have i1 : (i : Int) < (a.length : Int) := by omega
        have i2 : (i : Int) < (b.length : Int) := by omega
        clear hx hy hca hcb H
        go_wp2_with fail
        refine wp_region_T (fun v => (v.cell? ⟨ab, ao + i, none⟩ = some (.int .u64 x.toNat) ∧ v.cell? ⟨bb, bo + i, none⟩ = some (.int .u64 y.toNat)) ∧ Ext w v) 8 [(0, true), (1, true), (2, true), (3, true), (4, true), (5, true), (6, true), (7, true), (8, false)] (by kernel_rfl) (by kernel_rfl) (by intro c a d v w h; cases d <;> exact h) ?_
        intro ops hops
        iterate 8
          refine wpT_take (v := ?_) (by rw [hops, List.getElem?_toArray]; rfl) (by first | rfl | (rw [hops]; rfl)) ?_ HS0 ?_
          rotate_left
          · intro v h; go_simp; with_reducible rfl
          simp only [Act.put, List.getElem_toArray, List.getElem_cons_zero, List.getElem_cons_succ, List.setIfInBounds_toArray, List.set_cons_zero, List.set_cons_succ]
        by_cases hxy : x = y
        · have hd2 : ((x.toNat : Int) != (y.toNat : Int)) = false := by simp [hxy]
          have HXY := hid hxy
          clear hxy
          refine wpT_step (by rw [hops, List.getElem?_toArray]; rfl) (by first | rfl | (rw [hops]; rfl)) ?_
          intro K hK
          go_wp2_with fail
          refine ⟨fun h => absurd h (by decide), ?_⟩
          rw [wpT_nil]
          clear hops ops
          have hE2 := HS0.2
          have HE2 := hid hE2
          clear hE2 HS0
          go_wp2
          go_roundw
          case rel => exact ⟨i + 1, by omega, by go_num, hid (same_snoc HX.out HY.out hI.out HXY.out), HE2.out⟩
          case measure => simp [intOf]; omega
        · have hd2 : ((x.toNat : Int) != (y.toNat : Int)) = true := by
            simp only [bne_iff_ne, ne_eq]
            intro h; exact hxy (UInt64.toNat_inj.1 (by omega))
          have hfin : (a == b) = false := by
            rw [beq_eq_false_iff_ne]; rintro rfl
            have h1 := HX.out
            rw [HY.out] at h1
            exact hxy (Option.some.inj h1).symm
          have HF := hid hfin
          clear hfin hxy
          refine wpT_step (by rw [hops, List.getElem?_toArray]; rfl) (by first | rfl | (rw [hops]; rfl)) ?_
          intro K hK
          go_wp2_with fail
          refine ⟨fun h => absurd h (by decide), ?_⟩
          rw [wpT_nil]
          clear hops ops
          have hE2 := HS0.2
          have HE2 := hid hE2
          clear hE2 HS0
          go_wp2
          go_ret
          exact ⟨ret_bool HF.out.symm, HE2.out⟩
      · have hi' : i = a.length := by omega
        have hfin : (a == b) = true := by
          have h1 := hI.out
          rw [hi', List.take_length] at h1
          have h2 := HL.out
          rw [h2, List.take_length] at h1
          simpa using h1
        have HF := hid hfin
        have hd : decide ((i : Int) < (a.length : Int)) = false := by simp; omega
        clear hfin
        go_wp2
        go_ret
        exact ⟨ret_bool HF.out.symm, HE.out⟩
  · have hlB : ((a.length : Int) != (b.length : Int)) = true := by simp; omega
    have hfin : (a == b) = false := by
      rw [beq_eq_false_iff_ne]; rintro rfl; exact hlen rfl
    have HF := hid hfin
    clear hfin hlen
    go_wp2
    go_ret
    exact ⟨ret_bool HF.out.symm, Ext.refl _⟩
set_option maxRecDepth 100000 in
set_option maxHeartbeats 800000 in
theorem EqualW_any (av bv : Value) (a b : List UInt64) (w : World) (ha : RdU' w av a) (hb : RdU' w bv b) (hA : a.length ≤ 1000000000000) (hB : b.length ≤ 1000000000000) :
    Calls Tryz.prog 169 #[av, bv] w fun e w' => e = .returned (.bool (a == b)) ∧ Ext w w' := by
  by_cases hlen : a.length = b.length
  · cases a with
    | nil =>
      obtain rfl : b = [] := List.length_eq_zero_iff.1 hlen.symm
      obtain ⟨aa, ac, rfl, -⟩ := ha
      obtain ⟨ba, bc, rfl, -⟩ := hb
      go_enter Tryz.func169, Tryz.ntmps169
      go_wp2
      go_loopw [13] (fun iv wr => iv = .int .i64 0 ∧ wr = w) (fun _ _ => 0)
      case atStart => exact ⟨rfl, rfl⟩
      case round =>
        obtain ⟨rfl, rfl⟩ := hrel
        go_wp2
        go_ret
        exact ⟨rfl, Ext.refl _⟩
    | cons x r =>
      cases b with
      | nil => simp at hlen
      | cons y s => exact Equal_any av bv _ _ w (ha.rdu (by simp)) (hb.rdu (by simp)) hA hB
  · obtain ⟨aa, ac, rfl, -⟩ := ha
    obtain ⟨ba, bc, rfl, -⟩ := hb
    have hlB : ((a.length : Int) != (b.length : Int)) = true := by simp; omega
    have hfin : (a == b) = false := by
      rw [beq_eq_false_iff_ne]; rintro rfl; exact hlen rfl
    have HF := hid hfin
    clear hfin hlen
    go_enter Tryz.func169, Tryz.ntmps169
    go_wp2
    go_ret
    exact ⟨ret_bool HF.out.symm, Ext.refl _⟩
theorem run_strW (w : World) (v : Value) (l : List UInt8) (h : RdB' w v l) : (convert 69 9 v).run Tryz.prog w = .ok (.string ⟨l.toArray⟩) w := by
  obtain ⟨a, c, rfl, h2, h3, h4, h5⟩ := h
  cases a with
  | none =>
    have hc := h4 rfl
    obtain rfl : l = [] := List.eq_nil_of_length_eq_zero (by omega)
    rw [run_convert_bytes_nil w _ _ Tryz.underlying69 Tryz.underlying5 _ _ _ Tryz.underlying9]
    rfl
  | some ad =>
    exact run_convert_bytes_back w _ _ _ ad c l Tryz.underlying69 Tryz.underlying5 Tryz.underlying9 (fun j hj => h5 ad rfl j _ (by rw [List.getElem?_map, List.getElem?_eq_getElem hj]; rfl))
set_option maxRecDepth 100000 in
theorem bEqual_any (av bv : Value) (a b : List UInt8) (w : World) (ha : RdB' w av a) (hb : RdB' w bv b) :
    Calls Tryz.prog 95 #[av, bv] w fun e w' => e = .returned (.bool (decide (a = b))) ∧ Ext w w' := by
  have hca := run_strW w _ _ ha
  have hcb := run_strW w _ _ hb
  obtain ⟨aa, ac, rfl, -⟩ := ha
  obtain ⟨ba, bc, rfl, -⟩ := hb
  obtain ⟨R, hR⟩ : ∃ R, R = decide (a = b) := ⟨_, rfl⟩
  rw [← hR]
  by_cases h : a = b
  · have hE : R = true := by rw [hR]; exact decide_eq_true h
    subst h
    subst hE
    clear hR
    go_enter Tryz.func95, Tryz.ntmps95
    go_wp2_with fail
    go_ret
    exact ⟨rfl, Ext.refl w⟩
  · have hE : R = false := by rw [hR]; exact decide_eq_false h
    subst hE
    have hne : (a == b) = false := by rw [beq_eq_false_iff_ne]; exact h
    clear hR h
    go_enter Tryz.func95, Tryz.ntmps95
    go_wp2_with fail
    go_ret
    exact ⟨rfl, Ext.refl w⟩
instance : DecidableEq OutT := fun a b => decidable_of_iff (a.commit = b.commit ∧ (a.p.a = b.p.a ∧ a.p.b = b.p.b) ∧ a.cipher = b.cipher) (by
  obtain ⟨a1, ⟨a2, a3⟩, a4⟩ := a
  obtain ⟨b1, ⟨b2, b3⟩, b4⟩ := b
  simp)
instance : DecidableEq TxT := fun a b => decidable_of_iff (a.anchor = b.anchor ∧ a.marks = b.marks ∧ a.outs = b.outs ∧ a.deposit = b.deposit ∧ a.withdraw = b.withdraw ∧ a.fee = b.fee ∧ a.account = b.account ∧ a.nonce = b.nonce ∧ a.expiry = b.expiry ∧ a.proof = b.proof) (by
  cases a; cases b; simp)
instance : DecidableEq BlkT := fun a b => decidable_of_iff (a.parent = b.parent ∧ a.height = b.height ∧ a.miner = b.miner ∧ a.work = b.work ∧ a.nonce = b.nonce ∧ a.txs = b.txs) (by
  cases a; cases b; simp)
theorem ub_eqR (x y : UInt64) : ((x.toNat : Int) == (y.toNat : Int)) = (x == y) := by
  rw [Bool.eq_iff_iff]
  simp only [beq_iff_eq]
  constructor
  · intro h; exact UInt64.toNat_inj.1 (by omega)
  · rintro rfl; rfl
theorem infoE_u64R : (Tryz.prog.info? 22).isSome = true := by kernel_rfl
theorem arrE_underR : Tryz.prog.underlying 94 = some (.array 2 22) := by kernel_rfl
theorem u64E_cellsR : Tryz.prog.cellsOf 22 = 1 := by kernel_rfl
theorem e2EqR (xa xb ya yb : UInt64) (w : World) : (Op.equalIn 10000 94 (.agg #[uv xa, uv xb]) (.agg #[uv ya, uv yb])).run Tryz.prog w = .ok (xa == ya && xb == yb) w := by
  obtain ⟨i, hi⟩ := Option.isSome_iff_exists.1 infoE_u64R
  rw [show (10000 : Nat) = 9999 + 1 from rfl, run_equalIn_array w 9999 _ _ arrE_underR hi, u64E_cellsR, show List.range 2 = [0, 1] from rfl]
  have hu : Tryz.prog.underlying 22 = some (.int .u64) := Tryz.underlying22
  simp [Op.eqItems, go_sem, hu, ub_eqR]
  by_cases h0 : xa = ya <;> by_cases h1 : xb = yb <;> simp [h0, h1]
theorem uv_ne {x y : UInt64} (h : x ≠ y) : ((x.toNat : Int) == (y.toNat : Int)) = false ∧ ¬ x.toNat = y.toNat := ⟨by rw [beq_eq_false_iff_ne]; exact fun e => h (UInt64.toNat_inj.1 (by omega)), fun e => h (UInt64.toNat_inj.1 e)⟩
set_option maxRecDepth 100000 in
set_option maxHeartbeats 6400000 in
theorem sameOut_any (x y : OutT) (xv yv : Value) (w : World) (hx : RdU' w xv x.cipher) (hy : RdU' w yv y.cipher) (sx : x.cipher.length ≤ 1000) (sy : y.cipher.length ≤ 1000) :
    Calls Tryz.prog 171 #[.agg #[uv x.commit, uv x.p.a, uv x.p.b, xv], .agg #[uv y.commit, uv y.p.a, uv y.p.b, yv]] w fun e w' => e = .returned (.bool (decide (x = y))) ∧ Ext w w' := by
  have EQ : Hid (∀ u, Ext w u → Calls Tryz.prog 169 #[xv, yv] u fun e w' => e = .returned (.bool (x.cipher == y.cipher)) ∧ Ext u w') := hid fun u k => EqualW_any xv yv _ _ u (hx.ext k) (hy.ext k) (by omega) (by omega)
  obtain ⟨xa, xc, rfl, -⟩ := id hx
  obtain ⟨ya, yc, rfl, -⟩ := id hy
  obtain ⟨xm, ⟨xp, xq⟩, xl⟩ := x
  obtain ⟨ym, ⟨yp, yq⟩, yl⟩ := y
  simp only at EQ ⊢
  obtain ⟨R, hR⟩ : ∃ R, R = decide ((⟨xm, ⟨xp, xq⟩, xl⟩ : OutT) = ⟨ym, ⟨yp, yq⟩, yl⟩) := ⟨_, rfl⟩
  rw [← hR]
  have HR : Hid (R = decide (xm = ym ∧ (xp = yp ∧ xq = yq) ∧ xl = yl)) := hid (by rw [hR]; simp)
  obtain ⟨N, hN⟩ : ∃ N, N = w.heap.size := ⟨_, rfl⟩
  obtain ⟨w0, hw0⟩ : ∃ w0, w0 = (w.alloc (.cells #[uv xm, uv xp, uv xq, .slice xa xl.length xc] 103)).alloc (.cells #[uv ym, uv yp, uv yq, .slice ya yl.length yc] 103) := ⟨_, rfl⟩
  have hx0 : Ext w w0 := by rw [hw0]; exact ((Ext.refl w).alloc _).alloc _
  have hb0 : w0.heap[N]? = some (.cells #[uv xm, uv xp, uv xq, .slice xa xl.length xc] 103 (0, 0)) := by rw [hw0, hN]; exact heap_alloc_some (heap_new _ _)
  have hb1 : w0.heap[N + 1]? = some (.cells #[uv ym, uv yp, uv yq, .slice ya yl.length yc] 103 (0, 0)) := by
    rw [hw0, hN]
    have := heap_new (w.alloc (.cells #[uv xm, uv xp, uv xq, .slice xa xl.length xc] 103)) (.cells #[uv ym, uv yp, uv yq, .slice ya yl.length yc] 103)
    simpa using this
  have HX0 := hid hx0
  have HW := hid hw0
  obtain ⟨a0, a1, a2, a3⟩ := four_cells hb0
  obtain ⟨b0, b1, b2, b3⟩ := four_cells hb1
  clear hw0 hx0 hb0 hb1 hR hx hy sx sy
  go_enter Tryz.func171, Tryz.ntmps171
  go_upto_region 1 with fail
  rw [← HW.out, ← hN]
  clear hN HW
  by_cases h1 : xm = ym
  case neg =>
    obtain rfl : R = false := by rw [HR.out]; simp [h1]
    obtain ⟨n1, n2⟩ := uv_ne h1
    clear h1
    go_wp2_with fail
    go_ret
    exact ⟨rfl, HX0.out⟩
  subst h1
  by_cases h2 : xp = yp ∧ xq = yq
  case neg =>
    obtain rfl : R = false := by rw [HR.out, decide_eq_false_iff_not]; exact fun h => h2 h.2.1
    have HEQ : ∀ u : World, (Op.equalIn 10000 94 (.agg #[uv xp, uv xq]) (.agg #[uv yp, uv yq])).run Tryz.prog u = .ok false u := fun u => by
      rw [e2EqR, show (xp == yp && xq == yq) = false by rw [Bool.eq_false_iff]; simpa using h2]
    clear h2
    go_wp2_with fail
    go_ret
    exact ⟨rfl, HX0.out⟩
  obtain ⟨rfl, rfl⟩ := h2
  have HEQ : ∀ u : World, (Op.equalIn 10000 94 (.agg #[uv xp, uv xq]) (.agg #[uv xp, uv xq])).run Tryz.prog u = .ok true u := fun u => by
    rw [e2EqR]; simp
  have HR2 : Hid (R = (xl == yl)) := hid (by rw [HR.out]; by_cases h : xl = yl <;> simp [h])
  obtain ⟨E, hE⟩ : ∃ E, E = (xl == yl) := ⟨_, rfl⟩
  rw [← hE] at EQ HR2
  obtain rfl : R = E := HR2.out
  clear hE HR HR2
  go_wp2_with fail
  refine (EQ.out _ HX0.out).mono ?_
  rintro e w1 ⟨rfl, hx⟩
  have X1 := hid (HX0.out.trans hx)
  clear hx EQ HEQ
  go_wp2_with fail
  go_ret
  exact ⟨rfl, X1.out⟩
end Go.Proofs.YtcikjcjfcanloaaGreat
