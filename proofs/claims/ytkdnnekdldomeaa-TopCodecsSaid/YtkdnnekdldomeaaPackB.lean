/- Bytes packed and hashed: sponge.Pack, HashBytes; moidoreref08.Pack, HashBytes. -/
import Derived.Test.YtkdnnekdldomeaaWire
import Derived.Test.YtkdnnekdldomeaaRefHash
import Derived.Laws.Bits64b
set_option linter.unusedSimpArgs false
namespace Go.Proofs.Ytkdnnekdldomeaa
open Go.RowKit
attribute [local irreducible] perm fAdd fMul fPow fSub fNeg fRed hashU
theorem packG_nil : packG [] = [] := by rw [packG]
theorem packG_cons {l : List UInt8} (h : l ≠ []) : packG l = UInt64.ofNat (leV (l.take 7)) :: packG (l.drop 7) := by
  cases l with
  | nil => exact absurd rfl h
  | cons x r => rw [packG]
theorem leV_lt : ∀ (l : List UInt8), leV l < 256 ^ l.length
  | [] => by simp [leV]
  | x :: r => by
    have := leV_lt r
    have := x.toNat_lt
    simp only [leV, List.length_cons, Nat.pow_succ]
    omega
theorem leV_snoc : ∀ (l : List UInt8) (x : UInt8), leV (l ++ [x]) = leV l + x.toNat * 256 ^ l.length
  | [], x => by simp [leV]
  | y :: r, x => by
    rw [List.cons_append, leV, leV, leV_snoc r x, List.length_cons, Nat.pow_succ, Nat.mul_add, Nat.add_assoc]
    congr 2
    rw [Nat.mul_comm 256, Nat.mul_assoc]
theorem or_add {a n k : Nat} (h : n < 2 ^ k) : n ||| a * 2 ^ k = n + a * 2 ^ k := by
  rw [Nat.or_comm, Nat.mul_comm, Nat.add_comm]
  exact (Nat.two_pow_add_eq_or_of_lt h a).symm
theorem spot_none {w : World} {ad : Addr} {u : Value} (h : w.cell? (ad.add 0) = some u) : ad = ⟨ad.block, ad.off, none⟩ := by
  have h1 := add_spot h
  rw [show ad.add 0 = ad by simp [Addr.add]] at h1
  exact h1
theorem or_nat (y : UInt64) (d : UInt8) (i : Nat) (hy : y.toNat < 256 ^ i) (hi : i < 8) : (UInt64.ofNat (y.toNat + d.toNat * 256 ^ i)).toNat = y.toNat + d.toNat * 256 ^ i := by
  rw [UInt64.toNat_ofNat', Nat.mod_eq_of_lt]
  have h1 : d.toNat * 256 ^ i ≤ 255 * 256 ^ i := Nat.mul_le_mul_right _ (by have := d.toNat_lt; omega)
  have h2 : 256 ^ (i + 1) ≤ 256 ^ 8 := Nat.pow_le_pow_right (by decide) hi
  rw [Nat.pow_succ] at h2
  have h3 : (256 : Nat) ^ 8 = 2 ^ 64 := by decide
  omega
theorem or_step (y : UInt64) (d : UInt8) (i : Nat) (hy : y.toNat < 256 ^ i) (hi : i < 8) :
    bits BinOp.or IntKind.u64 (y.toNat : Int) (IntKind.u64.wrap (IntKind.u64.wrap (d.toNat : Int) * 2 ^ (8 * i))) = ((UInt64.ofNat (y.toNat + d.toNat * 256 ^ i)).toNat : Int) := by
  have h8 : (2 : Int) ^ (8 * i) = ((256 ^ i : Nat) : Int) := by
    rw [Int.natCast_pow, Int.pow_mul]
    rfl
  have h1 : d.toNat * 256 ^ i ≤ 255 * 256 ^ i := Nat.mul_le_mul_right _ (by have := d.toNat_lt; omega)
  have h2 : 256 ^ (i + 1) ≤ 256 ^ 8 := Nat.pow_le_pow_right (by decide) hi
  have h3 : (256 : Nat) ^ 8 = 18446744073709551616 := by decide
  rw [Nat.pow_succ] at h2
  have hd : IntKind.u64.wrap (d.toNat : Int) = (d.toNat : Int) := by rw [IntKind.wrap_u64]; have := d.toNat_lt; omega
  rw [h8, hd, ← Int.natCast_mul]
  have hm : IntKind.u64.wrap ((d.toNat * 256 ^ i : Nat) : Int) = ((d.toNat * 256 ^ i : Nat) : Int) := by rw [IntKind.wrap_u64]; omega
  rw [hm, bits_or_u64_nat _ _ (by have := y.toNat_lt; omega) (by omega), or_nat y d i hy hi]
  congr 1
  have h4 : (256 : Nat) ^ i = 2 ^ (8 * i) := by rw [Nat.pow_mul]
  rw [h4] at hy ⊢
  exact or_add hy
set_option maxRecDepth 100000 in
set_option maxHeartbeats 3200000 in
theorem Pack_any (v : Value) (l : List UInt8) (w : World) (h : RdB' w v l) (hL : l.length ≤ 10000000000) :
    Calls Try.prog 48 #[v] w (NewU w (packU l)) := by
  obtain ⟨i0, hi, hz0, hz1, hz2⟩ := info_parts Try.infoU
  have HI0 := hid (And.intro hi (And.intro hz0 (And.intro hz1 hz2)))
  obtain ⟨a, c, rfl, hlc, hcm, hnil, hcell⟩ := id h
  have HX := hid h
  have HN := hid (And.intro hnil hlc)
  have hL1 : (l.length : Int) ≤ 10000000000 := by omega
  obtain ⟨k, hk⟩ : ∃ k : Nat, k = (l.length + 6) / 7 := ⟨_, rfl⟩
  have htd : ((l.length : Int) + 7 - 1).tdiv 7 = (k : Int) := by rw [Int.tdiv_eq_ediv_of_nonneg (by omega)]; omega
  have hkB : (k : Int) ≤ 10000000000 := by omega
  have HK : Hid ((1 : Int) + (k : Int) = ((1 + k : Nat) : Int)) := hid (by omega)
  clear h hi hz0 hz1 hz2 hcell hnil hlc hcm hk
  go_enter Try.func48, Try.ntmps48
  go_upto_region 2 with (at_make; refine wpList_make_cap w rfl _ _ 36 rfl 22 i0 (.int .u64 0) 8 Try.underlying36 HI0.out.1 HI0.out.2.1 HI0.out.2.2.1 HI0.out.2.2.2 .i64 .i64 _ _ 1 (1 + k) rfl rfl rfl HK.out (by omega) (by omega) (by unfold maxLen; omega) ?_)
  obtain ⟨g, hg⟩ : ∃ g, g = w.heap.size := ⟨_, rfl⟩
  obtain ⟨R, hR⟩ : ∃ R : List Value, R = List.replicate k (.int .u64 0) := ⟨_, rfl⟩
  have hRl : R.length = k := by rw [hR, List.length_replicate]
  have hm : madeCells #[Value.int .u64 0] (1 + k) = (Value.int .u64 0 :: R).toArray := by
    apply Array.toList_inj.1
    rw [toList_madeCells_one, Nat.add_comm, List.replicate_succ, hR]
  rw [hm]
  obtain ⟨w1, hw1⟩ : ∃ w1, w1 = w.alloc (.cells (Value.int .u64 0 :: R).toArray 22) := ⟨_, rfl⟩
  have hx1 : Ext w w1 := by rw [hw1]; exact (Ext.refl w).alloc _
  have hb1 : w1.heap[g]? = some (.cells (Value.int .u64 0 :: R).toArray 22 (0, 0)) := by rw [hw1, hg]; exact heap_new _ _
  rw [← hw1, ← hg]
  have z0 : w1.cell? ⟨g, 0, none⟩ = some (.int .u64 0) := by
    rw [cell_of hb1]
    simp
  have zf := frozen_of hb1
  obtain ⟨n, hn⟩ : ∃ n : UInt64, n = UInt64.ofNat l.length := ⟨_, rfl⟩
  have hnn : (n.toNat : Int) = (l.length : Int) := by rw [hn, UInt64.toNat_ofNat']; omega
  have hwr : IntKind.u64.wrap (l.length : Int) = (l.length : Int) := by rw [← hnn]; exact wrap_zU n
  have hb2 : (w1.setCell ⟨g, 0, none⟩ (.int .u64 (l.length : Int))).heap[g]? = some (.cells (Value.int .u64 (l.length : Int) :: R).toArray 22 (0, 0)) := by
    rw [heap_setCell_same hb1 0 _]
    simp
  have hx2 : Ext w (w1.setCell ⟨g, 0, none⟩ (.int .u64 (l.length : Int))) := hx1.setCell (p := ⟨g, 0, none⟩) (by rw [hg]; exact Nat.le_refl _) _
  have hown2 : OwnU (w1.setCell ⟨g, 0, none⟩ (.int .u64 (l.length : Int))) (.slice (some ⟨g, 0, none⟩) 1 (1 + k)) [n] :=
    ⟨rfl, .inr ⟨g, 1 + k, _, rfl, Nat.zero_le _, hb2, by simp, by unfold maxLen; omega, by simp [hRl, Nat.add_comm], by simp [us, hnn]⟩⟩
  have HG := hid hg
  have HN := hid (And.intro hn hnn)
  have H2 := hid (And.intro hown2 hx2)
  have HKB : Hid (k ≤ 10000000000) := hid (by omega)
  clear hg hw1 hx1 hb1 hb2 hx2 hown2 hn hnn hm hR hRl
  go_upto_region 3 with fail
  generalize w1.setCell ⟨g, 0, none⟩ (.int .u64 (l.length : Int)) = w2 at *
  clear z0 zf
  obtain ⟨T, hT⟩ : ∃ T, T = packU l := ⟨_, rfl⟩
  rw [← hT]
  have HT := hid hT
  clear hT hwr htd hkB HK
  go_wp2_with fail
  go_loopw [3, 4] (fun bv iv wr => ∃ (s : Nat) (cur : List UInt64), s ≤ l.length + 6 ∧ iv = .int .i64 s ∧ Hid (cur ++ packG (l.drop s) = T) ∧ Hid (cur.length ≤ s + 1 ∧ OwnU wr bv cur ∧ Ext w wr ∧ ∀ k, blk bv = some k → w.heap.size ≤ k)) (fun _ iv _ => l.length + 7 - (intOf iv).toNat)
  case atStart => exact ⟨0, [n], by omega, rfl, hid (by rw [HT.out, List.drop_zero]; unfold packU; rw [← HN.out.1]; rfl), hid ⟨by simp, H2.out.1, H2.out.2, fun k h => by
    have h1 : g = k := by
      change some g = some k at h
      exact Option.some.inj h
    rw [← h1, HG.out]
    exact Nat.le_refl _⟩⟩
  case round =>
    clear H2
    obtain ⟨s, cur, hs, rfl, hcur, H⟩ := hrel
    by_cases hlt : s < l.length
    · have hltB : decide ((s : Int) < (l.length : Int)) = true := by simp; omega
      obtain ⟨x0, hx0⟩ : ∃ x, l[s]? = some x := ⟨_, List.getElem?_eq_getElem hlt⟩
      obtain ⟨ab, ao, rfl⟩ : ∃ b o, a = some ⟨b, o, none⟩ := by
        obtain ⟨a', c', he, -, -, hn', hc'⟩ := HX.out
        injection he with e1 e2 e3
        subst e1
        cases a with
        | none => have := HN.out; have := hn' rfl; omega
        | some ad =>
          cases l with
          | nil => simp at hlt
          | cons y r => exact ⟨ad.block, ad.off, by rw [spot_none (hc' ad rfl 0 (.int .u8 y.toNat) rfl)]⟩
      have hlcc : l.length ≤ c ∧ c ≤ maxLen := by
        obtain ⟨a', c', he, h3, h4, -⟩ := HX.out
        injection he with e1 e2 e3
        subst e3
        exact ⟨h3, h4⟩
      have hlc : (l.length : Int) ≤ (c : Int) := by omega
      have hlcN : l.length ≤ c := hlcc.1
      have hne : ¬ c = s := by omega
      have hs1 : (0 : Int) ≤ (s : Int) := Int.natCast_nonneg _
      by_cases h7 : s + 7 ≤ l.length
      · have h7B : decide ((s : Int) + 7 ≤ (l.length : Int)) = true := by simp; omega
        have h7i : (s : Int) + 7 ≤ (l.length : Int) := by omega
        have h7n : ((s : Int) + 7).toNat = s + 7 := by omega
        clear hx0 hlcc
        go_upto_region 7 with fail
        obtain ⟨part, hpart⟩ : ∃ part, part = (l.drop s).take 7 := ⟨_, rfl⟩
        have hpl : part.length = 7 := by rw [hpart, List.length_take, List.length_drop]; omega
        have HP := hid (And.intro hpart hpl)
        have hcell : ∀ (i : Nat) (d : UInt8), part[i]? = some d → wr.cell? ⟨ab, ao + s + i, none⟩ = some (.int .u8 d.toNat) := by
          intro i d hd
          obtain ⟨a', c', he, -, -, -, hc'⟩ := HX.out.ext H.out.2.2.1
          injection he with e1 e2 e3
          have hi : i < 7 := by have := (List.getElem?_eq_some_iff.1 hd).1; omega
          have hd' : l[s + i]? = some d := by rw [hpart, List.getElem?_take_of_lt hi, List.getElem?_drop] at hd; exact hd
          have h5 := hc' _ e1.symm (s + i) (.int .u8 d.toNat) (by simp [hd'])
          rw [Addr.add_lit] at h5
          rw [Nat.add_assoc]; exact h5
        have HCE := hid hcell
        have HPK : Hid (packG (l.drop s) = UInt64.ofNat (leV part) :: packG (l.drop (s + 7))) := hid (by
          rw [packG_cons (by intro h0; have := congrArg List.length h0; rw [List.length_drop, List.length_nil] at this; omega), ← hpart, List.drop_drop])
        clear hpart hpl hcell h7B h7i h7n
        go_upto_region 8 with fail
        go_wp2_with fail
        go_loop [6, 37] (fun nv iv => ∃ (i : Nat) (y : UInt64), i ≤ 7 ∧ iv = .int .i64 i ∧ nv = .int .u64 y.toNat ∧ Hid (y.toNat = leV (part.take i))) (fun _ iv => 7 - (intOf iv).toNat)
        case atStart => exact ⟨0, 0, by omega, rfl, rfl, hid (by simp [leV])⟩
        case round =>
          obtain ⟨i, y, hi, rfl, rfl, hy⟩ := hrel
          by_cases hlti : i < 7
          · have hltI : decide ((i : Int) < 7) = true := by simp; omega
            obtain ⟨d, hd⟩ : ∃ d, part[i]? = some d := ⟨_, List.getElem?_eq_getElem (by have := HP.out.2; omega)⟩
            have hc := HCE.out i d hd
            have hi0 : (0 : Int) ≤ (i : Int) := Int.natCast_nonneg _
            have hi7 : (i : Int) < 7 := by omega
            have hylt : y.toNat < 256 ^ i := by
              rw [hy.out]
              have := leV_lt (part.take i)
              rwa [List.length_take_of_le (by have := HP.out.2; omega)] at this
            obtain ⟨z, hz⟩ : ∃ z, z = UInt64.ofNat (y.toNat + d.toNat * 256 ^ i) := ⟨_, rfl⟩
            have hor := or_step y d i hylt (by omega)
            rw [← hz] at hor
            have HZ : Hid (z.toNat = leV (part.take (i + 1))) := hid (by
              rw [List.take_add_one, hd, Option.toList_some, leV_snoc, ← hy.out, hz, List.length_take_of_le (by have := HP.out.2; omega)]
              exact or_nat y d i hylt (by omega))
            clear hd hylt hz
            go_wp2_with fail
            go_round
            case rel => exact ⟨i + 1, z, by omega, by go_num, rfl, HZ⟩
            case measure => simp [intOf]; omega
          · have hie : i = 7 := by omega
            have hltI : decide ((i : Int) < 7) = false := by simp; omega
            have hyF : y = UInt64.ofNat (leV part) := by
              have := hy.out
              rw [hie, ← HP.out.2, List.take_length] at this
              rw [← this]; simp
            have HYF := hid hyF
            have HB : Hid (cur.length + 1 ≤ 100000000000) := hid (by have := H.out.1; omega)
            clear hyF hie hy
            go_wp2_with (at_builtin; refine wpList_app rfl _ _ 36 rfl 22 i0 (.int .u64 0) 1 8 Try.underlying36 HI0.out.1 HI0.out.2.1 HI0.out.2.2.1 HI0.out.2.2.2 rfl (by decide) _ cur.length (us cur) rfl (ownsRow_ext H.out.2.1 ((Ext.refl _).alloc _)) _ 1 [.int .u64 y.toNat] rfl (RdC.new1 _ _ _) rfl (us_one [y]) (by have := HB.out; unfold maxLen; omega) (by have := HB.out; omega) ?_)
            intro v' w3 hown hk2 hb
            have G : Hid (OwnU w3 v' (cur ++ [y]) ∧ Ext w w3 ∧ ∀ k, blk v' = some k → w.heap.size ≤ k) := hid (by
              refine ⟨?_, (H.out.2.2.1.alloc _).kp hk2 (fun k e => H.out.2.2.2 k e.symm), fun k e => ?_⟩
              · show w3.ownsRow 0 22 1 v' (cur ++ [y]).length (us (cur ++ [y]))
                rw [show (cur ++ [y]).length = cur.length + 1 from by simp, show us (cur ++ [y]) = us cur ++ [.int .u64 y.toNat] from by simp]
                exact hown
              · rcases hb with hb | hb
                · exact H.out.2.2.2 k (hb ▸ e)
                · rw [hb] at e; injection e with e; have := H.out.2.2.1.size; have := ((Ext.refl wr).alloc (.cells #[.int .u64 y.toNat] 22)).size; simp only [World.size_alloc] at *; omega)
            clear hown hk2 hb
            go_wp2_with fail
            go_roundw
            case rel => exact ⟨s + 7, cur ++ [y], by omega, by go_num, hid (by rw [List.append_assoc, HYF.out]; have := hcur.out; rw [HPK.out] at this; exact this), hid ⟨by have := H.out.1; simp; omega, G.out⟩⟩
            case measure => simp [intOf]; omega
      · have h7B : decide ((s : Int) + 7 ≤ (l.length : Int)) = false := by simp; omega
        have h7i : ¬ (s : Int) + 7 ≤ (l.length : Int) := by omega
        have h7n : (s : Int) ≤ (l.length : Int) := by omega
        obtain ⟨m, hm⟩ : ∃ m, m = l.length - s := ⟨_, rfl⟩
        have hsl : s ≤ l.length := by omega
        clear hx0 hlcc
        go_upto_region 7 with fail
        rw [← hm]
        obtain ⟨part, hpart⟩ : ∃ part, part = (l.drop s).take 7 := ⟨_, rfl⟩
        have hpl : part.length = m := by rw [hpart, List.length_take, List.length_drop]; omega
        have HP := hid (And.intro hpart hpl)
        have hcell : ∀ (i : Nat) (d : UInt8), part[i]? = some d → wr.cell? ⟨ab, ao + s + i, none⟩ = some (.int .u8 d.toNat) := by
          intro i d hd
          obtain ⟨a', c', he, -, -, -, hc'⟩ := HX.out.ext H.out.2.2.1
          injection he with e1 e2 e3
          have hi : i < 7 := by have := (List.getElem?_eq_some_iff.1 hd).1; omega
          have hd' : l[s + i]? = some d := by rw [hpart, List.getElem?_take_of_lt hi, List.getElem?_drop] at hd; exact hd
          have h5 := hc' _ e1.symm (s + i) (.int .u8 d.toNat) (by simp [hd'])
          rw [Addr.add_lit] at h5
          rw [Nat.add_assoc]; exact h5
        have HCE := hid hcell
        have HPK : Hid (packG (l.drop s) = UInt64.ofNat (leV part) :: packG (l.drop (s + 7))) := hid (by
          rw [packG_cons (by intro h0; have := congrArg List.length h0; rw [List.length_drop, List.length_nil] at this; omega), ← hpart, List.drop_drop])
        clear hpart hpl hcell h7B h7i h7n
        go_upto_region 8 with fail
        go_wp2_with fail
        go_loop [6, 37] (fun nv iv => ∃ (i : Nat) (y : UInt64), i ≤ m ∧ iv = .int .i64 i ∧ nv = .int .u64 y.toNat ∧ Hid (y.toNat = leV (part.take i))) (fun _ iv => m - (intOf iv).toNat)
        case atStart => exact ⟨0, 0, by omega, rfl, rfl, hid (by simp [leV])⟩
        case round =>
          obtain ⟨i, y, hi, rfl, rfl, hy⟩ := hrel
          by_cases hlti : i < m
          · have hltI : decide ((i : Int) < (m : Int)) = true := by simp; omega
            obtain ⟨d, hd⟩ : ∃ d, part[i]? = some d := ⟨_, List.getElem?_eq_getElem (by have := HP.out.2; omega)⟩
            have hc := HCE.out i d hd
            have hi0 : (0 : Int) ≤ (i : Int) := Int.natCast_nonneg _
            have hi7 : (i : Int) < (m : Int) := by omega
            have hylt : y.toNat < 256 ^ i := by
              rw [hy.out]
              have := leV_lt (part.take i)
              rwa [List.length_take_of_le (by have := HP.out.2; omega)] at this
            obtain ⟨z, hz⟩ : ∃ z, z = UInt64.ofNat (y.toNat + d.toNat * 256 ^ i) := ⟨_, rfl⟩
            have hor := or_step y d i hylt (by omega)
            rw [← hz] at hor
            have HZ : Hid (z.toNat = leV (part.take (i + 1))) := hid (by
              rw [List.take_add_one, hd, Option.toList_some, leV_snoc, ← hy.out, hz, List.length_take_of_le (by have := HP.out.2; omega)]
              exact or_nat y d i hylt (by omega))
            clear hd hylt hz
            go_wp2_with fail
            go_round
            case rel => exact ⟨i + 1, z, by omega, by go_num, rfl, HZ⟩
            case measure => simp [intOf]; omega
          · have hie : i = m := by omega
            have hltI : decide ((i : Int) < (m : Int)) = false := by simp; omega
            have hyF : y = UInt64.ofNat (leV part) := by
              have := hy.out
              rw [hie, ← HP.out.2, List.take_length] at this
              rw [← this]; simp
            have HYF := hid hyF
            have HB : Hid (cur.length + 1 ≤ 100000000000) := hid (by have := H.out.1; omega)
            clear hyF hie hy
            go_wp2_with (at_builtin; refine wpList_app rfl _ _ 36 rfl 22 i0 (.int .u64 0) 1 8 Try.underlying36 HI0.out.1 HI0.out.2.1 HI0.out.2.2.1 HI0.out.2.2.2 rfl (by decide) _ cur.length (us cur) rfl (ownsRow_ext H.out.2.1 ((Ext.refl _).alloc _)) _ 1 [.int .u64 y.toNat] rfl (RdC.new1 _ _ _) rfl (us_one [y]) (by have := HB.out; unfold maxLen; omega) (by have := HB.out; omega) ?_)
            intro v' w3 hown hk2 hb
            have G : Hid (OwnU w3 v' (cur ++ [y]) ∧ Ext w w3 ∧ ∀ k, blk v' = some k → w.heap.size ≤ k) := hid (by
              refine ⟨?_, (H.out.2.2.1.alloc _).kp hk2 (fun k e => H.out.2.2.2 k e.symm), fun k e => ?_⟩
              · show w3.ownsRow 0 22 1 v' (cur ++ [y]).length (us (cur ++ [y]))
                rw [show (cur ++ [y]).length = cur.length + 1 from by simp, show us (cur ++ [y]) = us cur ++ [.int .u64 y.toNat] from by simp]
                exact hown
              · rcases hb with hb | hb
                · exact H.out.2.2.2 k (hb ▸ e)
                · rw [hb] at e; injection e with e; have := H.out.2.2.1.size; have := ((Ext.refl wr).alloc (.cells #[.int .u64 y.toNat] 22)).size; simp only [World.size_alloc] at *; omega)
            clear hown hk2 hb
            go_wp2_with fail
            go_roundw
            case rel => exact ⟨s + 7, cur ++ [y], by omega, by go_num, hid (by rw [List.append_assoc, HYF.out]; have := hcur.out; rw [HPK.out] at this; exact this), hid ⟨by have := H.out.1; simp; omega, G.out⟩⟩
            case measure => simp [intOf]; omega
    · have hltB : decide ((s : Int) < (l.length : Int)) = false := by simp; omega
      have hfin : cur = T := by
        have := hcur.out
        rw [List.drop_of_length_le (by omega), packG_nil, List.append_nil] at this
        exact this
      have HF := hid hfin
      clear hfin
      go_wp2_with fail
      go_ret
      exact ⟨_, rfl, by rw [← HT.out, ← HF.out]; exact H.out.2.1, H.out.2.2⟩
set_option maxHeartbeats 400000 in
theorem packU_length (l : List UInt8) : (packU l).length ≤ l.length + 1 := by
  unfold packU
  have h : ∀ (n : Nat) (l : List UInt8), l.length ≤ n → (packG l).length ≤ l.length := by
    intro n
    induction n with
    | zero =>
      intro l hl
      have : l = [] := List.eq_nil_of_length_eq_zero (by omega)
      subst this; rw [packG_nil]; simp
    | succ n ih =>
      intro l hl
      by_cases h0 : l = []
      · subst h0; rw [packG_nil]; simp
      · have h1 : 0 < l.length := List.length_pos_iff.2 h0
        rw [packG_cons h0, List.length_cons]
        have := ih (l.drop 7) (by rw [List.length_drop]; omega)
        rw [List.length_drop] at this
        omega
  have := h l.length l (Nat.le_refl _)
  simp; omega
set_option maxHeartbeats 1000000 in
theorem HashB_any (label : UInt64) (v : Value) (l : List UInt8) (w : World) (h : RdB' w v l) (hL : l.length ≤ 10000000000) :
    Calls Try.prog 25 #[.int .u64 label.toNat, v] w fun e w' => e = .returned (uv (hashB label l)) ∧ Ext w w' := by
  have HP := hid (Pack_any v l w h hL)
  have HL := packU_length l
  have HH : Hid (∀ u x, RdU u x (packU l) → Calls Try.prog 47 #[.int .u64 18446744069414584321, .int .u64 label.toNat, x] u fun e w' => e = .returned (uv (hashU label (packU l))) ∧ Ext u w') := hid fun u x hx => Hash_any _ isBig label x (packU l) u hx (by omega)
  obtain ⟨a, c, rfl, -⟩ := h
  unfold hashB
  generalize hashU label (packU l) = k at *
  clear hL HL
  go_enter Try.func25, Try.ntmps25
  go_wp2_with fail
  refine (HP.out).mono ?_
  rintro e w1 ⟨v1, rfl, h1, hx, -⟩
  have HR := hid h1.rdu
  have HX := hid hx
  clear h1 hx HP
  go_wp2_with fail
  refine (HH.out _ _ HR.out).mono ?_
  rintro e w2 ⟨rfl, hx⟩
  have HX2 := hid (HX.out.trans hx)
  clear hx HH
  go_wp2_with fail
  go_ret
  exact ⟨rfl, HX2.out⟩
/-! ## the reference -/
/-- The packed form, one byte more. -/
def packAdd (n : Nat) (d : UInt8) (m : List UInt64) : List UInt64 := if n % 7 = 0 then m ++ [UInt64.ofNat d.toNat] else m.dropLast ++ [UInt64.ofNat ((m.getLastD 0).toNat + d.toNat * 256 ^ (n % 7))]
theorem packG_snoc : ∀ (n : Nat) (l : List UInt8) (d : UInt8), l.length ≤ n → packG (l ++ [d]) = packAdd l.length d (packG l)
  | n, l, d, hn => by
    by_cases h0 : l = []
    · subst h0
      rw [packG_nil, List.nil_append, packG_cons (by simp)]
      unfold packAdd
      simp [leV, packG_nil]
    · have hp : 0 < l.length := List.length_pos_iff.2 h0
      by_cases h7 : l.length < 7
      · rw [packG_cons (l := l ++ [d]) (by simp), packG_cons h0]
        have e1 : (l ++ [d]).take 7 = l ++ [d] := List.take_of_length_le (by simp; omega)
        have e2 : (l ++ [d]).drop 7 = [] := List.drop_of_length_le (by simp; omega)
        have e3 : l.take 7 = l := List.take_of_length_le (by omega)
        have e4 : l.drop 7 = [] := List.drop_of_length_le (by omega)
        rw [e1, e2, e3, e4, packG_nil]
        unfold packAdd
        rw [if_neg (by omega), leV_snoc, Nat.mod_eq_of_lt h7]
        have hlt := leV_lt l
        have h8 : 256 ^ l.length ≤ 256 ^ 6 := Nat.pow_le_pow_right (by decide) (by omega)
        have e5 : (UInt64.ofNat (leV l)).toNat = leV l := by
          rw [UInt64.toNat_ofNat', Nat.mod_eq_of_lt]
          have : (256 : Nat) ^ 6 < 2 ^ 64 := by decide
          omega
        simp [e5]
      · match n, hn with
        | 0, hn => omega
        | n + 1, hn =>
          rw [packG_cons (l := l ++ [d]) (by simp), packG_cons h0]
          have e1 : (l ++ [d]).take 7 = l.take 7 := List.take_append_of_le_length (by omega)
          have e2 : (l ++ [d]).drop 7 = l.drop 7 ++ [d] := List.drop_append_of_le_length (by omega)
          rw [e1, e2, packG_snoc n (l.drop 7) d (by rw [List.length_drop]; omega)]
          unfold packAdd
          have e3 : (l.drop 7).length % 7 = l.length % 7 := by rw [List.length_drop]; omega
          rw [e3]
          by_cases hm : l.length % 7 = 0
          · rw [if_pos hm, if_pos hm]; rfl
          · rw [if_neg hm, if_neg hm]
            have hne : packG (l.drop 7) ≠ [] := by
              rw [packG_cons (by intro h; have := congrArg List.length h; rw [List.length_drop, List.length_nil] at this; omega)]
              simp
            obtain ⟨x, r, hxr⟩ := List.exists_cons_of_ne_nil hne
            rw [hxr]
            simp [List.getLastD]
end Go.Proofs.Ytkdnnekdldomeaa
