/- Bytes packed by the reference: moidoreref08.Pack, HashBytes. (Written by wip/tools/gen_packr.py.) -/
import Derived.Test.YtkdnnekdldomeaaPackB
set_option linter.unusedSimpArgs false
namespace Go.Proofs.Ytkdnnekdldomeaa
open Go.RowKit
attribute [local irreducible] perm fAdd fMul fPow fSub fNeg fRed hashU
theorem own_last {w : World} {v : Value} {pre : List UInt64} {la : UInt64} (h : OwnU w v (pre ++ [la])) : ∃ g c, v = .slice (some ⟨g, 0, none⟩) (pre.length + 1) c ∧ w.cell? ⟨g, pre.length, none⟩ = some (uv la) ∧ (∀ o, w.frozen? ⟨g, o, none⟩ = false) ∧
    ∀ x, OwnU (w.setCell ⟨g, pre.length, none⟩ (uv x)) v (pre ++ [x]) ∧ Kp (fun k => some k = blk v) w (w.setCell ⟨g, pre.length, none⟩ (uv x)) := by
  obtain ⟨h0, h1⟩ := h
  rcases h1 with ⟨-, h1⟩ | ⟨g, cap, cur, rfl, hb, hg, hnc, hcm, hcs, ht⟩
  · simp at h1
  · have hl : (pre ++ [la]).length = pre.length + 1 := by simp
    rw [hl] at hnc ht ⊢
    have hsz : pre.length < cur.size := by omega
    have hla : cur[pre.length]? = some (uv la) := by
      have h2 := congrArg (fun z => z[pre.length]?) ht
      simp only [us, List.map_append, List.map_cons, List.map_nil] at h2
      rw [List.getElem?_take_of_lt (by omega), List.getElem?_append_right (by simp)] at h2
      simpa using h2
    refine ⟨g, cap, rfl, by rw [cell_of hg]; exact hla, frozen_of hg, fun x => ⟨⟨by simp [us], .inr ⟨g, cap, cur.setIfInBounds pre.length (uv x), by simp, hb, heap_setCell_same hg pre.length (uv x), by simp; omega, hcm, by simpa using hcs, ?_⟩⟩, (Kp.refl (fun k => some k = blk (.slice (some ⟨g, 0, none⟩) (pre.length + 1) cap)) w).setCell (p := ⟨g, pre.length, none⟩) (.inl rfl) _⟩⟩
    have hl2 : (pre ++ [x]).length = pre.length + 1 := by simp
    rw [hl2]
    obtain ⟨cl⟩ := cur
    have ht' : cl.take ((pre.length + 1) * 1) = us pre ++ [uv la] := by simpa [us] using ht
    have hsz' : pre.length < cl.length := hsz
    rw [show (⟨cl⟩ : Array Value) = cl.toArray from rfl, List.setIfInBounds_toArray]
    show (cl.set pre.length (uv x)).take ((pre.length + 1) * 1) = us (pre ++ [x])
    rw [Nat.mul_one] at ht' ⊢
    have h3 : cl.take pre.length = us pre := by
      have h5 := congrArg (List.take pre.length) ht'
      rw [List.take_take, Nat.min_eq_left (by omega)] at h5
      have hus : (us pre).length = pre.length := List.length_map _
      rw [h5, ← hus]
      exact List.take_left
    rw [List.take_set, List.take_add_one, List.getElem?_eq_getElem hsz', Option.toList_some, List.set_append_right _ _ (by simp; omega), h3]
    have h4 : (us pre).length = pre.length := by simp [us]
    simp [us, Nat.min_eq_left (Nat.le_of_lt hsz')]
def rF (v : World) (w : World) (x : Value) (l : List UInt64) : Prop := OwnU v x l ∧ Ext w v ∧ ∀ k, blk x = some k → w.heap.size ≤ k
set_option maxRecDepth 100000 in
set_option maxHeartbeats 3200000 in
theorem rPackB_any (v : Value) (l : List UInt8) (w : World) (h : RdB' w v l) (hL : l.length ≤ 10000000000) :
    Calls Try.prog 63 #[v] w (NewU w (packU l)) := by
  obtain ⟨i0, hi, hz0, hz1, hz2⟩ := info_parts Try.infoU
  have HI0 := hid (And.intro hi (And.intro hz0 (And.intro hz1 hz2)))
  obtain ⟨a, c, rfl, hlc, hcm, hnil, hcell⟩ := id h
  have HX := hid h
  have hL1 : (l.length : Int) ≤ 10000000000 := by omega
  obtain ⟨n, hn⟩ : ∃ n : UInt64, n = UInt64.ofNat l.length := ⟨_, rfl⟩
  have hnn : (n.toNat : Int) = (l.length : Int) := by rw [hn, UInt64.toNat_ofNat']; omega
  have hwr : IntKind.u64.wrap (l.length : Int) = (l.length : Int) := by rw [← hnn]; exact wrap_zU n
  have HN := hid (And.intro hn hnn)
  obtain ⟨w1, hw1⟩ : ∃ w1, w1 = w.alloc (.cells #[.int .u64 (l.length : Int)] 22) := ⟨_, rfl⟩
  have hown1 : rF w1 w (.slice (some ⟨w.heap.size, 0, none⟩) 1 1) [n] := by
    rw [hw1]
    refine ⟨⟨rfl, .inr ⟨w.heap.size, 1, #[.int .u64 (l.length : Int)], rfl, Nat.zero_le _, heap_new _ _, Nat.le_refl _, by unfold maxLen; omega, rfl, by simp [us, hnn]⟩⟩, (Ext.refl w).alloc _, fun k e => by
      change some w.heap.size = some k at e
      have := Option.some.inj e
      omega⟩
  have H1 := hid hown1
  have HW1 := hid hw1
  clear h hi hz0 hz1 hz2 hcell hnil hlc hcm hown1 hw1 hn hnn
  go_enter Try.func63, Try.ntmps63
  go_upto_region 2 with fail
  rw [← HW1.out]
  clear hwr
  go_wp2_with fail
  go_loopw [3, 4] (fun bv iv wr => ∃ (i : Nat), i ≤ l.length ∧ iv = .int .i64 i ∧ Hid (rF wr w bv (n :: packG (l.take i)))) (fun _ iv _ => l.length - (intOf iv).toNat)
  case atStart => exact ⟨0, by omega, rfl, hid (by rw [List.take_zero, packG_nil]; exact H1.out)⟩
  case round =>
    clear H1
    obtain ⟨i, hi, rfl, H⟩ := hrel
    by_cases hlt : i < l.length
    · have hltB : decide ((i : Int) < (l.length : Int)) = true := by simp; omega
      obtain ⟨d, hd⟩ : ∃ d, l[i]? = some d := ⟨_, List.getElem?_eq_getElem hlt⟩
      have HTK : Hid (packG (l.take (i + 1)) = packAdd i d (packG (l.take i))) := hid (by
        rw [List.take_add_one, hd, Option.toList_some, packG_snoc _ _ _ (Nat.le_refl _), List.length_take_of_le (by omega)])
      obtain ⟨ab, ao, rfl, hcd⟩ : ∃ b o, a = some ⟨b, o, none⟩ ∧ ∀ v, Ext w v → v.cell? ⟨b, o + i, none⟩ = some (.int .u8 d.toNat) := by
        obtain ⟨a', c', he, hlc', -, hn', hc'⟩ := HX.out
        injection he with e1 e2 e3
        subst e1
        cases a with
        | none => have := hn' rfl; omega
        | some ad =>
          have hsp : ad = ⟨ad.block, ad.off, none⟩ := by
            cases l with
            | nil => simp at hlt
            | cons y r => exact spot_none (hc' ad rfl 0 (.int .u8 y.toNat) rfl)
          refine ⟨ad.block, ad.off, by rw [← hsp], fun v k => k.cell_some ?_⟩
          have h5 := hc' ad rfl i (.int .u8 d.toNat) (by simp [hd])
          rw [hsp, Addr.add_lit] at h5
          exact h5
      have HCD := hid hcd
      obtain ⟨r, hr⟩ : ∃ r, r = i % 7 := ⟨_, rfl⟩
      have htm : ((i : Int)).tmod 7 = (r : Int) := by rw [Int.tmod_eq_emod_of_nonneg (by omega)]; omega
      have hr7 : r < 7 := by omega
      have HRR := hid hr
      have hi0 : (0 : Int) ≤ (i : Int) := Int.natCast_nonneg _
      have hil : (i : Int) < (l.length : Int) := by omega
      have HB : Hid ((n :: packG (l.take i)).length + 1 ≤ 100000000000) := hid (by
        have := packU_length (l.take i)
        unfold packU at this
        rw [List.length_take] at this
        simp only [List.length_cons] at this ⊢
        omega)
      clear hd hcd hr
      by_cases h0 : r = 0
      · have h0B : ((r : Int) == 0) = true := by simp; omega
        have H0 := hid h0
        obtain ⟨cur, hcur⟩ : ∃ cur, cur = n :: packG (l.take i) := ⟨_, rfl⟩
        rw [← hcur] at H HB
        have HCUR := hid hcur
        clear h0 hcur
        go_wp2_with (at_builtin; refine wpList_app rfl _ _ 36 rfl 22 i0 (.int .u64 0) 1 8 Try.underlying36 HI0.out.1 HI0.out.2.1 HI0.out.2.2.1 HI0.out.2.2.2 rfl (by decide) _ cur.length (us cur) rfl (ownsRow_ext H.out.1 ((Ext.refl _).alloc _)) _ 1 [.int .u64 0] rfl (RdC.new1 _ _ _) rfl (us_one [0]) (by have := HB.out; unfold maxLen; omega) (by have := HB.out; omega) ?_)
        intro v' w3 hown hk2 hb
        have G : Hid (rF w3 w v' (cur ++ [0])) := hid (by
          refine ⟨?_, (H.out.2.1.alloc _).kp hk2 (fun k e => H.out.2.2 k e.symm), fun k e => ?_⟩
          · show w3.ownsRow 0 22 1 v' (cur ++ [0]).length (us (cur ++ [0]))
            rw [show (cur ++ [0] : List UInt64).length = cur.length + 1 from by simp, show us (cur ++ [0] : List UInt64) = us cur ++ [.int .u64 0] from by simp [us]]
            exact hown
          · rcases hb with hb | hb
            · exact H.out.2.2 k (hb ▸ e)
            · rw [hb] at e; injection e with e; have := H.out.2.1.size; have := ((Ext.refl wr).alloc (.cells #[.int .u64 0] 22)).size; simp only [World.size_alloc] at *; omega)
        clear hown hk2 hb
        obtain ⟨pre, hpre⟩ : ∃ pre, pre = cur := ⟨_, rfl⟩
        obtain ⟨la, hla⟩ : ∃ la : UInt64, la = 0 := ⟨_, rfl⟩
        rw [← hpre, ← hla] at G
        have HPP : Hid (∀ x : UInt64, x = UInt64.ofNat (la.toNat + d.toNat * 256 ^ r) → n :: packG (l.take (i + 1)) = pre ++ [x]) := hid (by
          intro x hx
          rw [hpre, HTK.out, HCUR.out]
          unfold packAdd
          rw [← HRR.out, if_pos H0.out, hx, hla, H0.out]
          simp)
        have HPL : Hid (pre.length ≤ 100000000000) := hid (by have := HB.out; rw [hpre]; omega)
        clear hpre hla
        obtain ⟨g, q, rfl, -, -, -⟩ := own_last G.out.1
        have hcd := HCD.out w3 G.out.2.1
        go_upto_region 8 with fail
        clear hcd
        go_wp2_with fail
        go_loop [5, 6] (fun nv kv => ∃ (k : Nat) (y : UInt64), k ≤ r ∧ kv = .int .i64 k ∧ nv = .int .u64 y.toNat ∧ Hid (y.toNat = d.toNat * 256 ^ k)) (fun _ kv => r - (intOf kv).toNat)
        case atStart => exact ⟨0, UInt64.ofNat d.toNat, by omega, rfl, by
          have h1 : (UInt64.ofNat d.toNat).toNat = d.toNat := by rw [UInt64.toNat_ofNat']; have := d.toNat_lt; omega
          have h2 : IntKind.u64.wrap (d.toNat : Int) = (d.toNat : Int) := by rw [IntKind.wrap_u64]; have := d.toNat_lt; omega
          rw [h1]
          first | rfl | rw [h2], hid (by
          rw [UInt64.toNat_ofNat', Nat.pow_zero, Nat.mul_one]; have := d.toNat_lt; omega)⟩
        case round =>
          obtain ⟨k, y, hk, rfl, rfl, hy⟩ := hrel
          by_cases hltk : k < r
          · have hltK : decide ((k : Int) < (r : Int)) = true := by simp; omega
            obtain ⟨z, hz⟩ : ∃ z, z = UInt64.ofNat (y.toNat * 256) := ⟨_, rfl⟩
            have hzz : IntKind.u64.wrap ((y.toNat : Int) * 256) = (z.toNat : Int) := by
              rw [IntKind.wrap_u64, hz, UInt64.toNat_ofNat']; omega
            have HZ : Hid (z.toNat = d.toNat * 256 ^ (k + 1)) := hid (by
              have e : d.toNat * 256 ^ (k + 1) = d.toNat * 256 ^ k * 256 := by rw [Nat.pow_succ, Nat.mul_assoc]
              rw [e, hz, UInt64.toNat_ofNat', hy.out, Nat.mod_eq_of_lt]
              have h1 : d.toNat * 256 ^ k ≤ 255 * 256 ^ k := Nat.mul_le_mul_right _ (by have := d.toNat_lt; omega)
              have h2 : (256 : Nat) ^ k ≤ 256 ^ 6 := Nat.pow_le_pow_right (by decide) (by omega)
              have h3 : 255 * (256 : Nat) ^ 6 * 256 < 2 ^ 64 := by decide
              omega)
            clear hz
            go_wp2_with fail
            go_round
            case rel => exact ⟨k + 1, z, by omega, by go_num, rfl, HZ⟩
            case measure => simp [intOf]; omega
          · have hkr : k = r := by omega
            subst hkr
            have hltK : decide ((k : Int) < (k : Int)) = false := by simp
            obtain ⟨x, hx⟩ : ∃ x, x = UInt64.ofNat (la.toNat + d.toNat * 256 ^ k) := ⟨_, rfl⟩
            have hxx : IntKind.u64.wrap ((la.toNat : Int) + (y.toNat : Int)) = (x.toNat : Int) := by
              rw [IntKind.wrap_u64, hx, UInt64.toNat_ofNat', ← hy.out]; omega
            obtain ⟨g', q', he, hc, hf, hset⟩ := own_last G.out.1
            injection he with e1 e2 e3
            injection e1 with e1
            injection e1 with e1
            subst e1
            obtain ⟨hs1, hs2⟩ := hset x
            have HFIN : Hid (rF (w3.setCell ⟨g, pre.length, none⟩ (uv x)) w (.slice (some ⟨g, 0, none⟩) (pre.length + 1) q) (n :: packG (l.take (i + 1)))) := hid ⟨by rw [HPP.out x hx]; exact hs1, G.out.2.1.kp hs2 (fun k e => G.out.2.2 k e.symm), G.out.2.2⟩
            have hpl : (0 : Int) ≤ (pre.length : Int) := Int.natCast_nonneg _
            have hpl2 : (pre.length : Int) ≤ 100000000000 := by have := HPL.out; omega
            clear hs1 hs2 hset hx e2 e3
            go_wp2_with fail
            go_roundw
            case rel => exact ⟨i + 1, by omega, by go_num, HFIN⟩
            case measure => simp [intOf]; omega
      · have h0B : ((r : Int) == 0) = false := by simp; omega
        have H0 := hid h0
        clear h0
        have hne : packG (l.take i) ≠ [] := by
          have h1 : i ≠ 0 := by have := HRR.out; have := H0.out; omega
          rw [packG_cons (by intro h; have := congrArg List.length h; rw [List.length_take, List.length_nil] at this; omega)]
          simp
        obtain ⟨pg, la, hpg⟩ : ∃ pg la, packG (l.take i) = pg ++ [la] := ⟨_, _, (List.dropLast_concat_getLast hne).symm⟩
        obtain ⟨pre, hpre⟩ : ∃ pre, pre = n :: pg := ⟨_, rfl⟩
        have G : Hid (rF wr w u3 (pre ++ [la])) := hid (by have := H.out; rw [hpg] at this; rw [hpre]; exact this)
        have HPP : Hid (∀ x : UInt64, x = UInt64.ofNat (la.toNat + d.toNat * 256 ^ r) → n :: packG (l.take (i + 1)) = pre ++ [x]) := hid (by
          intro x hx
          rw [hpre, HTK.out, hpg]
          unfold packAdd
          rw [← HRR.out, if_neg H0.out, hx, List.getLastD_concat, List.dropLast_concat]
          rfl)
        have HPL : Hid (pre.length ≤ 100000000000) := hid (by have := HB.out; rw [hpg] at this; rw [hpre]; simp at this ⊢; omega)
        clear hpre hpg hne
        obtain ⟨g, q, rfl, -, -, -⟩ := own_last G.out.1
        have hcd := HCD.out wr G.out.2.1
        go_upto_region 8 with fail
        clear hcd
        go_wp2_with fail
        go_loop [5, 6] (fun nv kv => ∃ (k : Nat) (y : UInt64), k ≤ r ∧ kv = .int .i64 k ∧ nv = .int .u64 y.toNat ∧ Hid (y.toNat = d.toNat * 256 ^ k)) (fun _ kv => r - (intOf kv).toNat)
        case atStart => exact ⟨0, UInt64.ofNat d.toNat, by omega, rfl, by
          have h1 : (UInt64.ofNat d.toNat).toNat = d.toNat := by rw [UInt64.toNat_ofNat']; have := d.toNat_lt; omega
          have h2 : IntKind.u64.wrap (d.toNat : Int) = (d.toNat : Int) := by rw [IntKind.wrap_u64]; have := d.toNat_lt; omega
          rw [h1]
          first | rfl | rw [h2], hid (by
          rw [UInt64.toNat_ofNat', Nat.pow_zero, Nat.mul_one]; have := d.toNat_lt; omega)⟩
        case round =>
          obtain ⟨k, y, hk, rfl, rfl, hy⟩ := hrel
          by_cases hltk : k < r
          · have hltK : decide ((k : Int) < (r : Int)) = true := by simp; omega
            obtain ⟨z, hz⟩ : ∃ z, z = UInt64.ofNat (y.toNat * 256) := ⟨_, rfl⟩
            have hzz : IntKind.u64.wrap ((y.toNat : Int) * 256) = (z.toNat : Int) := by
              rw [IntKind.wrap_u64, hz, UInt64.toNat_ofNat']; omega
            have HZ : Hid (z.toNat = d.toNat * 256 ^ (k + 1)) := hid (by
              have e : d.toNat * 256 ^ (k + 1) = d.toNat * 256 ^ k * 256 := by rw [Nat.pow_succ, Nat.mul_assoc]
              rw [e, hz, UInt64.toNat_ofNat', hy.out, Nat.mod_eq_of_lt]
              have h1 : d.toNat * 256 ^ k ≤ 255 * 256 ^ k := Nat.mul_le_mul_right _ (by have := d.toNat_lt; omega)
              have h2 : (256 : Nat) ^ k ≤ 256 ^ 6 := Nat.pow_le_pow_right (by decide) (by omega)
              have h3 : 255 * (256 : Nat) ^ 6 * 256 < 2 ^ 64 := by decide
              omega)
            clear hz
            go_wp2_with fail
            go_round
            case rel => exact ⟨k + 1, z, by omega, by go_num, rfl, HZ⟩
            case measure => simp [intOf]; omega
          · have hkr : k = r := by omega
            subst hkr
            have hltK : decide ((k : Int) < (k : Int)) = false := by simp
            obtain ⟨x, hx⟩ : ∃ x, x = UInt64.ofNat (la.toNat + d.toNat * 256 ^ k) := ⟨_, rfl⟩
            have hxx : IntKind.u64.wrap ((la.toNat : Int) + (y.toNat : Int)) = (x.toNat : Int) := by
              rw [IntKind.wrap_u64, hx, UInt64.toNat_ofNat', ← hy.out]; omega
            obtain ⟨g', q', he, hc, hf, hset⟩ := own_last G.out.1
            injection he with e1 e2 e3
            injection e1 with e1
            injection e1 with e1
            subst e1
            obtain ⟨hs1, hs2⟩ := hset x
            have HFIN : Hid (rF (wr.setCell ⟨g, pre.length, none⟩ (uv x)) w (.slice (some ⟨g, 0, none⟩) (pre.length + 1) q) (n :: packG (l.take (i + 1)))) := hid ⟨by rw [HPP.out x hx]; exact hs1, G.out.2.1.kp hs2 (fun k e => G.out.2.2 k e.symm), G.out.2.2⟩
            have hpl : (0 : Int) ≤ (pre.length : Int) := Int.natCast_nonneg _
            have hpl2 : (pre.length : Int) ≤ 100000000000 := by have := HPL.out; omega
            clear hs1 hs2 hset hx e2 e3
            go_wp2_with fail
            go_roundw
            case rel => exact ⟨i + 1, by omega, by go_num, HFIN⟩
            case measure => simp [intOf]; omega
    · have hie : i = l.length := by omega
      subst hie
      have hltB : decide ((l.length : Int) < (l.length : Int)) = false := by simp
      have hfin := H.out
      rw [List.take_length] at hfin
      have HF := hid hfin
      clear hfin
      go_wp2_with fail
      go_ret
      exact ⟨_, rfl, by unfold packU; rw [← HN.out.1]; exact HF.out.1, HF.out.2⟩
set_option maxHeartbeats 1000000 in
theorem rHashB_any (label : UInt64) (v : Value) (l : List UInt8) (w : World) (h : RdB' w v l) (hL : l.length ≤ 100000000) :
    Calls Try.prog 49 #[.int .u64 label.toNat, v] w fun e w' => e = .returned (uv (hashB label l)) ∧ Ext w w' := by
  have HP := hid (rPackB_any v l w h (by omega))
  have HL := packU_length l
  have HH : Hid (∀ u x, RdU u x (packU l) → Calls Try.prog 62 #[.int .u64 18446744069414584321, .int .u64 label.toNat, x] u fun e w' => e = .returned (uv (hashU label (packU l))) ∧ Ext u w') := hid fun u x hx => rHash_any _ isBig label x (packU l) u hx (by omega)
  obtain ⟨a, c, rfl, -⟩ := h
  unfold hashB
  generalize hashU label (packU l) = k at *
  clear hL HL
  go_enter Try.func49, Try.ntmps49
  go_wp2_with fail
  refine (HP.out).mono ?_
  rintro e w1 ⟨v1, rfl, h1, hx, -⟩
  have HR := hid h1.rdu
  have HX := hid hx
  clear h1 hx HP
  go_wp2_with fail
  refine (HH.out _ _ HR.out).mono ?_
  rintro e w2 ⟨rfl, hx⟩
  have HX2 := hid (HX.out.trans hx)
  clear hx HH
  go_wp2_with fail
  go_ret
  exact ⟨rfl, HX2.out⟩
end Go.Proofs.Ytkdnnekdldomeaa
