/- Commit: the good way. -/
import Derived.Test.YtdpgfjnpcjpdpaaCommit
set_option linter.unusedSimpArgs false
namespace Go.Proofs.Ytdpgfjnpcjpdpaa
open Go.RowKit
attribute [local irreducible] perm fAdd fMul fPow fSub fNeg fRed hashU drawOf nextState

theorem commitOk_parts {leaves : Lv} {salts : List UInt64} (h : commitOk leaves salts = true) : isNum leaves.length = true ∧ salts.length = leaves.length ∧ allE salts = true ∧ ∀ (i : Nat) (l : List UInt64), leaves[i]? = some l → allE l = true := by
  unfold commitOk at h
  simp only [Bool.and_eq_true, beq_iff_eq, List.all_eq_true] at h
  exact ⟨h.1, h.2.1, h.2.2.1, fun i l hl => h.2.2.2 l (List.mem_of_getElem? hl)⟩
theorem besideL_nil (w : World) (F : Nat → Prop) : BesideL w w F (.slice none 0 0) [] := ⟨⟨World.ownsRow_nil _ _ _ _, fun x hx => by cases hx⟩, (fun k hk => by cases hk), fun x hx => by cases hx⟩

set_option maxRecDepth 100000 in
set_option maxHeartbeats 6400000 in
theorem mCommit_good {w : World} {b : Nat} {M : Orc} {F : Nat → Prop} {lv sv : Value} {leaves : Lv} {salts : List UInt64} (h : OrcAt w b M F) (hl : Stays F w fun v => RdL v lv leaves) (hs : Stays F w fun v => RdU' v sv salts)
    (hE : ∀ l ∈ leaves, l.length ≤ 1000000000) (hq : M.qs.length ≤ 100000000) (hd : M.draws ≤ 100000000) (hok : commitOk leaves salts = true) :
    Calls Try.prog 25 #[.pointer (some ⟨b, 0, none⟩), lv, sv] w (CommitT w b M F leaves salts) := by
  obtain ⟨hnum, hlen, hsa, hla⟩ := commitOk_parts hok
  have hN := isNum_pos hnum
  obtain ⟨n, hn⟩ : ∃ n, n = leaves.length := ⟨_, rfl⟩
  rw [← hn] at hN hlen hnum
  obtain ⟨a, c, rfl, -⟩ := (hl w (Kp.refl F w)).shape
  have hs0 := hs w (Kp.refl F w)
  obtain ⟨sa, sc, rfl, -⟩ := hs0
  obtain ⟨wa, hwa⟩ : ∃ wa, wa = w.alloc (.cells #[.slice none 0 0] 27) := ⟨_, rfl⟩
  have hx : Ext w wa := by rw [hwa]; exact (Ext.refl w).alloc _
  have hbt : wa.heap[w.heap.size]? = some (.cells #[.slice none 0 0] 27 (0, 0)) := by rw [hwa]; exact heap_new w _
  have hsz : wa.heap.size = w.heap.size + 1 := by rw [hwa]; simp
  have HEL := hid (melements_any _ salts wa (hs wa (Kp.of_ext hx)) (by omega))
  rw [hsa] at HEL
  have HNU := hid (isNumber_len n wa)
  rw [hnum] at HNU
  have HL := hid hl
  have HS := hid hs
  have HE := hid hE
  have HLA := hid hla
  have HX := hid hx
  have HBT := hid hbt
  have HSZ := hid hsz
  have HWA := hid hwa
  have HN := hid hn
  have HOK := hid hok
  have HH := hid h
  have HQ := hid hq
  have HD := hid hd
  have HLEN := hid hlen
  have hq1 : ((n : Int) != (n : Int)) = false := by simp
  rw [← hn] at HL ⊢
  rw [hlen] at HS HEL ⊢
  clear h hl hs hE hq hd hok hnum hlen hsa hla hx hbt hsz hwa hn
  go_enter Try.func25, Try.ntmps25
  go_wp2_with fail
  rw [← HWA.out]
  refine HNU.out.mono ?_
  rintro e w1 ⟨rfl, rfl⟩
  go_wp2_with fail
  refine HEL.out.mono ?_
  rintro e w1 ⟨rfl, rfl⟩
  go_wp2_with fail
  go_loop [35] (fun iv => ∃ i : Nat, i ≤ n ∧ iv = .int .i64 i) (fun iv => n - (intOf iv).toNat)
  case atStart => exact ⟨0, by omega, rfl⟩
  case round =>
    obtain ⟨i, hi, rfl⟩ := hrel
    by_cases hlt : i < n
    · obtain ⟨l, hkk⟩ : ∃ l, leaves[i]? = some l := ⟨_, List.getElem?_eq_getElem (by rw [← HN.out]; exact hlt)⟩
      have hl1 := HL.out wa (Kp.of_ext HX.out)
      obtain ⟨b', o', y, d, rfl, hc, hr, -⟩ := hl1.at hkk
      have hle := HE.out l (List.mem_of_getElem? hkk)
      have HR := hid (melements_any _ l _ hr (by omega))
      rw [HLA.out i l hkk] at HR
      have hi0 : (0 : Int) ≤ (i : Int) := by omega
      clear hkk hr hl1
      go_wp2_with fail
      refine HR.out.mono ?_
      rintro e w1 ⟨rfl, rfl⟩
      go_wp2_with fail
      go_round
      case rel => exact ⟨i + 1, by omega, by go_num⟩
      case measure => simp [intOf]; omega
    · obtain ⟨i0, hi1, hz0, hz1, hz2⟩ := info_parts Try.infoU
      have hb1 : i0.bytes * n ≤ 281474976710656 := by rw [hz2]; omega
      have hb2 : n ≤ maxLen := by unfold maxLen; omega
      have B1 := hid hb1
      have B2 := hid hb2
      have HI := hid hi1
      have HZ0 := hid hz0
      have HZ1 := hid hz1
      have HZ2 := hid hz2
      clear hi1 hz0 hz1 hz2 hb1 hb2
      go_wp2_with (at_make; refine wpList_make_full _ rfl _ _ 24 rfl 0 28 i0 (.int .u64 0) 1 (by kernel_rfl) HI.out HZ0.out HZ1.out _ _ _ _ n rfl rfl rfl rfl B1.out B2.out (Nat.zero_le _) ?_)
      intro wb hown0 hg
      have hxb : Ext wa wb := (grown_kp hg).toExt (by intro k h; cases h)
      obtain ⟨g, hg0⟩ : ∃ g, g = wa.heap.size := ⟨_, rfl⟩
      rw [← hg0] at hown0 ⊢
      have hD0 : DInv w wb b F M (leafQ leaves salts) (M.asks (leafQ leaves salts)).1 g n 0 (.slice none 0 0) [] F :=
        { orc := by rw [List.take_zero]; exact .of_ext HH.out (HX.out.trans hxb)
          bes := ((besideL_nil w F).ext (HX.out.trans hxb))
          part := made_part hown0 rfl _
          gF := fun hf => by have := HH.out.foot_lt _ hf; have := HSZ.out; omega
          g0 := by have := HSZ.out; omega
          gL := ⟨(fun h => by cases h), fun x hx => by cases hx⟩
          tree := hxb.heap_some HBT.out
          treeF := fun hf => by have := HH.out.foot_lt _ hf; omega }
      have HD0 := hid hD0
      clear hD0 hown0 hg hxb hg0 B1 hlt hi
      go_wp2_with fail
      go_loopw [49] (fun iv wr => ∃ (i : Nat) (F' : Nat → Prop), i ≤ n ∧ iv = .int .i64 i ∧ Hid (DInv w wr b F M (leafQ leaves salts) (M.asks (leafQ leaves salts)).1 g n i (.slice none 0 0) [] F')) (fun iv _ => n - (intOf iv).toNat)
      case atStart => exact ⟨0, F, by omega, rfl, HD0⟩
      case round =>
        obtain ⟨i, F', hi, rfl, HDI⟩ := hrel
        by_cases hlt : i < n
        · obtain ⟨l, hkk⟩ : ∃ l, leaves[i]? = some l := ⟨_, List.getElem?_eq_getElem (by rw [← HN.out]; exact hlt)⟩
          obtain ⟨s, hss⟩ : ∃ s, salts[i]? = some s := ⟨_, List.getElem?_eq_getElem (by rw [HLEN.out]; exact hlt)⟩
          have hl1 := HL.out wr HDI.out.orc.kp
          have hs1 := HS.out wr HDI.out.orc.kp
          obtain ⟨b', o', y, d, rfl, hc, hr, -⟩ := hl1.at hkk
          rw [← HLEN.out] at hs1
          obtain ⟨b2, o2, rfl, hc2⟩ := hs1.uat hss
          have hle := HE.out l (List.mem_of_getElem? hkk)
          have hqi := leafQ_at hkk hss
          have HQI := hid hqi
          have HSA := hid (salted_any _ s l wr hr (by omega))
          have hi0 : (0 : Int) ≤ (i : Int) := by omega
          have hqs : (M.asks ((leafQ leaves salts).take i)).2.qs.length ≤ 1000000000 := by
            have h1 := asks_qs_le ((leafQ leaves salts).take i) M
            have h2 : ((leafQ leaves salts).take i).length ≤ i := List.length_take_le _ _
            have := HQ.out; omega
          have hds : (M.asks ((leafQ leaves salts).take i)).2.draws ≤ 1000000000000 := by
            have h1 := asks_draws_le ((leafQ leaves salts).take i) M
            have h2 : ((leafQ leaves salts).take i).length ≤ i := List.length_take_le _ _
            have := HD.out; omega
          have HQS := hid hqs
          have HDS := hid hds
          clear hkk hss hl1 hs1 hr hqi hqs hds
          go_wp2_with fail
          refine HSA.out.mono ?_
          rintro e w2 ⟨v, rfl, hown, hx2, hfr⟩
          have HX2 := hid hx2
          have HHA := hid (Hash_orc (label := 16) (HDI.out.orc.at'.ext hx2) hown.rdu (fun k hk hf => by have := hfr k hk; have := HDI.out.orc.at'.foot_lt k hf; omega) (by simp; omega) HQS.out HDS.out)
          clear hown hx2 hfr hc hc2
          go_wp2_with fail
          refine HHA.out.mono ?_
          rintro e w3 ⟨rfl, F'', ht⟩
          have hnx := HDI.out.next HX2.out HQI.out hlt rfl ht
          have HNX := hid hnx
          have hp3 := (HDI.out.part.ext HX2.out).kp ht.kp HDI.out.gF
          obtain ⟨⟨u0, d0⟩, f0⟩ := hp3.cellAt hlt
          have hi1 : (i : Int) < (n : Int) := by omega
          clear hnx hp3 ht
          go_wp2_with fail
          go_roundw
          case rel => exact ⟨i + 1, F'', by omega, by go_num, HNX⟩
          case measure => simp [intOf]; omega
        · obtain rfl : i = n := by omega
          have hA : (M.asks (leafQ leaves salts)).1.length = i := by rw [asks_length, leafQ_length (by rw [HLEN.out]; exact HN.out)]; exact HN.out.symm
          have howA := HDI.out.part.own hA (by unfold maxLen; omega)
          have hg0 := HDI.out.g0
          have hxw := HDI.out.orc.kp.size
          have hC0 : CInv w (wr.alloc (.cells #[.slice (some ⟨g, 0, none⟩) i i] 24)) b M F i (M.tree leaves salts) (.slice (some ⟨g, 0, none⟩) i i) (.slice (some ⟨wr.heap.size, 0, none⟩) 1 1) F' (M.asks (leafQ leaves salts)).2 (M.asks (leafQ leaves salts)).1 [] 10 :=
            { orc := by
                have h1 := HDI.out.orc.ext ((Ext.refl wr).alloc (.cells #[.slice (some ⟨g, 0, none⟩) i i] 24))
                rw [List.take_of_length_le (by rw [leafQ_length (by rw [HLEN.out]; exact HN.out), ← HN.out]; omega)] at h1
                exact h1
              bes := besideL_one (w0 := w) howA (by intro t ht; cases ht; exact ⟨HDI.out.gF, Nat.le_of_lt hg0⟩) HDI.out.orc.at'.foot_lt (by omega)
              spec := rfl
              pow := by rw [hA]; omega
              len := by simp
              qs := by
                have h1 := asks_qs_le (leafQ leaves salts) M
                rw [leafQ_length (by rw [HLEN.out]; exact HN.out), ← HN.out] at h1
                rw [hA]; omega
              draws := by
                have h1 := asks_draws_le (leafQ leaves salts) M
                rw [leafQ_length (by rw [HLEN.out]; exact HN.out), ← HN.out] at h1
                rw [hA]; omega
              tree := heap_alloc_some HDI.out.tree
              treeF := HDI.out.treeF }
          have HC0 := hid hC0
          have HCT : Hid (M.commitT leaves salts = M.tree leaves salts) := hid (by unfold Orc.commitT; rw [HOK.out]; rfl)
          obtain ⟨j0, hj1, hy0, hy1, hy2⟩ := info_parts Try.infoL
          have HJ := hid hj1
          have HY0 := hid hy0
          have HY1 := hid hy1
          have HY2 := hid hy2
          generalize M.tree leaves salts = all at *
          clear hC0 hA howA hg0 hxw hlt hj1 hy0 hy1 hy2 HL HS HE HLA HEL HNU
          go_wp2_with fail
          go_loopw [10, 13] (fun lv lsv wr => ∃ (F' : Nat → Prop) (M' : Orc) (lev : List UInt64) (L : List (List UInt64 × Value)) (k : Nat), lenOf lv = lev.length ∧ Hid (CInv w wr b M F i all lv lsv F' M' lev L k)) (fun lv _ _ => lenOf lv)
          case atStart => exact ⟨F', _, _, [], 10, by rw [asks_length, leafQ_length (by rw [HLEN.out]; exact HN.out), ← HN.out]; rfl, HC0⟩
          case round =>
            obtain ⟨F1, M1, lev, L, k, hlo, HC⟩ := hrel
            have hown := HC.out.bes.own.2 _ (List.mem_append_right _ (List.mem_singleton.2 rfl))
            obtain ⟨pa, pc, hpe, -⟩ := ownsRow_rd hown
            have hshape := ownsRow_rd HC.out.bes.own.1
            obtain ⟨qa, qc, hqe, -⟩ := hshape
            simp only at hpe
            subst hpe hqe
            have HOWN := hid hown
            have HLO := hid hlo
            clear hown hlo
            have hpw := HC.out.pow
            have hkl := HC.out.len
            have hlev : lev.length ≤ 1024 := Nat.le_trans hpw (Nat.le_trans (Nat.pow_le_pow_right (by omega) (show k ≤ 10 by omega)) (by decide))
            by_cases h2 : 1 < lev.length
            · have hdl : decide (1 < lev.length) = true := by simp; omega
              obtain ⟨k1, rfl⟩ : ∃ k1, k = k1 + 1 := by
                cases k with
                | zero => simp at hpw; omega
                | succ k1 => exact ⟨k1, rfl⟩
              obtain ⟨m, hm⟩ : ∃ m, m = lev.length / 2 := ⟨_, rfl⟩
              have hdv : (lev.length : Int) / 2 = (m : Int) := by omega
              have hm1 : m ≤ 512 := by omega
              have hb1 : i0.bytes * m ≤ 281474976710656 := by rw [HZ2.out]; omega
              have hb2 : m ≤ maxLen := by unfold maxLen; omega
              have C1 := hid hb1
              have C2 := hid hb2
              have HM := hid hm
              have HPW := hid hpw
              have HLEV := hid hlev
              clear hm hb1 hb2 hpw hkl hlev HDI HD0 HC0
              go_wp2_with (at_make; refine wpList_make_full _ rfl _ _ 24 rfl 0 28 i0 (.int .u64 0) 1 (by kernel_rfl) HI.out HZ0.out HZ1.out _ _ _ _ m rfl rfl rfl rfl C1.out C2.out (Nat.zero_le _) ?_)
              intro wc hown0 hg
              have hxc : Ext wr wc := (grown_kp hg).toExt (by intro k h; cases h)
              have hts := HC.out.orc.kp.size
              have htl := heap_lt HC.out.tree
              have hbl := HC.out.bes.lts
              obtain ⟨g2, hg2⟩ : ∃ g2, g2 = wr.heap.size := ⟨_, rfl⟩
              rw [← hg2] at hown0 htl hbl ⊢
              have hD0 : DInv w wc b F M1 (branchQ lev) (M1.asks (branchQ lev)).1 g2 m 0 (Value.slice qa (L ++ [(lev, Value.slice pa lev.length pc)]).length qc) (L ++ [(lev, Value.slice pa lev.length pc)]) F1 :=
                { orc := by rw [List.take_zero]; exact HC.out.orc.ext hxc
                  bes := HC.out.bes.ext hxc
                  part := made_part hown0 rfl _
                  gF := fun hf => by have := HC.out.orc.at'.foot_lt _ hf; omega
                  g0 := htl
                  gL := ⟨fun h => by have := hbl.1 _ h; omega, fun x hx h => by have := hbl.2 x hx _ h; omega⟩
                  tree := hxc.heap_some HC.out.tree
                  treeF := HC.out.treeF }
              have HD1 := hid hD0
              clear hD0 hown0 hg hxc hts htl hbl hg2 C1
              go_wp2_with fail
              go_loopw [77] (fun iv wr => ∃ (i : Nat) (F2 : Nat → Prop), i ≤ m ∧ iv = .int .i64 i ∧ Hid (DInv w wr b F M1 (branchQ lev) (M1.asks (branchQ lev)).1 g2 m i (Value.slice qa (L ++ [(lev, Value.slice pa lev.length pc)]).length qc) (L ++ [(lev, Value.slice pa lev.length pc)]) F2)) (fun iv _ => m - (intOf iv).toNat)
              case atStart => exact ⟨0, F1, by omega, rfl, HD1⟩
              case round =>
                obtain ⟨j, F2, hj, rfl, HDJ⟩ := hrel
                by_cases hlt : j < m
                · obtain ⟨p, hp⟩ : ∃ p, p = 2 * j := ⟨_, rfl⟩
                  have hpl : p + 1 < lev.length := by have := HM.out; omega
                  obtain ⟨x, hxx⟩ : ∃ x, lev[p]? = some x := ⟨_, List.getElem?_eq_getElem (by omega)⟩
                  obtain ⟨y, hyy⟩ : ∃ y, lev[p + 1]? = some y := ⟨_, List.getElem?_eq_getElem hpl⟩
                  have hqi : (branchQ lev)[j]? = some (17, [x, y]) := by
                    rw [branchQ_at (by rw [← HM.out]; exact hlt), ← hp, List.getD_eq_getElem?_getD, hxx, List.getD_eq_getElem?_getD, hyy]; rfl
                  have hmem : (lev, Value.slice pa lev.length pc) ∈ L ++ [(lev, Value.slice pa lev.length pc)] := List.mem_append_right _ (List.mem_singleton.2 rfl)
                  have hlu := (HDJ.out.bes.own.2 _ hmem).rdu
                  have hln := HDJ.out.bes.nos _ hmem
                  obtain ⟨lb, lo, rfl, hcx⟩ := hlu.at hxx
                  obtain ⟨lb', lo', he, hcy⟩ := hlu.at hyy
                  injection he with he
                  injection he with he1 he2
                  subst he1 he2
                  have hlF : ¬ F2 lb := (hln lb rfl).1
                  have hcs : ∀ v, Kp F2 wr v → v.cell? ⟨lb, lo + p, none⟩ = some (uv x) ∧ v.cell? ⟨lb, lo + (p + 1), none⟩ = some (uv y) := fun v h => ⟨h.cell_some hlF hcx, h.cell_some hlF hcy⟩
                  have HCS := hid hcs
                  have HQI := hid hqi
                  have hw1 : IntKind.i64.wrap (2 * (j : Int)) = (p : Int) := by rw [show 2 * (j : Int) = (p : Int) by omega]; exact IntWalk.i64_in _ (by omega)
                  have hw2 : IntKind.i64.wrap ((p : Int) + 1) = (p : Int) + 1 := IntWalk.i64_in _ (by omega)
                  have hp0 : (0 : Int) ≤ (p : Int) := by omega
                  have hp1 : (p : Int) < (lev.length : Int) := by omega
                  have hp2 : (0 : Int) ≤ (p : Int) + 1 := by omega
                  have hp3 : (p : Int) + 1 < (lev.length : Int) := by omega
                  have hqs : (M1.asks ((branchQ lev).take j)).2.qs.length ≤ 1000000000 := by
                    have h1 := asks_qs_le ((branchQ lev).take j) M1
                    have h2 : ((branchQ lev).take j).length ≤ j := List.length_take_le _ _
                    have := HQ.out; have := HC.out.qs; omega
                  have hds : (M1.asks ((branchQ lev).take j)).2.draws ≤ 1000000000000 := by
                    have h1 := asks_draws_le ((branchQ lev).take j) M1
                    have h2 : ((branchQ lev).take j).length ≤ j := List.length_take_le _ _
                    have := HD.out; have := HC.out.draws; omega
                  have HQS := hid hqs
                  have HDS := hid hds
                  have hj0 : (0 : Int) ≤ (j : Int) := by omega
                  have hj1 : (j : Int) < (m : Int) := by omega
                  clear hp hpl hxx hyy hqi hmem hlu hln hcx hcy hcs hqs hds hlF
                  go_wp2_with fail
                  refine wp_region_T (fun v => (v.cell? ⟨lb, lo + p, none⟩ = some (uv x) ∧ v.cell? ⟨lb, lo + (p + 1), none⟩ = some (uv y)) ∧ Kp F2 wr v) 16 [(0, true), (1, true), (2, true), (3, true), (4, true), (5, true), (6, true), (7, true), (8, true), (9, true), (10, true), (11, true), (12, true), (13, true), (14, false), (15, false), (16, false), (17, false)] (by kernel_rfl) (by kernel_rfl) (by intro c a d v w h; cases d <;> exact h) ?_
                  intro ops hops
                  have HS := keepKs HCS.out (Kp.refl _ wr).drew
                  iterate 14
                    refine wpT_take (v := ?_) (by rw [hops, List.getElem?_toArray]; rfl) (by first | rfl | (rw [hops]; rfl)) ?_ HS ?_
                    rotate_left
                    · intro v h; go_simp; with_reducible rfl
                    simp only [Act.put, List.getElem_toArray, List.getElem_cons_zero, List.getElem_cons_succ, List.setIfInBounds_toArray, List.set_cons_zero, List.set_cons_succ]
                  refine wpT_step (by rw [hops, List.getElem?_toArray]; rfl) (by first | rfl | (rw [hops]; rfl)) ?_
                  intro K hK
                  go_wp2_with fail
                  have hx1 := (Ext.refl wr).drew.alloc (.cells #[uv x, uv y] 28)
                  have HS1 := keepKs HCS.out (Kp.of_ext (F := F2) hx1)
                  have HX1 := hid hx1
                  have hrd : RdU (wr.drew.alloc (.cells #[uv x, uv y] 28)) _ [x, y] := pair_rdu (heap_new wr.drew (.cells #[uv x, uv y] 28))
                  have hno := apart_new (v := .slice (some ⟨wr.drew.heap.size, 0, none⟩) 2 2) (HDJ.out.orc.at'.ext (Ext.refl wr).drew) (by intro k hk; cases hk; exact Nat.le_refl _)
                  have HHA := hid (Hash_orc (label := 17) (HDJ.out.orc.at'.ext hx1) hrd hno (by simp) HQS.out HDS.out)
                  refine ⟨fun _ => HS1, ?_⟩
                  clear hx1 hrd hno HS
                  refine wpT_step (by rw [hops, List.getElem?_toArray]; rfl) (by first | rfl | (rw [hops]; rfl)) ?_
                  intro K hK
                  go_wp2_with fail
                  refine HHA.out.mono ?_
                  rintro e w3 ⟨rfl, F3, ht⟩
                  have HS2 := keepKs HCS.out (HS1.2.trans ht.kp)
                  have hnx := HDJ.out.next HX1.out HQI.out hlt rfl ht
                  have HNX := hid hnx
                  have hpp := (HDJ.out.part.ext HX1.out).kp ht.kp HDJ.out.gF
                  obtain ⟨⟨u0, d0⟩, f0⟩ := hpp.cellAt hlt
                  clear hnx hpp ht
                  refine hK _ _ ⟨fun _ => HS2, ?_⟩
                  clear hK K
                  clear HS1 HS2
                  refine wpT_step (by rw [hops, List.getElem?_toArray]; rfl) (by first | rfl | (rw [hops]; rfl)) ?_
                  intro K hK
                  go_wp2_with fail
                  try (with_reducible refine ⟨fun h => absurd h (by decide), ?_⟩)
                  try rw [← hops]
                  refine wpT_step (by rw [hops, List.getElem?_toArray]; rfl) (by first | rfl | (rw [hops]; rfl)) ?_
                  intro K hK
                  go_wp2_with fail
                  try (with_reducible refine ⟨fun h => absurd h (by decide), ?_⟩)
                  try rw [← hops]
                  rw [wpT_nil]
                  clear hops ops
                  go_wp2_with fail
                  go_roundw
                  case rel => exact ⟨j + 1, F3, by omega, by go_num, HNX⟩
                  case measure => simp [intOf]; omega
                · obtain rfl : j = m := by omega
                  have hA : (M1.asks (branchQ lev)).1.length = j := by rw [asks_length, branchQ_length]; exact HM.out.symm
                  have howA := HDJ.out.part.own hA C2.out
                  have hto : OrcTo w b F (M1.asks (branchQ lev)).2 wr F2 := by
                    have h1 := HDJ.out.orc
                    rwa [List.take_of_length_le (by rw [branchQ_length, ← HM.out]; omega)] at h1
                  have hdq := asks_qs_le (branchQ lev) M1
                  have hdd := asks_draws_le (branchQ lev) M1
                  rw [branchQ_length, ← HM.out] at hdq hdd
                  have hcl := climb_go M1 k1 lev (by omega)
                  generalize (M1.asks (branchQ lev)).1 = A at *
                  generalize (M1.asks (branchQ lev)).2 = M2 at *
                  have hx2 := (Ext.refl wr).alloc (.cells #[.slice (some ⟨g2, 0, none⟩) j j] 24)
                  have hrd1 := RdC.new1 wr (.slice (some ⟨g2, 0, none⟩) j j) 24
                  have hll : (L ++ [(lev, Value.slice pa lev.length pc)]).length = L.length + 1 := by simp
                  have hbesj := HDJ.out.bes
                  rw [hll] at hbesj
                  have hownL := hbesj.own.ext hx2
                  have HOWNL := hid hownL
                  have HBJ := hid hbesj
                  clear hll hbesj
                  have HTO := hid hto
                  have HOWA := hid howA
                  have HDQ := hid hdq
                  have HDD := hid hdd
                  have HCL := hid hcl
                  have HA := hid hA
                  have HLEN2 : Hid ((L ++ [(lev, Value.slice pa lev.length pc)]).length ≤ 10) := hid (by have := HC.out.len; simp; omega)
                  clear hownL hto howA hdq hdd hcl hA
                  go_wp2_with (at_builtin; refine wpList_app rfl _ _ 22 rfl 24 j0 (.slice none 0 0) 1 24 Try.underlying22 HJ.out HY0.out HY1.out HY2.out rfl (by decide) (.slice qa (L.length + 1) qc) (L ++ [(lev, Value.slice pa lev.length pc)]).length ((L ++ [(lev, Value.slice pa lev.length pc)]).map (·.2)) rfl HOWNL.out.1 (.slice (some ⟨wr.heap.size, 0, none⟩) 1 1) 1 [.slice (some ⟨g2, 0, none⟩) j j] rfl hrd1 rfl (by intro u hu; simp only [List.mem_singleton] at hu; subst hu; rfl) (by have := HLEN2.out; unfold maxLen; omega) (by have := HLEN2.out; omega) ?_)
                  intro v3 w3 hown3 hk3 hb3
                  have hsz := HTO.out.kp.size
                  have hgn := HDJ.out.g0
                  have hF2 := HTO.out.at'.foot_lt
                  have hgF := HDJ.out.gF
                  have hnew := besideL_grow (l := A) (x := .slice (some ⟨g2, 0, none⟩) j j) HBJ.out HOWA.out (by intro t ht; cases ht; exact ⟨hgF, Nat.le_of_lt hgn⟩) hx2 (by simpa using hown3) hk3 (by simpa using hb3) (fun k hk => by have := hF2 k hk; simp; omega) (by simp; omega)
                  have hnext : CInv w w3 b M F i all (.slice (some ⟨g2, 0, none⟩) j j) v3 F2 M2 A (L ++ [(lev, Value.slice pa lev.length pc)]) k1 :=
                    { orc := (HTO.out.ext hx2).kpOther hk3 (fun t ht => HBJ.out.no t ht.symm)
                      bes := hnew
                      spec := by rw [HC.out.spec, HCL.out]; simp
                      pow := by have := HPW.out; have := HM.out; rw [Nat.pow_succ] at *; rw [HA.out]; omega
                      len := by have := HC.out.len; simp; omega
                      qs := by have := HC.out.qs; have := HDQ.out; have := HM.out; rw [HA.out]; omega
                      draws := by have := HC.out.draws; have := HDD.out; have := HM.out; rw [HA.out]; omega
                      tree := by
                        refine hk3.heap_some (fun ht => ?_) (hx2.heap_some HDJ.out.tree)
                        obtain ⟨cs, h1⟩ := ownsRow_block HBJ.out.own.1 ht.symm
                        rw [HDJ.out.tree] at h1
                        injection h1 with h1
                        injection h1 with _ h1
                        exact absurd h1 (by decide)
                      treeF := HDJ.out.treeF }
                  have HNX := hid hnext
                  clear hown3 hk3 hb3 hsz hgn hF2 hgF hnew hnext hx2 hrd1
                  go_wp2_with fail
                  go_roundw
                  case rel => exact ⟨F2, M2, A, _, k1, HA.out.symm, HNX⟩
                  case measure => simp [intOf, lenOf]; omega
            · have hdl : decide (1 < lev.length) = false := by simp; omega
              have d0 : wr.cell? ⟨w.heap.size, 0, none⟩ = some (.slice none 0 0) := cell_of HC.out.tree 0
              have f0 : wr.frozen? ⟨w.heap.size, 0, none⟩ = false := frozen_of HC.out.tree 0
              go_wp2_with fail
              have hcs := climb_stop M1 k lev (by omega)
              have hsp := HC.out.spec
              rw [hcs] at hsp
              have hset : Kp (fun j => j = w.heap.size) wr (wr.setCell ⟨w.heap.size, 0, none⟩ (.slice qa (L.length + 1) qc)) := (Kp.refl (fun j => j = w.heap.size) wr).setCell (p := ⟨w.heap.size, 0, none⟩) (.inl rfl) _
              have htb : (wr.setCell ⟨w.heap.size, 0, none⟩ (.slice qa (L.length + 1) qc)).heap[w.heap.size]? = some (.cells #[.slice qa (L.length + 1) qc] 27 (0, 0)) := heap_setCell_same HC.out.tree 0 _
              have hto := HC.out.orc.kpOther hset (by rintro j rfl; exact ⟨HC.out.treeF, Nat.le_refl _⟩)
              have htn : ∀ {e : TypeId} {size n : Nat} {v : Value} {xs : List Value}, e ≠ 27 → wr.ownsRow 0 e size v n xs → blk v ≠ some w.heap.size := by
                intro e size n v xs hne ho hv
                obtain ⟨cs, h1⟩ := ownsRow_block ho hv
                rw [HC.out.tree] at h1
                injection h1 with h1
                injection h1 with _ h1
                exact hne h1.symm
              have hbes := HC.out.bes.kpOther hset (by
                rintro j rfl
                exact ⟨htn (by decide) HC.out.bes.own.1, fun x hx => htn (by decide) (HC.out.bes.own.2 x hx)⟩)
              have c0 := cell_of htb 0
              have hll : (L ++ [(lev, Value.slice pa lev.length pc)]).length = L.length + 1 := by simp
              have HFIN : CommitT w b M F leaves salts (.returned (.tuple #[.agg #[.slice qa (L.length + 1) qc], .int .i64 0])) (wr.setCell ⟨w.heap.size, 0, none⟩ (.slice qa (L.length + 1) qc)) := by
                refine ⟨.slice qa (L.length + 1) qc, L ++ [(lev, Value.slice pa lev.length pc)], by rw [HOK.out]; rfl, ?_, F1, ?_, ?_⟩
                · rw [HCT.out, hsp]; simp
                · rw [HCT.out, hsp]; exact hto
                · rw [← hll]; rw [← hll] at hbes; exact hbes
              exact bodyPost_ret (v := .tuple #[.agg #[.slice qa (L.length + 1) qc], .int .i64 0]) (by simp [results, Try.results25, go_sem, c0]) rfl HFIN

theorem mCommit_any {w : World} {b : Nat} {M : Orc} {F : Nat → Prop} {lv sv : Value} {leaves : Lv} {salts : List UInt64} (h : OrcAt w b M F) (hl : Stays F w fun v => RdL v lv leaves) (hs : Stays F w fun v => RdU' v sv salts)
    (hL : leaves.length ≤ 1000000000) (hE : ∀ l ∈ leaves, l.length ≤ 1000000000) (hS : salts.length ≤ 1000000000) (hq : M.qs.length ≤ 100000000) (hd : M.draws ≤ 100000000) :
    Calls Try.prog 25 #[.pointer (some ⟨b, 0, none⟩), lv, sv] w (CommitT w b M F leaves salts) := by
  cases hok : commitOk leaves salts with
  | true => exact mCommit_good h hl hs hE hq hd hok
  | false => exact mCommit_bad h (hl w (Kp.refl F w)) (hs w (Kp.refl F w)) hL hE hS hok
end Go.Proofs.Ytdpgfjnpcjpdpaa
