/- Texts of this claim, joined: L49For. -/
import Derived.Test.YtcikjcjfcanloaaGreatJa24
import Derived.Test.YtcikjcjfcanloaaGreatJa25
import Derived.Test.YtcikjcjfcanloaaGreatJb1
import Derived.Test.YtcikjcjfcanloaaGreatJb2
set_option linter.unusedSimpArgs false
namespace Go.Proofs.YtcikjcjfcanloaaGreat
open Go.RowKit
attribute [local irreducible] perm fAdd fMul fPow fSub fNeg fRed hashU drawOf nextState cipSeal
set_option maxRecDepth 100000 in
set_option maxHeartbeats 25600000 in
theorem walletForeign_any (seed : UInt64) (d : Int) (ov : Value) (ops : List OpT) (other : UInt64) (w : World) (h : RdWops w ov ops) :
    Calls Tryz.prog 3 #[uv seed, .agg #[.int .i64 d, ov], uv other] w fun e w' => e = .returned (.bool true) ∧ Ext w w' := by
  have HH := hid h
  have AW := hid awake49_any
  have SM : Hid (∀ u, Ext w u → Calls Tryz.prog 19 #[.int .i64 d, ov] u fun e w' => e = .returned (.bool (smallW d ops)) ∧ Ext u w') := hid fun u k => small49_any d ov ops u (h.ext k)
  obtain ⟨oa, oc, rfl, -⟩ := h.shape
  obtain ⟨N, hN⟩ : ∃ N, N = w.heap.size := ⟨_, rfl⟩
  obtain ⟨w0, hw0⟩ : ∃ w0, w0 = w.alloc (.cells #[.int .i64 d, .slice oa ops.length oc] 25) := ⟨_, rfl⟩
  have hx0 : Ext w w0 := by rw [hw0]; exact (Ext.refl w).alloc _
  have hb0 : w0.heap[N]? = some (.cells #[.int .i64 d, .slice oa ops.length oc] 25 (0, 0)) := by rw [hw0, hN]; exact heap_new _ _
  have HB := hid hb0
  have HX0 := hid hx0
  have HW := hid hw0
  obtain ⟨S, hS⟩ : ∃ S, S = smallW d ops := ⟨_, rfl⟩
  rw [← hS] at SM
  have HS := hid hS
  have HC : Hid (∀ u, Ext w0 u → u.cell? ⟨N, 0, none⟩ = some (.int .i64 d) ∧ u.cell? ⟨N, 1, none⟩ = some (.slice oa ops.length oc)) := hid fun u k => ⟨cell_of (k.heap_some HB.out) 0, cell_of (k.heap_some HB.out) 1⟩
  clear h hw0 hx0 hb0 hS
  go_enter Tryz.func3, Tryz.ntmps3
  go_upto_region 1 with fail
  rw [← HW.out, ← hN]
  clear hN HW
  go_wp2_with fail
  refine (AW.out _).mono ?_
  rintro e w1 ⟨rfl, hx⟩
  have X1 := hid hx
  clear hx
  obtain ⟨c0, c1⟩ := HC.out w1 X1.out
  go_wp2_with fail
  refine (SM.out _ (HX0.out.trans X1.out)).mono ?_
  rintro e w2 ⟨rfl, hx⟩
  have X2 := hid (X1.out.trans hx)
  clear hx SM c0 c1
  cases S with
  | false =>
    go_wp2_with fail
    refine (AW.out _).mono ?_
    rintro e w3 ⟨rfl, hx⟩
    have X3 := hid (X2.out.trans hx)
    clear hx AW
    go_wp2_with fail
    go_ret
    exact ⟨rfl, HX0.out.trans X3.out⟩
  | true =>
    clear AW
    obtain ⟨n, rfl, h1, h6, h8, hbs⟩ := small_facts HS.out.symm
    have HD := hid (And.intro h1 h6)
    have HBS := hid hbs
    have H8 := hid h8
    have RS1 := hid (rkSpend_any seed)
    have RS2 := hid (rkSpend_any other)
    have ROW := hid rkOwner_any
    obtain ⟨s1, hs1⟩ : ∃ s1, s1 = kSpend seed := ⟨_, rfl⟩
    obtain ⟨s2, hs2⟩ : ∃ s2, s2 = kSpend other := ⟨_, rfl⟩
    rw [← hs1] at RS1
    rw [← hs2] at RS2
    have HSS := hid (And.intro hs1 hs2)
    clear h1 h6 h8 hbs hs1 hs2
    go_wp2_with fail
    go_loopw [30] (fun iv wr => ∃ i : Nat, i ≤ 4 ∧ iv = .int .i64 i ∧ Hid ((∀ a b : Nat, a < i → b < 4 → kOwner s1 (a : Nat) ≠ kOwner s2 (b : Nat)) ∧ Ext w0 wr)) (fun iv _ => 4 - (intOf iv).toNat)
    case atStart => exact ⟨0, by omega, rfl, hid ⟨fun a b h => by omega, X2.out⟩⟩
    case round =>
      obtain ⟨i, hi, rfl, HI⟩ := hrel
      have hi0 : (0 : Int) ≤ (i : Int) := Int.natCast_nonneg _
      by_cases hlt : i < 4
      · have hltB : decide ((i : Int) < 4) = true := decide_eq_true (by omega)
        have hil : (i : Int) < 4 := by omega
        go_wp2_with fail
        go_loopw [33] (fun kv wr => ∃ k : Nat, k ≤ 4 ∧ kv = .int .i64 k ∧ Hid ((∀ b : Nat, b < k → kOwner s1 (i : Nat) ≠ kOwner s2 (b : Nat)) ∧ Ext w0 wr)) (fun kv _ => 4 - (intOf kv).toNat)
        case atStart => exact ⟨0, by omega, rfl, hid ⟨fun b h => by omega, HI.out.2⟩⟩
        case round =>
          obtain ⟨k, hk, rfl, HK⟩ := hrel
          have hk0 : (0 : Int) ≤ (k : Int) := Int.natCast_nonneg _
          by_cases hkt : k < 4
          · have hktB : decide ((k : Int) < 4) = true := decide_eq_true (by omega)
            have hkl : (k : Int) < 4 := by omega
            have OC1 := hid (ROW.out s1 (i : Int))
            have OC2 := hid (ROW.out s2 (k : Int))
            obtain ⟨o1, ho1⟩ : ∃ o1, o1 = kOwner s1 (i : Int) := ⟨_, rfl⟩
            obtain ⟨o2, ho2⟩ : ∃ o2, o2 = kOwner s2 (k : Int) := ⟨_, rfl⟩
            rw [← ho1] at OC1
            rw [← ho2] at OC2
            have HO12 := hid (And.intro ho1 ho2)
            clear ho1 ho2
            go_wp2_with fail
            refine (RS1.out _).mono ?_
            rintro e v1 ⟨rfl, hx⟩
            have Y1 := hid (HK.out.2.trans hx)
            clear hx
            go_wp2_with fail
            refine (OC1.out _).mono ?_
            rintro e v2 ⟨rfl, hx⟩
            have Y2 := hid (Y1.out.trans hx)
            clear hx OC1
            go_wp2_with fail
            refine (RS2.out _).mono ?_
            rintro e v3 ⟨rfl, hx⟩
            have Y3 := hid (Y2.out.trans hx)
            clear hx
            go_wp2_with fail
            refine (OC2.out _).mono ?_
            rintro e v4 ⟨rfl, hx⟩
            have Y4 := hid (Y3.out.trans hx)
            clear hx OC2
            by_cases he : o1 = o2
            · subst he
              go_wp2_with fail
              go_ret
              exact ⟨rfl, HX0.out.trans Y4.out⟩
            · have hne2 : ((o1.toNat : Int) == (o2.toNat : Int)) = false := by rw [beq_eq_false_iff_ne]; exact fun h => he (UInt64.toNat_inj.1 (by omega))
              have hne3 : ¬ o1.toNat = o2.toNat := fun h => he (UInt64.toNat_inj.1 h)
              have HN := hid (And.intro (fun (b : Nat) (hb : b < k + 1) => show kOwner s1 (i : Nat) ≠ kOwner s2 (b : Nat) from by
                by_cases hbk : b = k
                · subst hbk
                  intro hc
                  exact he (by rw [HO12.out.1, HO12.out.2]; exact hc)
                · exact HK.out.1 b (by omega)) Y4.out)
              clear he
              go_wp2_with fail
              go_roundw
              case rel => exact ⟨k + 1, by omega, by go_num, HN⟩
              case measure => simp [intOf]; omega
          · have hktB : decide ((k : Int) < 4) = false := decide_eq_false (by omega)
            obtain rfl : k = 4 := by omega
            have HN := hid (And.intro (fun (a b : Nat) (ha : a < i + 1) (hb : b < 4) => show kOwner s1 (a : Nat) ≠ kOwner s2 (b : Nat) from by
              by_cases hai : a = i
              · subst hai
                exact HK.out.1 b hb
              · exact HI.out.1 a b (by omega) hb) HK.out.2)
            go_wp2_with fail
            go_roundw
            case rel => exact ⟨i + 1, by omega, by go_num, HN⟩
            case measure => simp [intOf]; omega
      · have hltB : decide ((i : Int) < 4) = false := decide_eq_false (by omega)
        obtain rfl : i = 4 := by omega
        have HFA := hid HI.out.1
        have XR := hid HI.out.2
        have PL1 : Hid (∀ u, Ext w0 u → Calls Tryz.prog 22 #[.int .i64 (n : Int), uv seed, .slice oa ops.length oc] u fun e w' => ∃ W lv, e = .returned (.tuple #[.pointer (some ⟨W, 0, none⟩), lv, .bool true]) ∧ PlI u w' W n (fRed seed) (playW n ops) lv) := hid fun u k => play49_any n HD.out.1 (by have := HD.out.2; omega) seed (.slice oa ops.length oc) ops u (HH.out.ext (HX0.out.trans k)) HBS.out (by have := H8.out; omega)
        have PL2 : Hid (∀ u, Ext w0 u → Calls Tryz.prog 22 #[.int .i64 (n : Int), uv other, .slice oa ops.length oc] u fun e w' => ∃ W lv, e = .returned (.tuple #[.pointer (some ⟨W, 0, none⟩), lv, .bool true]) ∧ PlI u w' W n (fRed other) (playW n ops) lv) := hid fun u k => play49_any n HD.out.1 (by have := HD.out.2; omega) other (.slice oa ops.length oc) ops u (HH.out.ext (HX0.out.trans k)) HBS.out (by have := H8.out; omega)
        have HOK := hid (playW_ok n ops)
        have HLN : Hid (∀ s, (stW s (playW n ops)).notes.length ≤ 10000) := hid fun s => by
          have h2 := fitsAll_stW ((okAll_fits (seed := s)).2 (playW_ok n ops))
          have h3 := pow12 (d := n) (by have := HD.out.2; omega)
          have h4 := (stW_ok s (playW n ops)).n
          simp only at h4
          omega
        obtain ⟨l, hl⟩ : ∃ l, l = playW n ops := ⟨_, rfl⟩
        rw [← hl] at PL1 PL2 HOK HLN
        clear hl
        obtain ⟨c0, c1⟩ := HC.out wr XR.out
        go_wp2_with fail
        refine (PL1.out _ XR.out).mono ?_
        rintro e w3 ⟨W1, lv1, rfl, G1, hwal, hgn, hrd, hng, hx⟩
        obtain ⟨la1, lc1, rfl, -⟩ := hrd.shape
        have HW1 := hid hwal
        have X3 := hid (XR.out.trans hx)
        clear hwal hgn hrd hng hx c0 c1 PL1
        obtain ⟨c0, c1⟩ := HC.out w3 X3.out
        go_wp2_with fail
        refine (PL2.out _ X3.out).mono ?_
        rintro e w4 ⟨W2, lv2, rfl, G2, hwal, hgn, hrd, hng, hx⟩
        obtain ⟨la2, lc2, rfl, -⟩ := hrd.shape
        have HWW := hid (And.intro (HW1.out.ext hx) hwal)
        have X4 := hid (X3.out.trans hx)
        clear hwal hgn hrd hng hx c0 c1 PL2 HW1
        have NT1 : Hid (∀ u, Ext w4 u → Calls Tryz.prog 23 #[.pointer (some ⟨W1, 0, none⟩)] u fun e w' => ∃ v, e = .returned v ∧ OwnN w' v (stW seed l).notes ∧ Ext u w' ∧ ∀ k, blk v = some k → u.heap.size ≤ k) := hid fun u k => by
          have := wNotes_any (HWW.out.1.ext k) HOK.out
          rwa [stW_red] at this
        have NT2 : Hid (∀ u, Ext w4 u → Calls Tryz.prog 23 #[.pointer (some ⟨W2, 0, none⟩)] u fun e w' => ∃ v, e = .returned v ∧ OwnN w' v (stW other l).notes ∧ Ext u w' ∧ ∀ k, blk v = some k → u.heap.size ≤ k) := hid fun u k => by
          have := wNotes_any (HWW.out.2.ext k) HOK.out
          rwa [stW_red] at this
        have HL1 := hid (HLN.out seed)
        have HL2 := hid (HLN.out other)
        have HFN : Hid (∀ x y, x ∈ (stW seed l).notes → y ∈ (stW other l).notes → x.note.same y.note = false ∧ (x.pos = y.pos → commitN x.note = commitN y.note)) := hid fun x y hx hy => ⟨Bool.eq_false_iff.2 (fun h => foreign_note (s1 := seed) (s2 := other) (fun i k hi hk => by rw [← HSS.out.1, ← HSS.out.2]; exact HFA.out i k hi hk) hx hy (Nt.same_iff.1 h)), fun h => foreign_pos hx hy h⟩
        generalize (stW seed l).notes = ns at *
        generalize (stW other l).notes = ms at *
        have hn1 : (ns.length : Int) ≤ 10000 := by have := HL1.out; omega
        have hn2 : (ms.length : Int) ≤ 10000 := by have := HL2.out; omega
        go_wp2_with fail
        refine (NT1.out _ (Ext.refl w4)).mono ?_
        rintro e w5 ⟨v5, rfl, ho5, hx5, -⟩
        obtain ⟨na, nc, rfl, -⟩ := ownsRow_rd ho5
        have O5 := hid ho5
        have X5 := hid hx5
        clear ho5 hx5 NT1
        go_wp2_with fail
        go_loopw [76] (fun iv wr => ∃ i : Nat, i ≤ ns.length ∧ iv = .int .i64 i ∧ Hid (Ext w5 wr)) (fun iv _ => ns.length - (intOf iv).toNat)
        case atStart => exact ⟨0, by omega, rfl, hid (Ext.refl w5)⟩
        case round =>
          obtain ⟨i, hi, rfl, HI⟩ := hrel
          have hi0 : (0 : Int) ≤ (i : Int) := Int.natCast_nonneg _
          by_cases hlt : i < ns.length
          · have hltB : decide ((i : Int) < (ns.length : Int)) = true := decide_eq_true (by omega)
            have hil : (i : Int) < (ns.length : Int) := by omega
            obtain ⟨x, hxi⟩ : ∃ x, ns[i]? = some x := ⟨_, List.getElem?_eq_getElem hlt⟩
            obtain ⟨g, rfl⟩ : ∃ g, na = some ⟨g, 0, none⟩ := own_shape O5.out (by omega)
            obtain ⟨f0, f1, f2, f3, f4, f5, f6, f7⟩ := ownN_cells (ownsRow_ext O5.out HI.out) hxi
            have HXM := hid (List.mem_of_getElem? hxi)
            clear hxi
            go_upto_region 20 with fail
            obtain ⟨Q, hQ⟩ : ∃ Q, Q = wr.heap.size := ⟨_, rfl⟩
            obtain ⟨u1, hu1⟩ : ∃ u1, u1 = wr.alloc (.cells #[uv x.note.value, uv x.note.owner, uv x.note.rho, uv x.note.blind, .int .i64 (x.number : Int), .int .i64 (x.pos : Int), .int .i64 (x.height : Int), .int .i64 (x.spent : Int)] 39) := ⟨_, rfl⟩
            rw [← hu1, ← hQ]
            have G1 : Hid (Ext w5 u1) := hid (by rw [hu1]; exact HI.out.alloc _)
            have hqb : u1.heap[Q]? = some (.cells #[uv x.note.value, uv x.note.owner, uv x.note.rho, uv x.note.blind, .int .i64 (x.number : Int), .int .i64 (x.pos : Int), .int .i64 (x.height : Int), .int .i64 (x.spent : Int)] 39 (0, 0)) := by rw [hu1, hQ]; exact heap_new _ _
            have HQB := hid hqb
            clear hu1 hQ f0 f1 f2 f3 f4 f5 f6 f7 hqb
            go_wp2_with fail
            refine (NT2.out _ (X5.out.trans G1.out)).mono ?_
            rintro e w7 ⟨v7, rfl, ho7, hx7, -⟩
            obtain ⟨ma, mc, rfl, -⟩ := ownsRow_rd ho7
            have O7 := hid ho7
            have X7 := hid (G1.out.trans hx7)
            have HQ7 := hid (hx7.heap_some HQB.out)
            clear ho7 hx7
            go_wp2_with fail
            go_loopw [83] (fun kv wr => ∃ k : Nat, k ≤ ms.length ∧ kv = .int .i64 k ∧ Hid (Ext w7 wr)) (fun kv _ => ms.length - (intOf kv).toNat)
            case atStart => exact ⟨0, by omega, rfl, hid (Ext.refl w7)⟩
            case round =>
              obtain ⟨k, hk, rfl, HK⟩ := hrel
              have hk0 : (0 : Int) ≤ (k : Int) := Int.natCast_nonneg _
              by_cases hkt : k < ms.length
              · have hktB : decide ((k : Int) < (ms.length : Int)) = true := decide_eq_true (by omega)
                have hkl : (k : Int) < (ms.length : Int) := by omega
                obtain ⟨y, hyk⟩ : ∃ y, ms[k]? = some y := ⟨_, List.getElem?_eq_getElem hkt⟩
                obtain ⟨g2, rfl⟩ : ∃ g, ma = some ⟨g, 0, none⟩ := own_shape O7.out (by omega)
                obtain ⟨f0, f1, f2, f3, f4, f5, f6, f7⟩ := ownN_cells (ownsRow_ext O7.out HK.out) hyk
                have HFX := hid (HFN.out x y HXM.out (List.mem_of_getElem? hyk))
                clear hyk
                go_upto_region 23 with fail
                obtain ⟨R, hR⟩ : ∃ R, R = wr.heap.size := ⟨_, rfl⟩
                obtain ⟨u2, hu2⟩ : ∃ u2, u2 = wr.alloc (.cells #[uv y.note.value, uv y.note.owner, uv y.note.rho, uv y.note.blind, .int .i64 (y.number : Int), .int .i64 (y.pos : Int), .int .i64 (y.height : Int), .int .i64 (y.spent : Int)] 39) := ⟨_, rfl⟩
                rw [← hu2, ← hR]
                have G2 : Hid (Ext w7 u2) := hid (by rw [hu2]; exact HK.out.alloc _)
                have hrb : u2.heap[R]? = some (.cells #[uv y.note.value, uv y.note.owner, uv y.note.rho, uv y.note.blind, .int .i64 (y.number : Int), .int .i64 (y.pos : Int), .int .i64 (y.height : Int), .int .i64 (y.spent : Int)] 39 (0, 0)) := by rw [hu2, hR]; exact heap_new _ _
                have HSV : Hid (∀ u, Ext u2 u → ((u.cell? ⟨Q, 0, none⟩ = some (uv x.note.value) ∧ u.cell? ⟨Q, 1, none⟩ = some (uv x.note.owner) ∧ u.cell? ⟨Q, 2, none⟩ = some (uv x.note.rho) ∧ u.cell? ⟨Q, 3, none⟩ = some (uv x.note.blind) ∧ u.cell? ⟨Q, 4, none⟩ = some (.int .i64 (x.number : Int)) ∧ u.cell? ⟨Q, 5, none⟩ = some (.int .i64 (x.pos : Int)) ∧ u.cell? ⟨Q, 6, none⟩ = some (.int .i64 (x.height : Int)) ∧ u.cell? ⟨Q, 7, none⟩ = some (.int .i64 (x.spent : Int))) ∧ (u.cell? ⟨R, 0, none⟩ = some (uv y.note.value) ∧ u.cell? ⟨R, 1, none⟩ = some (uv y.note.owner) ∧ u.cell? ⟨R, 2, none⟩ = some (uv y.note.rho) ∧ u.cell? ⟨R, 3, none⟩ = some (uv y.note.blind) ∧ u.cell? ⟨R, 4, none⟩ = some (.int .i64 (y.number : Int)) ∧ u.cell? ⟨R, 5, none⟩ = some (.int .i64 (y.pos : Int)) ∧ u.cell? ⟨R, 6, none⟩ = some (.int .i64 (y.height : Int)) ∧ u.cell? ⟨R, 7, none⟩ = some (.int .i64 (y.spent : Int)))) ∧ Ext u2 u) := hid fun u k => ⟨⟨eight_cells ((G2.out.trans k).heap_some HQ7.out), eight_cells (k.heap_some hrb)⟩, k⟩
                clear hu2 hR f0 f1 f2 f3 f4 f5 f6 f7 hrb
                have HEQ : ∀ u : World, (Op.equalIn 10000 37 (.agg #[uv x.note.value, uv x.note.owner, uv x.note.rho, uv x.note.blind]) (.agg #[uv y.note.value, uv y.note.owner, uv y.note.rho, uv y.note.blind])).run Tryz.prog u = .ok false u := fun u => by
                  have h := noteEqIn x.note y.note u
                  rw [HFX.out.1] at h
                  exact h
                obtain ⟨⟨⟨a0, a1, a2, a3, a4, a5, a6, a7⟩, b0, b1, b2, b3, b4, b5, b6, b7⟩, -⟩ := HSV.out u2 (Ext.refl u2)
                go_upto_region 25 with fail
                clear HEQ a0 a1 a2 a3 a4 a5 a6 a7 b0 b1 b2 b3 b4 b5 b6 b7
                have HS0 := HSV.out _ (Ext.refl u2).drew
                by_cases hpp : x.pos = y.pos
                · have hcm := HFX.out.2 hpp
                  have hpQ : ((x.pos : Int) == (y.pos : Int)) = true := by rw [beq_iff_eq]; omega
                  have CM1 := hid (rCommitN_any x.note)
                  have CM2 := hid (rCommitN_any y.note)
                  rw [← hcm] at CM2
                  generalize commitN x.note = cm at *
                  have HPP := hid hpp
                  clear hpp hcm
                  go_wp2_with fail
                  refine wp_region_T (fun u => ((u.cell? ⟨Q, 0, none⟩ = some (uv x.note.value) ∧ u.cell? ⟨Q, 1, none⟩ = some (uv x.note.owner) ∧ u.cell? ⟨Q, 2, none⟩ = some (uv x.note.rho) ∧ u.cell? ⟨Q, 3, none⟩ = some (uv x.note.blind) ∧ u.cell? ⟨Q, 4, none⟩ = some (.int .i64 (x.number : Int)) ∧ u.cell? ⟨Q, 5, none⟩ = some (.int .i64 (x.pos : Int)) ∧ u.cell? ⟨Q, 6, none⟩ = some (.int .i64 (x.height : Int)) ∧ u.cell? ⟨Q, 7, none⟩ = some (.int .i64 (x.spent : Int))) ∧ (u.cell? ⟨R, 0, none⟩ = some (uv y.note.value) ∧ u.cell? ⟨R, 1, none⟩ = some (uv y.note.owner) ∧ u.cell? ⟨R, 2, none⟩ = some (uv y.note.rho) ∧ u.cell? ⟨R, 3, none⟩ = some (uv y.note.blind) ∧ u.cell? ⟨R, 4, none⟩ = some (.int .i64 (y.number : Int)) ∧ u.cell? ⟨R, 5, none⟩ = some (.int .i64 (y.pos : Int)) ∧ u.cell? ⟨R, 6, none⟩ = some (.int .i64 (y.height : Int)) ∧ u.cell? ⟨R, 7, none⟩ = some (.int .i64 (y.spent : Int)))) ∧ Ext u2 u) 11 [(0, true), (1, true), (2, true), (3, true), (4, true), (5, true), (6, true), (7, true), (9, true), (10, true), (8, false), (11, false), (12, false), (13, false)] (by kernel_rfl) (by kernel_rfl) (by intro c a d v w h; cases d <;> exact h) ?_
                  intro ops hops
                  iterate 10
                    refine wpT_take (v := ?_) (by rw [hops, List.getElem?_toArray]; rfl) (by first | rfl | (rw [hops]; rfl)) ?_ HS0 ?_
                    rotate_left
                    · intro v h; go_simp; with_reducible rfl
                    simp only [Act.put, List.getElem_toArray, List.getElem_cons_zero, List.getElem_cons_succ, List.setIfInBounds_toArray, List.set_cons_zero, List.set_cons_succ]
                  refine wpT_step (by rw [hops, List.getElem?_toArray]; rfl) (by first | rfl | (rw [hops]; rfl)) ?_
                  intro K hK
                  go_wp2_with fail
                  refine (CM1.out _).mono ?_
                  rintro e u3 ⟨rfl, hx⟩
                  have HS1 := HSV.out u3 (HS0.2.trans hx)
                  clear hx HS0 CM1
                  refine hK _ _ ⟨fun _ => HS1, ?_⟩
                  clear hK K
                  refine wpT_step (by rw [hops, List.getElem?_toArray]; rfl) (by first | rfl | (rw [hops]; rfl)) ?_
                  intro K hK
                  go_wp2_with fail
                  refine (CM2.out _).mono ?_
                  rintro e u4 ⟨rfl, hx⟩
                  have HN := hid (G2.out.trans (HS1.2.trans hx))
                  clear hx HS1 CM2
                  refine hK _ _ ⟨fun h => absurd h (by decide), ?_⟩
                  clear hK K
                  refine wpT_step (by rw [hops, List.getElem?_toArray]; rfl) (by first | rfl | (rw [hops]; rfl)) ?_
                  intro K hK
                  go_wp2_with fail
                  try (with_reducible refine ⟨fun h => absurd h (by decide), ?_⟩)
                  try rw [← hops]
                  refine wpT_step (by rw [hops, List.getElem?_toArray]; rfl) (by first | rfl | (rw [hops]; rfl)) ?_
                  intro K hK
                  go_wp2_with fail
                  try (with_reducible refine ⟨fun h => absurd h (by decide), ?_⟩)
                  try rw [wpT_nil]
                  try clear hops ops
                  go_wp2_with fail
                  go_roundw
                  case rel => exact ⟨k + 1, by omega, by go_num, HN⟩
                  case measure => simp [intOf]; omega
                · have hpB : decide ((x.pos : Int) = (y.pos : Int)) = false := decide_eq_false (by omega)
                  have hpB2 : decide (x.pos = y.pos) = false := decide_eq_false hpp
                  have hpQ : ((x.pos : Int) == (y.pos : Int)) = false := by rw [beq_eq_false_iff_ne]; omega
                  have HN := hid (G2.out.trans HS0.2)
                  clear hpp
                  go_wp2_with fail
                  refine wp_region_T (fun u => ((u.cell? ⟨Q, 0, none⟩ = some (uv x.note.value) ∧ u.cell? ⟨Q, 1, none⟩ = some (uv x.note.owner) ∧ u.cell? ⟨Q, 2, none⟩ = some (uv x.note.rho) ∧ u.cell? ⟨Q, 3, none⟩ = some (uv x.note.blind) ∧ u.cell? ⟨Q, 4, none⟩ = some (.int .i64 (x.number : Int)) ∧ u.cell? ⟨Q, 5, none⟩ = some (.int .i64 (x.pos : Int)) ∧ u.cell? ⟨Q, 6, none⟩ = some (.int .i64 (x.height : Int)) ∧ u.cell? ⟨Q, 7, none⟩ = some (.int .i64 (x.spent : Int))) ∧ (u.cell? ⟨R, 0, none⟩ = some (uv y.note.value) ∧ u.cell? ⟨R, 1, none⟩ = some (uv y.note.owner) ∧ u.cell? ⟨R, 2, none⟩ = some (uv y.note.rho) ∧ u.cell? ⟨R, 3, none⟩ = some (uv y.note.blind) ∧ u.cell? ⟨R, 4, none⟩ = some (.int .i64 (y.number : Int)) ∧ u.cell? ⟨R, 5, none⟩ = some (.int .i64 (y.pos : Int)) ∧ u.cell? ⟨R, 6, none⟩ = some (.int .i64 (y.height : Int)) ∧ u.cell? ⟨R, 7, none⟩ = some (.int .i64 (y.spent : Int)))) ∧ Ext u2 u) 11 [(0, true), (1, true), (2, true), (3, true), (4, true), (5, true), (6, true), (7, true), (9, true), (10, true), (8, false), (11, false), (12, false), (13, false)] (by kernel_rfl) (by kernel_rfl) (by intro c a d v w h; cases d <;> exact h) ?_
                  intro ops hops
                  iterate 10
                    first
                      | (refine wpT_take (v := ?_) (by rw [hops, List.getElem?_toArray]; rfl) (by first | rfl | (rw [hops]; rfl)) ?_ HS0 ?_
                         rotate_left
                         · intro v h; go_simp; with_reducible rfl
                         simp only [Act.put, List.getElem_toArray, List.getElem_cons_zero, List.getElem_cons_succ, List.setIfInBounds_toArray, List.set_cons_zero, List.set_cons_succ])
                      | (refine wpT_pass (by rw [hops, List.getElem?_toArray]; rfl) (by first | rfl | (rw [hops]; rfl)) HS0 ?_
                         simp only [Act.put, List.getElem_toArray, List.getElem_cons_zero, List.getElem_cons_succ, List.setIfInBounds_toArray, List.set_cons_zero, List.set_cons_succ])
                  refine wpT_none (by rw [hops, List.getElem?_toArray]; rfl) (by first | rfl | (rw [hops]; rfl)) ⟨fun _ => HS0, ?_⟩
                  simp only [Act.put, List.getElem_toArray, List.getElem_cons_zero, List.getElem_cons_succ, List.setIfInBounds_toArray, List.set_cons_zero, List.set_cons_succ]
                  refine wpT_none (by rw [hops, List.getElem?_toArray]; rfl) (by first | rfl | (rw [hops]; rfl)) ⟨fun h => absurd h (by decide), ?_⟩
                  simp only [Act.put, List.getElem_toArray, List.getElem_cons_zero, List.getElem_cons_succ, List.setIfInBounds_toArray, List.set_cons_zero, List.set_cons_succ]
                  refine wpT_none (by rw [hops, List.getElem?_toArray]; rfl) (by first | rfl | (rw [hops]; rfl)) ⟨fun h => absurd h (by decide), ?_⟩
                  simp only [Act.put, List.getElem_toArray, List.getElem_cons_zero, List.getElem_cons_succ, List.setIfInBounds_toArray, List.set_cons_zero, List.set_cons_succ]
                  refine wpT_step (by rw [hops, List.getElem?_toArray]; rfl) (by first | rfl | (rw [hops]; rfl)) ?_
                  intro K hK
                  go_wp2_with fail
                  try (with_reducible refine ⟨fun h => absurd h (by decide), ?_⟩)
                  try rw [wpT_nil]
                  try clear hops ops
                  go_wp2_with fail
                  go_roundw
                  case rel => exact ⟨k + 1, by omega, by go_num, HN⟩
                  case measure => simp [intOf]; omega
              · have hktB : decide ((k : Int) < (ms.length : Int)) = false := decide_eq_false (by omega)
                obtain rfl : k = ms.length := by omega
                have HN := hid (X7.out.trans HK.out)
                go_wp2_with fail
                go_roundw
                case rel => exact ⟨i + 1, by omega, by go_num, HN⟩
                case measure => simp [intOf]; omega
          · have hltB : decide ((i : Int) < (ns.length : Int)) = false := decide_eq_false (by omega)
            obtain rfl : i = ns.length := by omega
            go_wp2_with fail
            go_ret
            exact ⟨rfl, HX0.out.trans (X4.out.trans (X5.out.trans HI.out))⟩
end Go.Proofs.YtcikjcjfcanloaaGreat
