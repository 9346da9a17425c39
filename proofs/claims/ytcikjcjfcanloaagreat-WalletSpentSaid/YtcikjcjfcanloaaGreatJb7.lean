/- Texts of this claim, joined: L49Spt, OpenR. -/
import Derived.Test.YtcikjcjfcanloaaGreatJa24
import Derived.Test.YtcikjcjfcanloaaGreatJa25
import Derived.Test.YtcikjcjfcanloaaGreatJa15
import Derived.Test.YtcikjcjfcanloaaGreatJa16
import Derived.Test.YtcikjcjfcanloaaGreatJb1
import Derived.Test.YtcikjcjfcanloaaGreatJb2
import Derived.Test.YtcikjcjfcanloaaGreatJb6
set_option linter.unusedSimpArgs false
namespace Go.Proofs.YtcikjcjfcanloaaGreat
open Go.RowKit
attribute [local irreducible] perm fAdd fMul fPow fSub fNeg fRed hashU drawOf nextState cipSeal
theorem pos_uniq {ns : List OwT} (h : ns.Pairwise fun x y => x.pos < y.pos) {x y : OwT} (hx : x ∈ ns) (hy : y ∈ ns) (e : x.pos = y.pos) : x = y := by
  induction ns with
  | nil => cases hx
  | cons a r ih =>
    rw [List.pairwise_cons] at h
    rcases List.mem_cons.1 hx with rfl | hx'
    · rcases List.mem_cons.1 hy with rfl | hy'
      · rfl
      · have := h.1 y hy'; omega
    · rcases List.mem_cons.1 hy with rfl | hy'
      · have := h.1 x hx'; omega
      · exact ih h.2 hx' hy'
theorem wSpent_any {w : World} {W d : Nat} {seed : UInt64} {l : List BlkT} {G : Nat → Prop} (h : WalAt w W d seed l G) (hok : okAll d l) (p : Int) :
    Calls Tryz.prog 34 #[.pointer (some ⟨W, 0, none⟩), .int .i64 p] w (SpentP w d (kSpend seed) (leavesW l) (stW seed l).notes p) := by
  have hd := depth_le h
  obtain ⟨r, ps, ob, LB, nv, pv, FO, FT, h1, h2, rfl⟩ := h
  have hL := fitsAll_stW ((okAll_fits (seed := seed)).2 hok)
  have hp := pow12 hd
  have hn := (stW_ok seed l).n
  simp only at hn
  have := walSpent_any h1 (by omega) (by omega) (fun x hx => (stW_nt seed l).lt hx) p
  rwa [stW_leaves] at this
set_option maxRecDepth 100000 in
set_option maxHeartbeats 25600000 in
theorem walletSpent_any (seed : UInt64) (d : Int) (ov : Value) (ops : List OpT) (q : Int) (w : World) (h : RdWops w ov ops) :
    Calls Tryz.prog 7 #[uv seed, .agg #[.int .i64 d, ov], .int .i64 q] w fun e w' => e = .returned (.bool true) ∧ Ext w w' := by
  have HH := hid h
  have AW := hid awake49_any
  have SM : Hid (∀ u, Ext w u → Calls Tryz.prog 19 #[.int .i64 d, ov] u fun e w' => e = .returned (.bool (smallW d ops)) ∧ Ext u w') := hid fun u k => small49_any d ov ops u (h.ext k)
  obtain ⟨oa, oc, rfl, -⟩ := h.shape
  obtain ⟨N, hN⟩ : ∃ N, N = w.heap.size := ⟨_, rfl⟩
  obtain ⟨w0, hw0⟩ : ∃ w0, w0 = w.alloc (.cells #[.int .i64 d, .slice oa ops.length oc] 25) := ⟨_, rfl⟩
  have hx0 : Ext w w0 := by rw [hw0]; exact (Ext.refl w).alloc _
  have hb0 : w0.heap[N]? = some (.cells #[.int .i64 d, .slice oa ops.length oc] 25 (0, 0)) := by rw [hw0, hN]; exact heap_new _ _
  have HB := hid hb0
  have HX0 := hid hx0
  have HW := hid hw0
  obtain ⟨S, hS⟩ : ∃ S, S = smallW d ops := ⟨_, rfl⟩
  rw [← hS] at SM
  have HS := hid hS
  have HC : Hid (∀ u, Ext w0 u → u.cell? ⟨N, 0, none⟩ = some (.int .i64 d) ∧ u.cell? ⟨N, 1, none⟩ = some (.slice oa ops.length oc)) := hid fun u k => ⟨cell_of (k.heap_some HB.out) 0, cell_of (k.heap_some HB.out) 1⟩
  clear h hw0 hx0 hb0 hS
  go_enter Tryz.func7, Tryz.ntmps7
  go_upto_region 1 with fail
  rw [← HW.out, ← hN]
  clear hN HW
  go_wp2_with fail
  refine (AW.out _).mono ?_
  rintro e w1 ⟨rfl, hx⟩
  have X1 := hid hx
  clear hx
  obtain ⟨c0, c1⟩ := HC.out w1 X1.out
  go_wp2_with fail
  refine (SM.out _ (HX0.out.trans X1.out)).mono ?_
  rintro e w2 ⟨rfl, hx⟩
  have X2 := hid (X1.out.trans hx)
  clear hx SM c0 c1
  cases S with
  | false =>
    go_wp2_with fail
    refine (AW.out _).mono ?_
    rintro e w3 ⟨rfl, hx⟩
    have X3 := hid (X2.out.trans hx)
    clear hx AW
    go_wp2_with fail
    go_ret
    exact ⟨rfl, HX0.out.trans X3.out⟩
  | true =>
    clear AW
    obtain ⟨n, rfl, h1, h6, h8, hbs⟩ := small_facts HS.out.symm
    have HD := hid (And.intro h1 h6)
    have PL := hid (play49_any n h1 (by omega) seed (.slice oa ops.length oc) ops w2 (HH.out.ext (HX0.out.trans X2.out)) hbs (by omega))
    have HOK := hid (playW_ok n ops)
    have HLE : Hid ((playW n ops).length ≤ 8) := hid (Nat.le_trans playW_len h8)
    have HMB : Hid (∀ b ∈ playW n ops, BSm b) := hid fun b hb => by
      obtain ⟨o, ho, rfl⟩ := playW_mem hb
      exact hbs o ho
    have HVL := hid (okAll_valid (playW_ok n ops))
    have HLN : Hid ((stW seed (playW n ops)).leaves.length ≤ 10000) := hid (by
      have h2 := fitsAll_stW ((okAll_fits (seed := seed)).2 (playW_ok n ops))
      have h3 := pow12 (d := n) (by omega)
      omega)
    obtain ⟨l, hl⟩ : ∃ l, l = playW n ops := ⟨_, rfl⟩
    rw [← hl] at PL HOK HLE HMB HVL HLN
    obtain ⟨c0, c1⟩ := HC.out w2 X2.out
    clear hl h1 h6 h8 hbs HH
    go_wp2_with fail
    refine (PL.out).mono ?_
    rintro e w3 ⟨W, lv, rfl, G, hwal, hgn, hrd, hng, hx⟩
    have HWAL := hid (And.intro hwal (hrd.old hx))
    have HXW := hid (HX0.out.trans (X2.out.trans hx))
    have X3B := hid (X2.out.trans hx)
    have HGN := hid hgn
    obtain ⟨la, lc, rfl, -⟩ := hrd.shape
    clear hwal hgn hrd hng hx c0 c1 PL
    have SP : Hid (∀ u (p : Int), Ext w3 u → Calls Tryz.prog 34 #[.pointer (some ⟨W, 0, none⟩), .int .i64 p] u (SpentP u n (kSpend seed) (leavesW l) (stW seed l).notes p)) := hid fun u p k => by
      have := wSpent_any (HWAL.out.1.ext k) HOK.out p
      rw [kSpend_red, stW_red] at this
      exact this
    have LV : Hid (∀ u, Ext w3 u → Calls Tryz.prog 32 #[.slice la l.length lc] u fun e w' => ∃ x, e = .returned x ∧ FrU u w' x (leavesW l)) := hid fun u k => rLeaves_any _ l u ((HWAL.out.2.ext k).old k) (by have := HLE.out; omega) HMB.out
    have SC : Hid (∀ u, Ext w3 u → Calls Tryz.prog 33 #[uv seed, .slice la l.length lc] u fun e w' => ∃ v, e = .returned v ∧ FrN u w' v (stW seed l).notes) := hid fun u k => rScan_any seed _ l u ((HWAL.out.2.ext k).old k) (by have := HLE.out; omega) HMB.out HVL.out
    have AN : Hid (∀ u, Ext w3 u → Calls Tryz.prog 38 #[.pointer (some ⟨W, 0, none⟩)] u fun e w' => e = .returned (uv (rootU n (leavesW l))) ∧ Ext u w') := hid fun u k => wAnchor_any (HWAL.out.1.ext k)
    have SPD := hid (rkSpend_any seed)
    have HNT : Hid (∀ x ∈ (stW seed l).notes, (leavesW l)[x.pos]? = some (commitN x.note)) := hid fun x hx => by
      have := (stW_nt seed l).at_ x hx
      rwa [stW_leaves] at this
    have HINC := hid (stW_nt seed l).inc
    have HLL : Hid ((leavesW l).length ≤ 2 ^ n ∧ (leavesW l).length ≤ 4096) := hid (by
      have h2 := fitsAll_stW ((okAll_fits (seed := seed)).2 HOK.out)
      rw [stW_leaves] at h2
      have h3 := pow12 (d := n) (by have := HD.out.2; omega)
      exact ⟨h2, by omega⟩)
    have HNN : Hid ((stW seed l).notes.length ≤ 10000) := hid (by
      have h4 := (stW_ok seed l).n
      simp only at h4
      rw [stW_leaves] at h4
      have := HLL.out.2
      omega)
    generalize kSpend seed = key at *
    generalize (stW seed l).notes = ns at *
    generalize leavesW l = LF at *
    have hnI : (ns.length : Int) ≤ 10000 := by have := HNN.out; omega
    go_wp2_with fail
    refine (LV.out _ (Ext.refl w3)).mono ?_
    rintro e w4 ⟨v4, rfl, ho4, hx4, -⟩
    obtain ⟨ra, rc, rfl, -⟩ := ownsRow_rd ho4
    have X4 := hid hx4
    have O4 := hid ho4
    clear ho4 hx4 LV
    go_wp2_with fail
    refine (SC.out _ X4.out).mono ?_
    rintro e w5 ⟨v5, rfl, ho5, hx5, -⟩
    obtain ⟨na, nc, rfl, -⟩ := ownsRow_rd ho5
    have X5 := hid (X4.out.trans hx5)
    have O5 := hid ho5
    have O45 := hid (ownsRow_ext O4.out hx5)
    clear ho5 hx5 O4
    go_wp2_with fail
    go_loopw [48] (fun iv wr => ∃ i : Nat, i ≤ ns.length ∧ iv = .int .i64 i ∧ Hid (Ext w5 wr)) (fun iv _ => ns.length - (intOf iv).toNat)
    case atStart => exact ⟨0, by omega, rfl, hid (Ext.refl w5)⟩
    case round =>
      obtain ⟨i, hi, rfl, HI⟩ := hrel
      have hi0 : (0 : Int) ≤ (i : Int) := Int.natCast_nonneg _
      by_cases hlt : i < ns.length
      · have hltB : decide ((i : Int) < (ns.length : Int)) = true := decide_eq_true (by omega)
        have hil : (i : Int) < (ns.length : Int) := by omega
        obtain ⟨x, hxi⟩ : ∃ x, ns[i]? = some x := ⟨_, List.getElem?_eq_getElem hlt⟩
        obtain ⟨g, rfl⟩ : ∃ g, na = some ⟨g, 0, none⟩ := own_shape O5.out (by omega)
        obtain ⟨f0, f1, f2, f3, f4, f5, f6, f7⟩ := ownN_cells (ownsRow_ext O5.out HI.out) hxi
        have HXM := hid (List.mem_of_getElem? hxi)
        clear hxi
        go_upto_region 10 with fail
        obtain ⟨Q, hQ⟩ : ∃ Q, Q = wr.heap.size := ⟨_, rfl⟩
        obtain ⟨u1, hu1⟩ : ∃ u1, u1 = wr.alloc (.cells #[uv x.note.value, uv x.note.owner, uv x.note.rho, uv x.note.blind, .int .i64 (x.number : Int), .int .i64 (x.pos : Int), .int .i64 (x.height : Int), .int .i64 (x.spent : Int)] 39) := ⟨_, rfl⟩
        rw [← hu1, ← hQ]
        have G1 : Hid (Ext w5 u1) := hid (by rw [hu1]; exact HI.out.alloc _)
        have hqb : u1.heap[Q]? = some (.cells #[uv x.note.value, uv x.note.owner, uv x.note.rho, uv x.note.blind, .int .i64 (x.number : Int), .int .i64 (x.pos : Int), .int .i64 (x.height : Int), .int .i64 (x.spent : Int)] 39 (0, 0)) := by rw [hu1, hQ]; exact heap_new _ _
        have HQB := hid hqb
        clear hu1 hQ f0 f1 f2 f3 f4 f5 f6 f7
        obtain ⟨c0, c1, c2, c3, c4, c5, c6, c7⟩ := eight_cells hqb
        clear hqb
        have SPC := hid (SP.out u1 (x.pos : Int) (X5.out.trans G1.out))
        go_wp2_with fail
        refine SPC.out.mono ?_
        rintro e u3 hsp
        rcases hsp with ⟨x', pv, hm, ⟨hp1, hp2⟩, rfl, ho, hx, -⟩ | ⟨hno, rfl, hx⟩
        · obtain rfl : x' = x := pos_uniq HINC.out hm HXM.out (by omega)
          have HCL := hid (HNT.out x' HXM.out)
          have hpl : x'.pos < LF.length := (List.getElem?_eq_some_iff.1 HCL.out).1
          obtain ⟨pl, hple⟩ : ∃ pl, pl = pathU n LF x'.pos := ⟨_, rfl⟩
          have HPL := hid hple
          have HCR : Hid (climbTo (commitN x'.note) x'.pos pl pl.length = rootU n LF) := hid (by rw [hple, pathU_length]; exact climb_root HCL.out HLL.out.1)
          have HPN : Hid (pl.length ≤ 12 ∧ x'.pos ≤ 100000) := hid ⟨by rw [hple, pathU_length]; have := HD.out.2; omega, by have := HLL.out.2; omega⟩
          rw [← hple] at ho
          obtain ⟨qa, qc, rfl, -⟩ := ownsRow_rd ho
          have HO3 := hid ho
          have G3 := hid (G1.out.trans hx)
          have HQ3 := hid (hx.heap_some HQB.out)
          clear hple hpl hm hp1 ho hx SPC c0 c1 c2 c3 c4 c5 c6 c7
          generalize hxe : x' = x at *
          clear hxe
          go_upto_region 11 with fail
          obtain ⟨R, hR⟩ : ∃ R, R = u3.heap.size := ⟨_, rfl⟩
          obtain ⟨u2, hu2⟩ : ∃ u2, u2 = u3.alloc (.cells #[uv x.note.value, uv x.note.owner, uv x.note.rho, uv x.note.blind, uv key, .int .i64 (x.number : Int), .int .i64 (x.pos : Int), .slice qa pl.length qc, .bool false] 61) := ⟨_, rfl⟩
          rw [← hu2, ← hR]
          have hx2 : Ext u3 u2 := by rw [hu2]; exact (Ext.refl u3).alloc _
          have hrb : u2.heap[R]? = some (.cells #[uv x.note.value, uv x.note.owner, uv x.note.rho, uv x.note.blind, uv key, .int .i64 (x.number : Int), .int .i64 (x.pos : Int), .slice qa pl.length qc, .bool false] 61 (0, 0)) := by rw [hu2, hR]; exact heap_new _ _
          have G2 := hid (G3.out.trans hx2)
          have HO2 := hid (ownsRow_ext HO3.out hx2)
          have HQ2 := hid (hx2.heap_some HQ3.out)
          have HSV : Hid (∀ u, Ext u2 u → ((u.cell? ⟨Q, 0, none⟩ = some (uv x.note.value) ∧ u.cell? ⟨Q, 1, none⟩ = some (uv x.note.owner) ∧ u.cell? ⟨Q, 2, none⟩ = some (uv x.note.rho) ∧ u.cell? ⟨Q, 3, none⟩ = some (uv x.note.blind) ∧ u.cell? ⟨Q, 4, none⟩ = some (.int .i64 (x.number : Int)) ∧ u.cell? ⟨Q, 5, none⟩ = some (.int .i64 (x.pos : Int)) ∧ u.cell? ⟨Q, 6, none⟩ = some (.int .i64 (x.height : Int)) ∧ u.cell? ⟨Q, 7, none⟩ = some (.int .i64 (x.spent : Int))) ∧ (u.cell? ⟨R, 0, none⟩ = some (uv x.note.value) ∧ u.cell? ⟨R, 1, none⟩ = some (uv x.note.owner) ∧ u.cell? ⟨R, 2, none⟩ = some (uv x.note.rho) ∧ u.cell? ⟨R, 3, none⟩ = some (uv x.note.blind) ∧ u.cell? ⟨R, 4, none⟩ = some (uv key) ∧ u.cell? ⟨R, 5, none⟩ = some (.int .i64 (x.number : Int)) ∧ u.cell? ⟨R, 6, none⟩ = some (.int .i64 (x.pos : Int)) ∧ u.cell? ⟨R, 7, none⟩ = some (.slice qa pl.length qc) ∧ u.cell? ⟨R, 8, none⟩ = some (.bool false)) ∧ u.cell? ⟨N, 0, none⟩ = some (.int .i64 (n : Int))) ∧ Ext u2 u) := hid fun u k => ⟨⟨eight_cells (k.heap_some HQ2.out), nine_cells (k.heap_some hrb), (HC.out u (X3B.out.trans (X5.out.trans (G2.out.trans k)))).1⟩, k⟩
          clear hu2 hR hx2 hrb HO3 HQ3
          have HEQ : ∀ u : World, (Op.equalIn 10000 37 (.agg #[uv x.note.value, uv x.note.owner, uv x.note.rho, uv x.note.blind]) (.agg #[uv x.note.value, uv x.note.owner, uv x.note.rho, uv x.note.blind])).run Tryz.prog u = .ok true u := fun u => by
            have h := noteEqIn x.note x.note u
            rw [Nt.same_iff.2 rfl] at h
            exact h
          have hs1 : decide ((0 : Int) < (x.spent : Int)) = false := decide_eq_false (by omega)
          have hs2 : decide (0 < x.spent) = false := decide_eq_false (by omega)
          have PT : Hid (∀ u, Ext u2 u → Calls Tryz.prog 36 #[.int .i64 (n : Int), .slice ra LF.length rc, .int .i64 (x.pos : Int)] u fun e w' => ∃ v, e = .returned v ∧ FrU u w' v pl) := hid fun u k => by
            have := rPath_any n (by have := HD.out.2; omega) (.slice ra LF.length rc) LF x.pos HPN.out.2 u (ownsRow_rd (ownsRow_ext O45.out (G2.out.trans k))).weak (by have := HLL.out.2; omega)
            rw [← HPL.out] at this
            exact this
          have SM : Hid (∀ u v, Ext u2 u → OwnU u v pl → Calls Tryz.prog 35 #[.slice qa pl.length qc, v] u fun e w' => e = .returned (.bool true) ∧ Ext u w') := hid fun u v k ho => by
            have := Same01W_any (.slice qa pl.length qc) v pl pl u (ownsRow_rd (ownsRow_ext HO2.out k)).weak (ownsRow_rd ho).weak (by have := HPN.out.1; omega) (by have := HPN.out.1; omega)
            rw [show (pl == pl) = true by simp] at this
            exact this
          have CM := hid (rCommitN_any x.note)
          have CB : Hid (∀ u, Ext u2 u → Calls Tryz.prog 37 #[uv (commitN x.note), .int .i64 (x.pos : Int), .slice qa pl.length qc] u fun e w' => e = .returned (uv (rootU n LF)) ∧ Ext u w') := hid fun u k => by
            have := rClimb_any (commitN x.note) x.pos HPN.out.2 (.slice qa pl.length qc) pl u (ownsRow_rd (ownsRow_ext HO2.out k)).weak HPN.out.1
            rw [HCR.out] at this
            exact this
          have AN2 : Hid (∀ u, Ext u2 u → Calls Tryz.prog 38 #[.pointer (some ⟨W, 0, none⟩)] u fun e w' => e = .returned (uv (rootU n LF)) ∧ Ext u w') := hid fun u k => AN.out u (X5.out.trans (G2.out.trans k))
          obtain ⟨⟨⟨a0, a1, a2, a3, a4, a5, a6, a7⟩, -, -⟩, -⟩ := HSV.out u2 (Ext.refl u2)
          generalize commitN x.note = cm at *
          generalize rootU n LF = rt at *
          go_upto_region 14 with fail
          clear a0 a1 a2 a3 a4 a5 a6 a7 hs1 hs2 hp2
          have HS0 := HSV.out _ (Ext.refl u2).drew
          go_wp2_with fail
          refine wp_region_T (fun u => ((u.cell? ⟨Q, 0, none⟩ = some (uv x.note.value) ∧ u.cell? ⟨Q, 1, none⟩ = some (uv x.note.owner) ∧ u.cell? ⟨Q, 2, none⟩ = some (uv x.note.rho) ∧ u.cell? ⟨Q, 3, none⟩ = some (uv x.note.blind) ∧ u.cell? ⟨Q, 4, none⟩ = some (.int .i64 (x.number : Int)) ∧ u.cell? ⟨Q, 5, none⟩ = some (.int .i64 (x.pos : Int)) ∧ u.cell? ⟨Q, 6, none⟩ = some (.int .i64 (x.height : Int)) ∧ u.cell? ⟨Q, 7, none⟩ = some (.int .i64 (x.spent : Int))) ∧ (u.cell? ⟨R, 0, none⟩ = some (uv x.note.value) ∧ u.cell? ⟨R, 1, none⟩ = some (uv x.note.owner) ∧ u.cell? ⟨R, 2, none⟩ = some (uv x.note.rho) ∧ u.cell? ⟨R, 3, none⟩ = some (uv x.note.blind) ∧ u.cell? ⟨R, 4, none⟩ = some (uv key) ∧ u.cell? ⟨R, 5, none⟩ = some (.int .i64 (x.number : Int)) ∧ u.cell? ⟨R, 6, none⟩ = some (.int .i64 (x.pos : Int)) ∧ u.cell? ⟨R, 7, none⟩ = some (.slice qa pl.length qc) ∧ u.cell? ⟨R, 8, none⟩ = some (.bool false)) ∧ u.cell? ⟨N, 0, none⟩ = some (.int .i64 (n : Int))) ∧ Ext u2 u) 56 [(0, true), (1, true), (2, true), (3, true), (4, true), (5, true), (6, true), (7, true), (8, true), (9, true), (10, true), (11, true), (12, true), (13, false), (14, true), (15, true), (16, true), (17, true), (18, true), (19, true), (20, true), (21, true), (22, true), (23, true), (24, true), (25, true), (26, true), (27, true), (28, true), (29, true), (30, true), (31, true), (32, true), (33, true), (34, true), (35, true), (36, true), (37, true), (38, true), (39, true), (40, true), (41, true), (42, false), (43, false), (44, true), (45, true), (46, true), (47, true), (48, true), (50, true), (51, true), (52, true), (53, true), (55, true), (49, false), (54, false), (56, false), (57, false), (58, false)] (by kernel_rfl) (by kernel_rfl) (by intro c a d v w h; cases d <;> exact h) ?_
          intro ops hops
          iterate 13
            refine wpT_take (v := ?_) (by rw [hops, List.getElem?_toArray]; rfl) (by first | rfl | (rw [hops]; rfl)) ?_ HS0 ?_
            rotate_left
            · intro v h; go_simp; with_reducible rfl
            simp only [Act.put, List.getElem_toArray, List.getElem_cons_zero, List.getElem_cons_succ, List.setIfInBounds_toArray, List.set_cons_zero, List.set_cons_succ]
          refine wpT_step (by rw [hops, List.getElem?_toArray]; rfl) (by first | rfl | (rw [hops]; rfl)) ?_
          intro K hK
          go_wp2_with fail
          refine (SPD.out _).mono ?_
          rintro e y1 ⟨rfl, hx⟩
          have HS1 := HSV.out y1 (HS0.2.trans hx)
          clear hx HS0
          refine hK _ _ ⟨fun _ => HS1, ?_⟩
          clear hK K
          iterate 28
            refine wpT_take (v := ?_) (by rw [hops, List.getElem?_toArray]; rfl) (by first | rfl | (rw [hops]; rfl)) ?_ HS1 ?_
            rotate_left
            · intro v h; go_simp; with_reducible rfl
            simp only [Act.put, List.getElem_toArray, List.getElem_cons_zero, List.getElem_cons_succ, List.setIfInBounds_toArray, List.set_cons_zero, List.set_cons_succ]
          refine wpT_step (by rw [hops, List.getElem?_toArray]; rfl) (by first | rfl | (rw [hops]; rfl)) ?_
          intro K hK
          go_wp2_with fail
          refine (PT.out _ HS1.2).mono ?_
          rintro e y2 ⟨vp, rfl, hop, hx, -⟩
          obtain ⟨ta, tc, rfl, -⟩ := ownsRow_rd hop
          have HS2 := HSV.out y2 (HS1.2.trans hx)
          have SMC := hid (SM.out y2 _ HS2.2 hop)
          clear hx hop HS1 PT SM
          refine hK _ _ ⟨fun _ => HS2, ?_⟩
          clear hK K
          refine wpT_step (by rw [hops, List.getElem?_toArray]; rfl) (by first | rfl | (rw [hops]; rfl)) ?_
          intro K hK
          go_wp2_with fail
          refine (SMC.out).mono ?_
          rintro e y3 ⟨rfl, hx⟩
          have HS3 := HSV.out y3 (HS2.2.trans hx)
          clear hx HS2 SMC
          refine hK _ _ ⟨fun _ => HS3, ?_⟩
          clear hK K
          iterate 10
            refine wpT_take (v := ?_) (by rw [hops, List.getElem?_toArray]; rfl) (by first | rfl | (rw [hops]; rfl)) ?_ HS3 ?_
            rotate_left
            · intro v h; go_simp; with_reducible rfl
            simp only [Act.put, List.getElem_toArray, List.getElem_cons_zero, List.getElem_cons_succ, List.setIfInBounds_toArray, List.set_cons_zero, List.set_cons_succ]
          refine wpT_step (by rw [hops, List.getElem?_toArray]; rfl) (by first | rfl | (rw [hops]; rfl)) ?_
          intro K hK
          go_wp2_with fail
          refine (CM.out _).mono ?_
          rintro e y4 ⟨rfl, hx⟩
          have HS4 := HSV.out y4 (HS3.2.trans hx)
          clear hx HS3 CM
          refine hK _ _ ⟨fun _ => HS4, ?_⟩
          clear hK K
          refine wpT_step (by rw [hops, List.getElem?_toArray]; rfl) (by first | rfl | (rw [hops]; rfl)) ?_
          intro K hK
          go_wp2_with fail
          refine (CB.out _ HS4.2).mono ?_
          rintro e y5 ⟨rfl, hx⟩
          have HS5 := HSV.out y5 (HS4.2.trans hx)
          clear hx HS4 CB
          refine hK _ _ ⟨fun _ => HS5, ?_⟩
          clear hK K
          refine wpT_step (by rw [hops, List.getElem?_toArray]; rfl) (by first | rfl | (rw [hops]; rfl)) ?_
          intro K hK
          go_wp2_with fail
          refine (AN2.out _ HS5.2).mono ?_
          rintro e y6 ⟨rfl, hx⟩
          have HN := hid (G2.out.trans (HS5.2.trans hx))
          clear hx HS5 AN2
          refine hK _ _ ⟨fun h => absurd h (by decide), ?_⟩
          clear hK K
          refine wpT_step (by rw [hops, List.getElem?_toArray]; rfl) (by first | rfl | (rw [hops]; rfl)) ?_
          intro K hK
          go_wp2_with fail
          try (with_reducible refine ⟨fun h => absurd h (by decide), ?_⟩)
          try rw [← hops]
          refine wpT_step (by rw [hops, List.getElem?_toArray]; rfl) (by first | rfl | (rw [hops]; rfl)) ?_
          intro K hK
          go_wp2_with fail
          try (with_reducible refine ⟨fun h => absurd h (by decide), ?_⟩)
          try rw [wpT_nil]
          try clear hops ops
          go_wp2_with fail
          go_roundw
          case rel => exact ⟨i + 1, by omega, by go_num, HN⟩
          case measure => simp [intOf]; omega
        · have hsn : x.spent ≠ 0 := fun h => hno x HXM.out ⟨rfl, h⟩
          have hs1 : decide ((0 : Int) < (x.spent : Int)) = true := decide_eq_true (by omega)
          have hs2 : decide (0 < x.spent) = true := decide_eq_true (by omega)
          have G3 := hid (G1.out.trans hx)
          have HQ3 := hid (hx.heap_some HQB.out)
          clear hsn hno hx SPC c0 c1 c2 c3 c4 c5 c6 c7
          go_upto_region 11 with fail
          have HN := hid (G3.out.alloc (.cells #[.int .u64 0, .int .u64 0, .int .u64 0, .int .u64 0, .int .u64 0, .int .i64 0, .int .i64 0, .slice none 0 0, .bool false] 61))
          obtain ⟨a0, a1, a2, a3, a4, a5, a6, a7⟩ := eight_cells (((Ext.refl u3).alloc (.cells #[.int .u64 0, .int .u64 0, .int .u64 0, .int .u64 0, .int .u64 0, .int .i64 0, .int .i64 0, .slice none 0 0, .bool false] 61)).heap_some HQ3.out)
          generalize u3.alloc (.cells #[.int .u64 0, .int .u64 0, .int .u64 0, .int .u64 0, .int .u64 0, .int .i64 0, .int .i64 0, .slice none 0 0, .bool false] 61) = u4 at *
          go_wp2_with fail
          go_roundw
          case rel => exact ⟨i + 1, by omega, by go_num, HN⟩
          case measure => simp [intOf]; omega
      · have hltB : decide ((i : Int) < (ns.length : Int)) = false := decide_eq_false (by omega)
        obtain rfl : i = ns.length := by omega
        have SPC := hid (SP.out wr q (X5.out.trans HI.out))
        go_wp2_with fail
        refine SPC.out.mono ?_
        rintro e u3 hsp
        rcases hsp with ⟨x0, pv, hm, hh, rfl, ho, hx, -⟩ | ⟨hno, rfl, hx⟩
        · obtain ⟨qa, qc, rfl, -⟩ := ownsRow_rd ho
          have HM0 := hid (And.intro hm hh)
          have G3 := hid (X5.out.trans (HI.out.trans hx))
          clear hm hh ho hx SPC
          go_upto_region 18 with fail
          have X6 := hid (G3.out.alloc (.cells #[uv x0.note.value, uv x0.note.owner, uv x0.note.rho, uv x0.note.blind, uv key, .int .i64 (x0.number : Int), .int .i64 q, .slice qa (pathU n LF x0.pos).length qc, .bool false] 61))
          generalize u3.alloc (.cells #[uv x0.note.value, uv x0.note.owner, uv x0.note.rho, uv x0.note.blind, uv key, .int .i64 (x0.number : Int), .int .i64 q, .slice qa (pathU n LF x0.pos).length qc, .bool false] 61) = u4 at *
          go_wp2_with fail
          refine (SC.out _ X6.out).mono ?_
          rintro e w7 ⟨v7, rfl, ho7, hx7, -⟩
          obtain ⟨ma, mc, rfl, -⟩ := ownsRow_rd ho7
          have X7 := hid (X6.out.trans hx7)
          have O7 := hid ho7
          clear ho7 hx7 SC
          go_wp2_with fail
          go_loopw [134] (fun iv wr => ∃ i : Nat, i ≤ ns.length ∧ iv = .int .i64 i ∧ Hid ((∀ j y, j < i → ns[j]? = some y → ¬ spHit q y) ∧ Ext w7 wr)) (fun iv _ => ns.length - (intOf iv).toNat)
          case atStart => exact ⟨0, by omega, rfl, hid ⟨fun j y hj => by omega, Ext.refl w7⟩⟩
          case round =>
            obtain ⟨i, hi, rfl, HK⟩ := hrel
            have hi0 : (0 : Int) ≤ (i : Int) := Int.natCast_nonneg _
            by_cases hlt : i < ns.length
            · have hltB : decide ((i : Int) < (ns.length : Int)) = true := decide_eq_true (by omega)
              have hil : (i : Int) < (ns.length : Int) := by omega
              obtain ⟨x, hxi⟩ : ∃ x, ns[i]? = some x := ⟨_, List.getElem?_eq_getElem hlt⟩
              obtain ⟨g, rfl⟩ : ∃ g, ma = some ⟨g, 0, none⟩ := own_shape O7.out (by omega)
              obtain ⟨f0, f1, f2, f3, f4, f5, f6, f7⟩ := ownN_cells (ownsRow_ext O7.out HK.out.2) hxi
              have HXI := hid hxi
              clear hxi
              go_upto_region 21 with fail
              obtain ⟨Q, hQ⟩ : ∃ Q, Q = wr.heap.size := ⟨_, rfl⟩
              obtain ⟨u1, hu1⟩ : ∃ u1, u1 = wr.alloc (.cells #[uv x.note.value, uv x.note.owner, uv x.note.rho, uv x.note.blind, .int .i64 (x.number : Int), .int .i64 (x.pos : Int), .int .i64 (x.height : Int), .int .i64 (x.spent : Int)] 39) := ⟨_, rfl⟩
              rw [← hu1, ← hQ]
              have G1 : Hid (Ext w7 u1) := hid (by rw [hu1]; exact HK.out.2.alloc _)
              have hqb : u1.heap[Q]? = some (.cells #[uv x.note.value, uv x.note.owner, uv x.note.rho, uv x.note.blind, .int .i64 (x.number : Int), .int .i64 (x.pos : Int), .int .i64 (x.height : Int), .int .i64 (x.spent : Int)] 39 (0, 0)) := by rw [hu1, hQ]; exact heap_new _ _
              clear hu1 hQ f0 f1 f2 f3 f4 f5 f6 f7
              obtain ⟨c0, c1, c2, c3, c4, c5, c6, c7⟩ := eight_cells hqb
              clear hqb
              by_cases hpe : (x.pos : Int) = q
              · have hpQ : ((x.pos : Int) == q) = true := by rw [beq_iff_eq]; exact hpe
                have hpB : decide ((x.pos : Int) = q) = true := decide_eq_true hpe
                by_cases hsp : x.spent = 0
                · have hsQ : ((x.spent : Int) == 0) = true := by rw [beq_iff_eq]; omega
                  have hsB : decide ((x.spent : Int) = 0) = true := decide_eq_true (by omega)
                  clear hpe hsp
                  go_wp2_with fail
                  go_ret
                  exact ⟨rfl, HXW.out.trans (X7.out.trans G1.out)⟩
                · have hsQ : ((x.spent : Int) == 0) = false := by rw [beq_eq_false_iff_ne]; omega
                  have hsB : decide ((x.spent : Int) = 0) = false := decide_eq_false (by omega)
                  have HN := hid (And.intro (fun j y (hj : j < i + 1) (hy : ns[j]? = some y) => show ¬ spHit q y from by
                    by_cases hji : j = i
                    · subst hji
                      rw [HXI.out] at hy
                      obtain rfl := Option.some.inj hy
                      exact fun hh => hsp hh.2
                    · exact HK.out.1 j y (by omega) hy) G1.out)
                  clear hpe hsp
                  go_wp2_with fail
                  go_roundw
                  case rel => exact ⟨i + 1, by omega, by go_num, HN⟩
                  case measure => simp [intOf]; omega
              · have hpQ : ((x.pos : Int) == q) = false := by rw [beq_eq_false_iff_ne]; exact hpe
                have hpB : decide ((x.pos : Int) = q) = false := decide_eq_false hpe
                have HN := hid (And.intro (fun j y (hj : j < i + 1) (hy : ns[j]? = some y) => show ¬ spHit q y from by
                  by_cases hji : j = i
                  · subst hji
                    rw [HXI.out] at hy
                    obtain rfl := Option.some.inj hy
                    exact fun hh => hpe hh.1
                  · exact HK.out.1 j y (by omega) hy) G1.out)
                clear hpe
                go_wp2_with fail
                go_roundw
                case rel => exact ⟨i + 1, by omega, by go_num, HN⟩
                case measure => simp [intOf]; omega
            · have hltB : decide ((i : Int) < (ns.length : Int)) = false := decide_eq_false (by omega)
              obtain rfl : i = ns.length := by omega
              exact absurd HM0.out.2 (by
                obtain ⟨j, hj, he⟩ := List.getElem_of_mem HM0.out.1
                exact HK.out.1 j _ hj (by rw [List.getElem?_eq_getElem hj, he]))
        · have HM0 := hid hno
          have G3 := hid (X5.out.trans (HI.out.trans hx))
          clear hno hx SPC
          go_upto_region 18 with fail
          have hzb := heap_new u3 (.cells #[.int .u64 0, .int .u64 0, .int .u64 0, .int .u64 0, .int .u64 0, .int .i64 0, .int .i64 0, .slice none 0 0, .bool false] 61)
          have X6 := hid (G3.out.alloc (.cells #[.int .u64 0, .int .u64 0, .int .u64 0, .int .u64 0, .int .u64 0, .int .i64 0, .int .i64 0, .slice none 0 0, .bool false] 61))
          obtain ⟨ZB, hZB⟩ : ∃ ZB, ZB = u3.heap.size := ⟨_, rfl⟩
          rw [← hZB] at hzb ⊢
          clear hZB
          generalize u3.alloc (.cells #[.int .u64 0, .int .u64 0, .int .u64 0, .int .u64 0, .int .u64 0, .int .i64 0, .int .i64 0, .slice none 0 0, .bool false] 61) = u4 at *
          have HZB := hid hzb
          clear hzb
          go_wp2_with fail
          refine (SC.out _ X6.out).mono ?_
          rintro e w7 ⟨v7, rfl, ho7, hx7, -⟩
          obtain ⟨ma, mc, rfl, -⟩ := ownsRow_rd ho7
          have X7 := hid (X6.out.trans hx7)
          have HX7Z := hid hx7
          have O7 := hid ho7
          clear ho7 hx7 SC
          go_wp2_with fail
          go_loopw [134] (fun iv wr => ∃ i : Nat, i ≤ ns.length ∧ iv = .int .i64 i ∧ Hid ((∀ j y, j < i → ns[j]? = some y → ¬ spHit q y) ∧ Ext w7 wr)) (fun iv _ => ns.length - (intOf iv).toNat)
          case atStart => exact ⟨0, by omega, rfl, hid ⟨fun j y hj => by omega, Ext.refl w7⟩⟩
          case round =>
            obtain ⟨i, hi, rfl, HK⟩ := hrel
            have hi0 : (0 : Int) ≤ (i : Int) := Int.natCast_nonneg _
            by_cases hlt : i < ns.length
            · have hltB : decide ((i : Int) < (ns.length : Int)) = true := decide_eq_true (by omega)
              have hil : (i : Int) < (ns.length : Int) := by omega
              obtain ⟨x, hxi⟩ : ∃ x, ns[i]? = some x := ⟨_, List.getElem?_eq_getElem hlt⟩
              obtain ⟨g, rfl⟩ : ∃ g, ma = some ⟨g, 0, none⟩ := own_shape O7.out (by omega)
              obtain ⟨f0, f1, f2, f3, f4, f5, f6, f7⟩ := ownN_cells (ownsRow_ext O7.out HK.out.2) hxi
              have HXI := hid hxi
              clear hxi
              go_upto_region 21 with fail
              obtain ⟨Q, hQ⟩ : ∃ Q, Q = wr.heap.size := ⟨_, rfl⟩
              obtain ⟨u1, hu1⟩ : ∃ u1, u1 = wr.alloc (.cells #[uv x.note.value, uv x.note.owner, uv x.note.rho, uv x.note.blind, .int .i64 (x.number : Int), .int .i64 (x.pos : Int), .int .i64 (x.height : Int), .int .i64 (x.spent : Int)] 39) := ⟨_, rfl⟩
              rw [← hu1, ← hQ]
              have G1 : Hid (Ext w7 u1) := hid (by rw [hu1]; exact HK.out.2.alloc _)
              have hqb : u1.heap[Q]? = some (.cells #[uv x.note.value, uv x.note.owner, uv x.note.rho, uv x.note.blind, .int .i64 (x.number : Int), .int .i64 (x.pos : Int), .int .i64 (x.height : Int), .int .i64 (x.spent : Int)] 39 (0, 0)) := by rw [hu1, hQ]; exact heap_new _ _
              clear hu1 hQ f0 f1 f2 f3 f4 f5 f6 f7
              obtain ⟨c0, c1, c2, c3, c4, c5, c6, c7⟩ := eight_cells hqb
              clear hqb
              by_cases hpe : (x.pos : Int) = q
              · have hpQ : ((x.pos : Int) == q) = true := by rw [beq_iff_eq]; exact hpe
                have hpB : decide ((x.pos : Int) = q) = true := decide_eq_true hpe
                by_cases hsp : x.spent = 0
                · have hsQ : ((x.spent : Int) == 0) = true := by rw [beq_iff_eq]; omega
                  have hsB : decide ((x.spent : Int) = 0) = true := decide_eq_true (by omega)
                  clear hpe hsp
                  exact absurd ⟨by simpa using hpQ, by simpa using hsQ⟩ (HM0.out x (List.mem_of_getElem? HXI.out))
                · have hsQ : ((x.spent : Int) == 0) = false := by rw [beq_eq_false_iff_ne]; omega
                  have hsB : decide ((x.spent : Int) = 0) = false := decide_eq_false (by omega)
                  have HN := hid (And.intro (fun j y (hj : j < i + 1) (hy : ns[j]? = some y) => show ¬ spHit q y from by
                    by_cases hji : j = i
                    · subst hji
                      rw [HXI.out] at hy
                      obtain rfl := Option.some.inj hy
                      exact fun hh => hsp hh.2
                    · exact HK.out.1 j y (by omega) hy) G1.out)
                  clear hpe hsp
                  go_wp2_with fail
                  go_roundw
                  case rel => exact ⟨i + 1, by omega, by go_num, HN⟩
                  case measure => simp [intOf]; omega
              · have hpQ : ((x.pos : Int) == q) = false := by rw [beq_eq_false_iff_ne]; exact hpe
                have hpB : decide ((x.pos : Int) = q) = false := decide_eq_false hpe
                have HN := hid (And.intro (fun j y (hj : j < i + 1) (hy : ns[j]? = some y) => show ¬ spHit q y from by
                  by_cases hji : j = i
                  · subst hji
                    rw [HXI.out] at hy
                    obtain rfl := Option.some.inj hy
                    exact fun hh => hpe hh.1
                  · exact HK.out.1 j y (by omega) hy) G1.out)
                clear hpe
                go_wp2_with fail
                go_roundw
                case rel => exact ⟨i + 1, by omega, by go_num, HN⟩
                case measure => simp [intOf]; omega
            · have hltB : decide ((i : Int) < (ns.length : Int)) = false := decide_eq_false (by omega)
              obtain rfl : i = ns.length := by omega
              have HEQ : ∀ u : World, (Op.equalIn 10000 37 (.agg #[.int .u64 0, .int .u64 0, .int .u64 0, .int .u64 0]) (.agg #[.int .u64 0, .int .u64 0, .int .u64 0, .int .u64 0])).run Tryz.prog u = .ok true u := fun u => by
                have h := noteEqIn ⟨0, 0, 0, 0⟩ ⟨0, 0, 0, 0⟩ u
                rw [Nt.same_iff.2 rfl] at h
                exact h
              obtain ⟨z0, z1, z2, z3, z4, z5, z6, z7, z8⟩ := nine_cells ((HX7Z.out.trans HK.out.2).heap_some HZB.out)
              go_wp2_with fail
              go_ret
              exact ⟨rfl, HXW.out.trans (X7.out.trans HK.out.2)⟩
end Go.Proofs.YtcikjcjfcanloaaGreat
namespace Go.Proofs.YtcikjcjfcanloaaGreat
open Go.ChangeShapes Go.WideShapes Go.ChangeAt Go.RowKit Go.Joins
section
variable {H : Type} {enc : TypeId × Value → H} {W : World} {base : Nat} {sp : Nat → Bool} {held : Bool}
set_option maxRecDepth 100000 in
theorem open_iv {r : Reach} {v : Value} {d : DataW H} {p : List MemPlace} {b0 : Nat} (hv : Value.okWide Tryz.prog W r b0 3 v) {b' : Nat} (h : DataW.Trod enc Tryz.prog W b' sp held 3 v d p) : ∃ a : Int, v = .int .i64 a ∧ -9223372036854775808 ≤ a ∧ a ≤ 9223372036854775807 := by
  obtain ⟨n0, hf0⟩ := h
  obtain ⟨c0, rfl⟩ := okWide_int Tryz.underlying3 hv
  obtain ⟨a, e0, hd0, wa⟩ := DataW.trod_int Tryz.underlying3 hf0
  have e1 : [Value.int .i64 c0] = [Value.int .i64 a] := e0
  injection e1 with e2 _
  simp [Lit.wf, IntKind.min, IntKind.max, IntKind.signed, IntKind.bits] at wa
  exact ⟨a, e2, by omega, by omega⟩
end
end Go.Proofs.YtcikjcjfcanloaaGreat
