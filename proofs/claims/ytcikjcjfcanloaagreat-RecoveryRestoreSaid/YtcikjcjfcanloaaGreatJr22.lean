/- Texts of this claim, joined: RW7, TxSame, TxSmall, L49a. -/
import Derived.Test.YtcikjcjfcanloaaGreatJr14
import Derived.Test.YtcikjcjfcanloaaGreatJr18
import Derived.Test.YtcikjcjfcanloaaGreatJr21
set_option linter.unusedSimpArgs false
namespace Go.Proofs.YtcikjcjfcanloaaGreat
open Go.RowKit
attribute [local irreducible] perm fAdd fMul fPow fSub fNeg fRed hashU drawOf nextState
theorem catW_take {l : List UInt64} {k : Nat} {x : UInt64} (h : l[k]? = some x) : cat (l.take (k + 1)) = cat (l.take k) ++ leB 8 x := by
  rw [List.take_add_one, h]
  simp [cat]
def catI (l : List Nat) : List UInt8 := l.flatMap fun (n : Nat) => lenB (n : Int)
theorem catI_take {l : List Nat} {k : Nat} {x : Nat} (h : l[k]? = some x) : catI (l.take (k + 1)) = catI (l.take k) ++ lenB (x : Int) := by
  unfold catI
  rw [List.take_add_one, h]
  simp
theorem catI_length (l : List Nat) : (catI l).length = 4 * l.length := by
  induction l with
  | nil => rfl
  | cons x r ih =>
    unfold catI at ih ⊢
    rw [List.flatMap_cons, List.length_append, lenB_length, ih, List.length_cons]
    omega
theorem owB_cat (x : OwT) : owB x = cat [x.note.value, x.note.owner, x.note.rho, x.note.blind] ++ catI [x.number, x.pos, x.height, x.spent] := by
  unfold owB cat catI
  simp
theorem four_I {w : World} {g a b c d : Nat} {T : TypeId} (h : w.heap[g]? = some (.cells #[.int .i64 (a : Int), .int .i64 (b : Int), .int .i64 (c : Int), .int .i64 (d : Int)] T (0, 0))) {k x : Nat} (hk : [a, b, c, d][k]? = some x) : w.cell? ⟨g, k, none⟩ = some (.int .i64 (x : Int)) := by
  rw [cell_of h]
  match k, hk with
  | 0, hk => simp at hk; subst hk; rfl
  | 1, hk => simp at hk; subst hk; rfl
  | 2, hk => simp at hk; subst hk; rfl
  | 3, hk => simp at hk; subst hk; rfl
theorem four_U {w : World} {g : Nat} {a b c d : UInt64} {T : TypeId} (h : w.heap[g]? = some (.cells #[uv a, uv b, uv c, uv d] T (0, 0))) {k : Nat} {x : UInt64} (hk : [a, b, c, d][k]? = some x) : w.cell? ⟨g, k, none⟩ = some (uv x) := by
  rw [cell_of h]
  match k, hk with
  | 0, hk => simp at hk; subst hk; rfl
  | 1, hk => simp at hk; subst hk; rfl
  | 2, hk => simp at hk; subst hk; rfl
  | 3, hk => simp at hk; subst hk; rfl
set_option maxRecDepth 100000 in
set_option maxHeartbeats 12800000 in
theorem rEncodeW_any (seed : UInt64) (v : Value) (l : List BlkT) (w : World) (h : RdBs w w v l) (hl : l.length ≤ 1000) (hs : ∀ b ∈ l, BSm b) (hv : ∀ b ∈ l, ∀ t ∈ b.txs, txV t = 0) (hLn : (stW seed l).leaves.length ≤ 10000) :
    Calls Tryz.prog 40 #[uv seed, v] w (NewB w (walB l.length (stW seed l).leaves (stW seed l).notes)) := by
  have SC := hid (rScan_any seed v l w h hl hs hv)
  have LV : Hid (∀ u, Ext w u → Calls Tryz.prog 32 #[v] u fun e w' => ∃ x, e = .returned x ∧ FrU u w' x (leavesW l)) := hid fun u k => rLeaves_any _ l u ((h.ext k).old k) hl hs
  rw [← stW_leaves seed] at LV
  have hnn := (stW_ok seed l).n
  simp only at hnn
  obtain ⟨ns, hns⟩ : ∃ ns, ns = (stW seed l).notes := ⟨_, rfl⟩
  obtain ⟨L, hL⟩ : ∃ L, L = (stW seed l).leaves := ⟨_, rfl⟩
  rw [← hns, ← hL] at hnn
  rw [← hns] at SC ⊢
  rw [← hL] at LV hLn ⊢
  clear hns hL hs hv
  obtain ⟨la, lc, rfl, -⟩ := h.shape
  have HLL := hid hLn
  have HNL : Hid (ns.length ≤ 10000) := hid (by omega)
  have hnI : (ns.length : Int) ≤ 10000 := by omega
  obtain ⟨i0, hi, hz0, hz1, hz2⟩ := info_parts Tryz.infoB
  have HI0 := hid (And.intro hi (And.intro hz0 (And.intro hz1 hz2)))
  clear h hl hnn hLn hi hz0 hz1 hz2
  generalize l.length = n at *
  go_enter Tryz.func40, Tryz.ntmps40
  go_wp2_with fail
  refine (SC.out).mono ?_
  rintro e w1 ⟨u1, rfl, hf1⟩
  have N1 := hid hf1
  obtain ⟨na, nc, rfl, -⟩ := ownsRow_rd hf1.1
  clear hf1 SC
  go_wp2_with fail
  refine (rLen_any (n : Int) w1).mono ?_
  rintro e w2 ⟨v2, rfl, ho, hx, hn2⟩
  have F2 : Hid (FrB w1 w2 v2 (lenB (n : Int))) := hid ⟨ho, hx, hn2⟩
  obtain ⟨sa2, sc2, rfl⟩ := F2.out.sl
  clear ho hx hn2
  go_wp2_with fail
  refine (LV.out _ (N1.out.2.1.trans F2.out.2.1)).mono ?_
  rintro e w3 ⟨u3, rfl, hf3⟩
  have HF3 := hid hf3
  have F3 := hid (F2.out.ext hf3.2.1)
  obtain ⟨ua, uc, rfl, -⟩ := ownsRow_rd hf3.1
  clear hf3 LV F2
  go_wp2_with fail
  refine (rList_any _ L w3 (ownsRow_rd HF3.out.1).weak (by have := HLL.out; omega)).mono ?_
  rintro e w4 ⟨v4, rfl, ho, hx, hn4⟩
  have O4 := hid ho
  have F4 := hid (F3.out.ext hx)
  obtain ⟨ba, bc, rfl, -⟩ := ownsRow_rd ho
  clear ho hx hn4 F3 HF3
  obtain ⟨B1, hB1⟩ : ∃ B, B = listB L := ⟨_, rfl⟩
  rw [← hB1] at O4 ⊢
  have HB1 := hid hB1
  have HBL : Hid (B1.length ≤ 100000) := hid (by rw [hB1, listB_length]; have := HLL.out; omega)
  clear hB1
  obtain ⟨A1, hA1⟩ : ∃ A, A = lenB (n : Int) := ⟨_, rfl⟩
  rw [← hA1] at F4 ⊢
  have HA1 := hid hA1
  have HAL : Hid (A1.length ≤ 4) := hid (by rw [hA1, lenB_length]; omega)
  clear hA1
  go_wp2_with (at_builtin; refine wpList_app rfl _ _ 69 rfl 5 i0 (.int .u8 0) 1 1 Tryz.underlying69 HI0.out.1 HI0.out.2.1 HI0.out.2.2.1 HI0.out.2.2.2 rfl (by decide) _ A1.length (bs A1) rfl F4.out.1 _ B1.length (bs B1) rfl (ownsRow_rd O4.out) (by rw [List.length_map, Nat.mul_one]) (bs_one _) (by have := HAL.out; have := HBL.out; unfold maxLen; omega) (by have := HAL.out; have := HBL.out; omega) ?_)
  intro v5 w5 hown hk hb
  have F5 := hid (F4.out.app (m := B1) hown hk hb rfl rfl)
  obtain ⟨a5, c5, rfl⟩ := F5.out.sl
  clear hown hk hb F4 O4
  obtain ⟨C1, hC⟩ : ∃ C, C = A1 ++ B1 := ⟨_, rfl⟩
  rw [← hC] at F5 ⊢
  have HC1 := hid hC
  have HLC1 : Hid (C1.length ≤ 200000) := hid (by rw [hC, List.length_append]; have := HAL.out; have := HBL.out; omega)
  clear hC
  go_wp2_with fail
  refine (rLen_any (ns.length : Int) w5).mono ?_
  rintro e w6 ⟨v6, rfl, ho, hx, -⟩
  have O6 := hid ho
  have F6 := hid (F5.out.ext hx)
  obtain ⟨ba, bc, rfl, -⟩ := ownsRow_rd ho
  clear ho hx F5
  obtain ⟨B2, hB2⟩ : ∃ B, B = lenB (ns.length : Int) := ⟨_, rfl⟩
  rw [← hB2] at O6 ⊢
  have HB2 := hid hB2
  have HBL2 : Hid (B2.length ≤ 4) := hid (by rw [hB2, lenB_length]; omega)
  clear hB2
  go_wp2_with (at_builtin; refine wpList_app rfl _ _ 69 rfl 5 i0 (.int .u8 0) 1 1 Tryz.underlying69 HI0.out.1 HI0.out.2.1 HI0.out.2.2.1 HI0.out.2.2.2 rfl (by decide) _ C1.length (bs C1) rfl F6.out.1 _ B2.length (bs B2) rfl (ownsRow_rd O6.out) (by rw [List.length_map, Nat.mul_one]) (bs_one _) (by have := HLC1.out; have := HBL2.out; unfold maxLen; omega) (by have := HLC1.out; have := HBL2.out; omega) ?_)
  intro v7 w7 hown hk hb
  have F7 := hid (F6.out.app (m := B2) hown hk hb rfl rfl)
  obtain ⟨a7, c7, rfl⟩ := F7.out.sl
  clear hown hk hb F6 O6
  obtain ⟨C2, hC⟩ : ∃ C, C = C1 ++ B2 := ⟨_, rfl⟩
  rw [← hC] at F7 ⊢
  have HC2 := hid hC
  have HLC2 : Hid (C2.length ≤ 300000) := hid (by rw [hC, List.length_append]; have := HLC1.out; have := HBL2.out; omega)
  clear hC
  go_wp2_with fail
  go_loopw [6, 7] (fun bv iv wr => ∃ i : Nat, i ≤ ns.length ∧ iv = .int .i64 i ∧ Hid (FrB w1 wr bv (C2 ++ owsB (ns.take i)))) (fun _ iv _ => ns.length - (intOf iv).toNat)
  case atStart => exact ⟨0, by omega, rfl, hid (by simpa [owsB] using F7.out)⟩
  case round =>
    clear F7
    obtain ⟨i, hi, rfl, HI⟩ := hrel
    have hi0 : (0 : Int) ≤ (i : Int) := Int.natCast_nonneg _
    by_cases hlt : i < ns.length
    · have hltB : decide ((i : Int) < (ns.length : Int)) = true := by simp; omega
      have hil : (i : Int) < (ns.length : Int) := by omega
      obtain ⟨x, hxi⟩ : ∃ x, ns[i]? = some x := ⟨_, List.getElem?_eq_getElem hlt⟩
      obtain ⟨g, rfl⟩ : ∃ g, na = some ⟨g, 0, none⟩ := own_shape N1.out.1 (by omega)
      have hrow : ∀ j u, j < 8 → (owCells x)[j]? = some u → wr.cell? ⟨g, i * 8 + j, none⟩ = some u := by
        obtain ⟨b, o, e, hc⟩ := rows_at owCells_len (by omega) rfl (ownsRow_rd (ownsRow_ext N1.out.1 HI.out.2.1)).weak hxi
        injection e with e
        injection e with e1 e2
        subst e1 e2
        intro j u hj hu
        have := hc j u hj hu
        rwa [Nat.zero_add] at this
      have f0 : wr.cell? ⟨g, i * 8, none⟩ = some (uv x.note.value) := hrow 0 _ (by omega) rfl
      have f1 : wr.cell? ⟨g, i * 8 + 1, none⟩ = some (uv x.note.owner) := hrow 1 _ (by omega) rfl
      have f2 : wr.cell? ⟨g, i * 8 + 2, none⟩ = some (uv x.note.rho) := hrow 2 _ (by omega) rfl
      have f3 : wr.cell? ⟨g, i * 8 + 3, none⟩ = some (uv x.note.blind) := hrow 3 _ (by omega) rfl
      have f4 : wr.cell? ⟨g, i * 8 + 4, none⟩ = some (.int .i64 (x.number : Int)) := hrow 4 _ (by omega) rfl
      have f5 : wr.cell? ⟨g, i * 8 + 5, none⟩ = some (.int .i64 (x.pos : Int)) := hrow 5 _ (by omega) rfl
      have f6 : wr.cell? ⟨g, i * 8 + 6, none⟩ = some (.int .i64 (x.height : Int)) := hrow 6 _ (by omega) rfl
      have f7 : wr.cell? ⟨g, i * 8 + 7, none⟩ = some (.int .i64 (x.spent : Int)) := hrow 7 _ (by omega) rfl
      have HSN : Hid (C2 ++ owsB (ns.take (i + 1)) = (C2 ++ owsB (ns.take i)) ++ (cat [x.note.value, x.note.owner, x.note.rho, x.note.blind] ++ catI [x.number, x.pos, x.height, x.spent])) := hid (by rw [owsB_snoc hxi, List.append_assoc, owB_cat])
      obtain ⟨C0, hC0⟩ : ∃ C, C = C2 ++ owsB (ns.take i) := ⟨_, rfl⟩
      rw [← hC0] at HI HSN
      have HN0 : Hid (C0.length ≤ 1000000) := hid (by rw [hC0, List.length_append, owsB_length, List.length_take]; have := HLC2.out; have := HNL.out; omega)
      clear hrow hxi hC0
      obtain ⟨n0, hn0⟩ : ∃ n, n = x.note.value := ⟨_, rfl⟩
      obtain ⟨n1, hn1⟩ : ∃ n, n = x.note.owner := ⟨_, rfl⟩
      obtain ⟨n2, hn2⟩ : ∃ n, n = x.note.rho := ⟨_, rfl⟩
      obtain ⟨n3, hn3⟩ : ∃ n, n = x.note.blind := ⟨_, rfl⟩
      rw [← hn0, ← hn1, ← hn2, ← hn3] at HSN
      rw [← hn0] at f0
      rw [← hn1] at f1
      rw [← hn2] at f2
      rw [← hn3] at f3
      clear hn0 hn1 hn2 hn3
      go_upto_region 9 with fail
      obtain ⟨P, hP⟩ : ∃ P, P = wr.heap.size := ⟨_, rfl⟩
      obtain ⟨x0, hx0⟩ : ∃ u, u = wr.alloc (.cells #[uv n0, uv n1, uv n2, uv n3, .int .i64 (x.number : Int), .int .i64 (x.pos : Int), .int .i64 (x.height : Int), .int .i64 (x.spent : Int)] 39) := ⟨_, rfl⟩
      rw [← hx0, ← hP]
      have hy0 : Ext wr x0 := by rw [hx0]; exact (Ext.refl wr).alloc _
      have hbo : x0.heap[P]? = some (.cells #[uv n0, uv n1, uv n2, uv n3, .int .i64 (x.number : Int), .int .i64 (x.pos : Int), .int .i64 (x.height : Int), .int .i64 (x.spent : Int)] 39 (0, 0)) := by rw [hx0, hP]; exact heap_new _ _
      have HBO := hid hbo
      have HUP : Hid (∀ k, blk u6 = some k → k < P) := hid fun k e => by have := ownsRow_lt HI.out.1 e; omega
      have HPS : Hid (P < x0.heap.size) := hid (heap_lt hbo)
      have hz0 := hy0.alloc (.cells #[uv n0, uv n1, uv n2, uv n3] 22)
      have hxb := heap_new x0 (.cells #[uv n0, uv n1, uv n2, uv n3] 22)
      have hbo2 := heap_alloc_some (o' := .cells #[uv n0, uv n1, uv n2, uv n3] 22) hbo
      obtain ⟨c0, c1, c2, c3, c4, c5, c6, c7⟩ := eight_cells hbo
      clear hx0 hbo hP f0 f1 f2 f3 f4 f5 f6 f7 hy0
      go_upto_region 10 with fail
      obtain ⟨XB, hXB⟩ : ∃ XB, XB = x0.heap.size := ⟨_, rfl⟩
      rw [← hXB] at hxb ⊢
      generalize x0.alloc (.cells #[uv n0, uv n1, uv n2, uv n3] 22) = x1 at *
      obtain ⟨X, hX⟩ : ∃ X, X = [n0, n1, n2, n3] := ⟨_, rfl⟩
      have HX := hid hX
      have hXl : X.length = 4 := by rw [hX]; rfl
      obtain ⟨Y, hY⟩ : ∃ Y, Y = [x.number, x.pos, x.height, x.spent] := ⟨_, rfl⟩
      have HY := hid hY
      have hYl : Y.length = 4 := by rw [hY]; rfl
      rw [← hX, ← hY] at HSN
      have G0 : Hid (FrB w1 x1 u6 (C0 ++ cat (X.take 0)) ∧ x1.heap[P]? = some (.cells #[uv n0, uv n1, uv n2, uv n3, .int .i64 (x.number : Int), .int .i64 (x.pos : Int), .int .i64 (x.height : Int), .int .i64 (x.spent : Int)] 39 (0, 0)) ∧ x1.heap[XB]? = some (.cells #[uv n0, uv n1, uv n2, uv n3] 22 (0, 0)) ∧ ∀ k, blk u6 = some k → k ≠ P ∧ k ≠ XB) := hid ⟨by simpa [cat] using HI.out.ext hz0, hbo2, hxb, fun k e => by have h1 := HUP.out k e; have h2 := HPS.out; exact ⟨by omega, by omega⟩⟩
      clear hX hY hXB hxb hbo2 hz0 c0 c1 c2 c3 c4 c5 c6 c7 HI HBO HUP HPS
      go_wp2_with fail
      go_loopw [6, 10] (fun bv kv wr => ∃ k : Nat, k ≤ 4 ∧ kv = .int .i64 k ∧ Hid (FrB w1 wr bv (C0 ++ cat (X.take k)) ∧ wr.heap[P]? = some (.cells #[uv n0, uv n1, uv n2, uv n3, .int .i64 (x.number : Int), .int .i64 (x.pos : Int), .int .i64 (x.height : Int), .int .i64 (x.spent : Int)] 39 (0, 0)) ∧ wr.heap[XB]? = some (.cells #[uv n0, uv n1, uv n2, uv n3] 22 (0, 0)) ∧ ∀ k, blk bv = some k → k ≠ P ∧ k ≠ XB)) (fun _ kv _ => 4 - (intOf kv).toNat)
      case atStart => exact ⟨0, by omega, rfl, G0⟩
      case round =>
        clear G0
        obtain ⟨k, hk, rfl, HK⟩ := hrel
        have hk0 : (0 : Int) ≤ (k : Int) := Int.natCast_nonneg _
        by_cases hkt : k < 4
        · have hktB : decide ((k : Int) < 4) = true := decide_eq_true (by omega)
          have hkI : (k : Int) < 4 := by omega
          obtain ⟨y, hy⟩ : ∃ y, X[k]? = some y := ⟨_, List.getElem?_eq_getElem (by omega)⟩
          have f0 : wr.cell? ⟨XB, k, none⟩ = some (uv y) := four_U HK.out.2.2.1 (by rw [← HX.out]; exact hy)
          have HT : Hid (C0 ++ cat (X.take (k + 1)) = (C0 ++ cat (X.take k)) ++ leB 8 y) := hid (by rw [catW_take hy, List.append_assoc])
          have DG := hid (rDigits_any y 8 wr (by omega))
          obtain ⟨D, hD⟩ : ∃ D, D = C0 ++ cat (X.take k) := ⟨_, rfl⟩
          have HDL : Hid (D.length ≤ 2000000) := hid (by rw [hD, List.length_append, cat_length, List.length_take]; have := HN0.out; omega)
          rw [← hD] at HK HT
          obtain ⟨E, hE⟩ : ∃ E, E = leB 8 y := ⟨_, rfl⟩
          have HEL : Hid (E.length = 8) := hid (by rw [hE, leB_length])
          rw [← hE] at HT DG
          obtain ⟨da, dc, rfl⟩ := HK.out.1.sl
          clear hy hD hE
          go_wp2_with fail
          refine DG.out.mono ?_
          rintro e y1 ⟨z1, rfl, ho, hx, -⟩
          have O1 := hid ho
          have K1 := hid (HK.out.1.ext hx)
          have K2 := hid (And.intro (hx.heap_some HK.out.2.1) (hx.heap_some HK.out.2.2.1))
          obtain ⟨ea, ec, rfl, -⟩ := ownsRow_rd ho
          clear ho hx DG f0
          go_wp2_with (at_builtin; refine wpList_app rfl _ _ 69 rfl 5 i0 (.int .u8 0) 1 1 Tryz.underlying69 HI0.out.1 HI0.out.2.1 HI0.out.2.2.1 HI0.out.2.2.2 rfl (by decide) _ D.length (bs D) rfl K1.out.1 _ E.length (bs E) rfl (ownsRow_rd O1.out) (by rw [List.length_map, Nat.mul_one]) (bs_one _) (by have := HDL.out; have := HEL.out; unfold maxLen; omega) (by have := HDL.out; have := HEL.out; omega) ?_)
          intro v8 w8 hown hk8 hb
          have G8 := K1.out.app (m := E) hown hk8 hb rfl rfl
          rw [← HT.out] at G8
          have HN := hid (And.intro G8 (And.intro (hk8.heap_some (fun e => (HK.out.2.2.2 P e.symm).1 rfl) K2.out.1) (And.intro (hk8.heap_some (fun e => (HK.out.2.2.2 XB e.symm).2 rfl) K2.out.2) (fun k (e : blk v8 = some k) => show k ≠ P ∧ k ≠ XB from by
            rcases hb with h | h
            · exact HK.out.2.2.2 k (by rw [← h]; exact e)
            · rw [h] at e
              have := Option.some.inj e
              have h1 := heap_lt K2.out.1
              have h2 := heap_lt K2.out.2
              exact ⟨by omega, by omega⟩))))
          obtain ⟨a8, c8, hv8⟩ : ∃ a c, v8 = .slice a (D.length + E.length) c := by
            obtain ⟨a, c, e, -⟩ := ownsRow_rd hown
            exact ⟨a, c, e⟩
          subst hv8
          clear hown hk8 hb G8
          go_wp2_with fail
          go_roundw
          case rel => exact ⟨k + 1, by omega, by go_num, HN⟩
          case measure => simp [intOf]; omega
        · have hktB : decide ((k : Int) < 4) = false := decide_eq_false (by omega)
          obtain rfl : k = 4 := by omega
          rw [List.take_of_length_le (by omega)] at HK
          rw [show ((4 : Nat) : Int) = 4 from rfl]
          obtain ⟨C4, hC4⟩ : ∃ C, C = C0 ++ cat X := ⟨_, rfl⟩
          rw [← hC4] at HK
          have HC4 : Hid (C0 ++ (cat X ++ catI Y) = C4 ++ catI Y) := hid (by rw [hC4, List.append_assoc])
          have HL4 : Hid (C4.length ≤ 1100000) := hid (by rw [hC4, List.length_append, cat_length]; have := HN0.out; omega)
          clear hC4
          obtain ⟨c0, c1, c2, c3, c4, c5, c6, c7⟩ := eight_cells HK.out.2.1
          go_upto_region 15 with fail
          clear c0 c1 c2 c3 c4 c5 c6 c7
          obtain ⟨YB, hYB⟩ : ∃ YB, YB = wr.heap.size := ⟨_, rfl⟩
          have hyb := heap_new wr (.cells #[.int .i64 (x.number : Int), .int .i64 (x.pos : Int), .int .i64 (x.height : Int), .int .i64 (x.spent : Int)] 3)
          have hz5 : Ext wr (wr.alloc (.cells #[.int .i64 (x.number : Int), .int .i64 (x.pos : Int), .int .i64 (x.height : Int), .int .i64 (x.spent : Int)] 3)) := (Ext.refl wr).alloc _
          rw [← hYB] at hyb ⊢
          generalize wr.alloc (.cells #[.int .i64 (x.number : Int), .int .i64 (x.pos : Int), .int .i64 (x.height : Int), .int .i64 (x.spent : Int)] 3) = x5 at *
          have G5 : Hid (FrB w1 x5 u6 (C4 ++ catI (Y.take 0)) ∧ x5.heap[P]? = some (.cells #[uv n0, uv n1, uv n2, uv n3, .int .i64 (x.number : Int), .int .i64 (x.pos : Int), .int .i64 (x.height : Int), .int .i64 (x.spent : Int)] 39 (0, 0)) ∧ x5.heap[YB]? = some (.cells #[.int .i64 (x.number : Int), .int .i64 (x.pos : Int), .int .i64 (x.height : Int), .int .i64 (x.spent : Int)] 3 (0, 0)) ∧ ∀ k, blk u6 = some k → k ≠ P ∧ k ≠ YB) := hid ⟨by simpa [catI] using HK.out.1.ext hz5, hz5.heap_some HK.out.2.1, hyb, fun k e => ⟨(HK.out.2.2.2 k e).1, by have := ownsRow_lt HK.out.1.1 e; omega⟩⟩
          clear hYB hyb hz5 HK
          go_wp2_with fail
          go_loopw [6, 12] (fun bv kv wr => ∃ k : Nat, k ≤ 4 ∧ kv = .int .i64 k ∧ Hid (FrB w1 wr bv (C4 ++ catI (Y.take k)) ∧ wr.heap[P]? = some (.cells #[uv n0, uv n1, uv n2, uv n3, .int .i64 (x.number : Int), .int .i64 (x.pos : Int), .int .i64 (x.height : Int), .int .i64 (x.spent : Int)] 39 (0, 0)) ∧ wr.heap[YB]? = some (.cells #[.int .i64 (x.number : Int), .int .i64 (x.pos : Int), .int .i64 (x.height : Int), .int .i64 (x.spent : Int)] 3 (0, 0)) ∧ ∀ k, blk bv = some k → k ≠ P ∧ k ≠ YB)) (fun _ kv _ => 4 - (intOf kv).toNat)
          case atStart => exact ⟨0, by omega, rfl, G5⟩
          case round =>
            clear G5
            obtain ⟨k, hk, rfl, HK⟩ := hrel
            have hk0 : (0 : Int) ≤ (k : Int) := Int.natCast_nonneg _
            by_cases hkt : k < 4
            · have hktB : decide ((k : Int) < 4) = true := decide_eq_true (by omega)
              have hkI : (k : Int) < 4 := by omega
              obtain ⟨y, hy⟩ : ∃ y, Y[k]? = some y := ⟨_, List.getElem?_eq_getElem (by omega)⟩
              have f0 : wr.cell? ⟨YB, k, none⟩ = some (.int .i64 (y : Int)) := four_I HK.out.2.2.1 (by rw [← HY.out]; exact hy)
              have HT : Hid (C4 ++ catI (Y.take (k + 1)) = (C4 ++ catI (Y.take k)) ++ lenB (y : Int)) := hid (by rw [catI_take hy, List.append_assoc])
              have DG := hid (rLen_any (y : Int) wr)
              obtain ⟨D, hD⟩ : ∃ D, D = C4 ++ catI (Y.take k) := ⟨_, rfl⟩
              have HDL : Hid (D.length ≤ 2000000) := hid (by rw [hD, List.length_append, catI_length, List.length_take]; have := HL4.out; omega)
              rw [← hD] at HK HT
              obtain ⟨E, hE⟩ : ∃ E, E = lenB (y : Int) := ⟨_, rfl⟩
              have HEL : Hid (E.length = 4) := hid (by rw [hE, lenB_length])
              rw [← hE] at HT DG
              obtain ⟨da, dc, rfl⟩ := HK.out.1.sl
              clear hy hD hE
              go_wp2_with fail
              refine DG.out.mono ?_
              rintro e y1 ⟨z1, rfl, ho, hx, -⟩
              have O1 := hid ho
              have K1 := hid (HK.out.1.ext hx)
              have K2 := hid (And.intro (hx.heap_some HK.out.2.1) (hx.heap_some HK.out.2.2.1))
              obtain ⟨ea, ec, rfl, -⟩ := ownsRow_rd ho
              clear ho hx DG f0
              go_wp2_with (at_builtin; refine wpList_app rfl _ _ 69 rfl 5 i0 (.int .u8 0) 1 1 Tryz.underlying69 HI0.out.1 HI0.out.2.1 HI0.out.2.2.1 HI0.out.2.2.2 rfl (by decide) _ D.length (bs D) rfl K1.out.1 _ E.length (bs E) rfl (ownsRow_rd O1.out) (by rw [List.length_map, Nat.mul_one]) (bs_one _) (by have := HDL.out; have := HEL.out; unfold maxLen; omega) (by have := HDL.out; have := HEL.out; omega) ?_)
              intro v8 w8 hown hk8 hb
              have G8 := K1.out.app (m := E) hown hk8 hb rfl rfl
              rw [← HT.out] at G8
              have HN := hid (And.intro G8 (And.intro (hk8.heap_some (fun e => (HK.out.2.2.2 P e.symm).1 rfl) K2.out.1) (And.intro (hk8.heap_some (fun e => (HK.out.2.2.2 YB e.symm).2 rfl) K2.out.2) (fun k (e : blk v8 = some k) => show k ≠ P ∧ k ≠ YB from by
                rcases hb with h | h
                · exact HK.out.2.2.2 k (by rw [← h]; exact e)
                · rw [h] at e
                  have := Option.some.inj e
                  have h1 := heap_lt K2.out.1
                  have h2 := heap_lt K2.out.2
                  exact ⟨by omega, by omega⟩))))
              obtain ⟨a8, c8, hv8⟩ : ∃ a c, v8 = .slice a (D.length + E.length) c := by
                obtain ⟨a, c, e, -⟩ := ownsRow_rd hown
                exact ⟨a, c, e⟩
              subst hv8
              clear hown hk8 hb G8
              go_wp2_with fail
              go_roundw
              case rel => exact ⟨k + 1, by omega, by go_num, HN⟩
              case measure => simp [intOf]; omega
            · have hktB : decide ((k : Int) < 4) = false := decide_eq_false (by omega)
              obtain rfl : k = 4 := by omega
              rw [List.take_of_length_le (by omega)] at HK
              rw [← HC4.out, ← HSN.out] at HK
              have HN := hid HK.out.1
              go_wp2_with fail
              go_roundw
              case rel => exact ⟨i + 1, by omega, by go_num, HN⟩
              case measure => simp [intOf]; omega
    · have hltB : decide ((i : Int) < (ns.length : Int)) = false := by simp; omega
      obtain rfl : i = ns.length := by omega
      rw [List.take_length] at HI
      obtain ⟨ba, bc, hbv⟩ := HI.out.sl
      go_wp2_with fail
      go_ret
      exact ⟨_, rfl, by
        have := HI.out.1
        rw [HC2.out, HC1.out, HA1.out, HB1.out, HB2.out] at this
        exact this, N1.out.2.1.trans HI.out.2.1, fun k e => Nat.le_trans N1.out.2.1.size (HI.out.2.2 k e)⟩
end Go.Proofs.YtcikjcjfcanloaaGreat
namespace Go.Proofs.YtcikjcjfcanloaaGreat
open Go.RowKit
attribute [local irreducible] perm fAdd fMul fPow fSub fNeg fRed hashU
theorem b_beq (x y : UInt8) : ((x.toNat : Int) != (y.toNat : Int)) = !decide (x = y) := by
  by_cases h : x = y
  · subst h; simp
  · have : x.toNat ≠ y.toNat := fun h' => h (UInt8.toNat_inj.1 h')
    rw [show decide (x = y) = false by simpa using h]
    simp; omega
theorem RdB'.at {w : World} {a : Option Addr} {n c : Nat} {l : List UInt8} (h : RdC' w (.slice a n c) l.length (bs l)) {i : Nat} {x : UInt8} (hx : l[i]? = some x) : ∃ b o, a = some ⟨b, o, none⟩ ∧ w.cell? ⟨b, o + i, none⟩ = some (.int .u8 x.toNat) := by
  obtain ⟨a', c', he, hlc, -, hn', hc'⟩ := h
  injection he with e1 e2 e3
  subst e1
  have hi : i < l.length := (List.getElem?_eq_some_iff.1 hx).1
  cases a with
  | none => have := hn' rfl; omega
  | some ad =>
    have hsp : ad = ⟨ad.block, ad.off, none⟩ := by
      cases l with
      | nil => simp at hx
      | cons y r => exact spot_none (hc' ad rfl 0 (.int .u8 y.toNat) rfl)
    refine ⟨ad.block, ad.off, by rw [← hsp], ?_⟩
    have h5 := hc' ad rfl i (.int .u8 x.toNat) (by simp [hx])
    rw [hsp, Addr.add_lit] at h5
    exact h5
set_option maxRecDepth 100000 in
set_option maxHeartbeats 1600000 in
theorem SameB_any (av bv : Value) (a b : List UInt8) (w : World) (ha : RdB' w av a) (hb : RdB' w bv b) (hA : a.length ≤ 10000000000) :
    Calls Tryz.prog 53 #[av, bv] w fun e w' => e = .returned (.bool (decide (a = b))) ∧ Ext w w' := by
  obtain ⟨aa, ac, rfl, -⟩ := id ha
  obtain ⟨ba, bc, rfl, -⟩ := id hb
  have HA := hid ha
  have HB := hid hb
  obtain ⟨R, hR⟩ : ∃ R, R = decide (a = b) := ⟨_, rfl⟩
  rw [← hR]
  have HR := hid hR
  have hA1 : (a.length : Int) ≤ 10000000000 := by omega
  clear ha hb hR
  go_enter Tryz.func53, Tryz.ntmps53
  by_cases hl : a.length = b.length
  case neg =>
    have hlB : ((a.length : Int) != (b.length : Int)) = true := by simp; omega
    have hr : R = false := by rw [HR.out, decide_eq_false_iff_not]; intro h; exact hl (by rw [h])
    subst hr
    clear hl
    go_wp2_with fail
    go_ret
    exact ⟨rfl, Ext.refl _⟩
  obtain ⟨n, hn⟩ : ∃ n, n = a.length := ⟨_, rfl⟩
  have hnb : b.length = n := by omega
  rw [← hn] at hA1 ⊢
  rw [hnb]
  have HN := hid (And.intro hn hnb)
  have hlB : ((n : Int) != (n : Int)) = false := by simp
  clear hl hn hnb hA
  go_wp2_with fail
  go_loopw [5] (fun iv wr => ∃ i : Nat, i ≤ n ∧ iv = .int .i64 i ∧ Hid (a.take i = b.take i) ∧ Hid (Ext w wr)) (fun iv _ => n - (intOf iv).toNat)
  case atStart => exact ⟨0, by omega, rfl, hid rfl, hid (Ext.refl _)⟩
  case round =>
    obtain ⟨i, hi, rfl, HI, HXR⟩ := hrel
    by_cases hlt : i < n
    · have hltB : decide ((i : Int) < (n : Int)) = true := by simp; omega
      have hi0 : (0 : Int) ≤ (i : Int) := Int.natCast_nonneg _
      have hil : (i : Int) < (n : Int) := by omega
      obtain ⟨x, hx⟩ : ∃ x, a[i]? = some x := ⟨_, List.getElem?_eq_getElem (by have := HN.out.1; omega)⟩
      obtain ⟨y, hy⟩ : ∃ y, b[i]? = some y := ⟨_, List.getElem?_eq_getElem (by have := HN.out.2; omega)⟩
      obtain ⟨xb, xo, rfl, hcx⟩ := RdB'.at (HA.out.ext HXR.out) hx
      obtain ⟨yb, yo, rfl, hcy⟩ := RdB'.at (HB.out.ext HXR.out) hy
      have HCC : Hid (∀ v, Ext wr v → (v.cell? ⟨xb, xo + i, none⟩ = some (.int .u8 x.toNat) ∧ v.cell? ⟨yb, yo + i, none⟩ = some (.int .u8 y.toNat))) := hid fun v k => ⟨k.cell_some hcx, k.cell_some hcy⟩
      have HXY := hid (And.intro hx hy)
      have hxyB := b_beq x y
      clear hx hy hcx hcy
      go_upto_region 6 with fail
      refine wp_region_T (fun v => (v.cell? ⟨xb, xo + i, none⟩ = some (.int .u8 x.toNat) ∧ v.cell? ⟨yb, yo + i, none⟩ = some (.int .u8 y.toNat)) ∧ Ext wr v) 8 [(0, true), (1, true), (2, true), (3, true), (4, true), (5, true), (6, true), (7, true), (8, false)] (by kernel_rfl) (by kernel_rfl) (by intro c a d v w h; cases d <;> exact h) ?_
      intro ops hops
      have HSS := keep0 HCC.out
      iterate 8
        refine wpT_take (v := ?_) (by rw [hops, List.getElem?_toArray]; rfl) (by first | rfl | (rw [hops]; rfl)) ?_ HSS ?_
        rotate_left
        · intro v h; go_simp; with_reducible rfl
        simp only [Act.put, List.getElem_toArray, List.getElem_cons_zero, List.getElem_cons_succ, List.setIfInBounds_toArray, List.set_cons_zero, List.set_cons_succ]
      clear HSS
      by_cases hxy : x = y
      · rw [show decide (x = y) = true by simpa using hxy] at hxyB
        have HN2 : Hid (a.take (i + 1) = b.take (i + 1)) := hid (by rw [List.take_add_one, List.take_add_one, HXY.out.1, HXY.out.2, HI.out, hxy])
        have HXD := hid HXR.out.drew
        clear hxy
        refine wpT_step (by rw [hops, List.getElem?_toArray]; rfl) (by first | rfl | (rw [hops]; rfl)) ?_
        intro K hK
        go_wp2_with fail
        try (with_reducible refine ⟨fun h => absurd h (by decide), ?_⟩)
        try rw [wpT_nil]
        try clear hops ops
        go_wp2_with fail
        go_roundw
        case rel => exact ⟨i + 1, by omega, by go_num, HN2, HXD⟩
        case measure => simp [intOf]; omega
      · rw [show decide (x = y) = false by simpa using hxy] at hxyB
        have hr : R = false := by
          rw [HR.out, decide_eq_false_iff_not]
          intro h
          have h1 := HXY.out.1
          rw [h, HXY.out.2] at h1
          exact hxy (Option.some.inj h1).symm
        subst hr
        clear hxy
        refine wpT_step (by rw [hops, List.getElem?_toArray]; rfl) (by first | rfl | (rw [hops]; rfl)) ?_
        intro K hK
        go_wp2_with fail
        try (with_reducible refine ⟨fun h => absurd h (by decide), ?_⟩)
        try rw [wpT_nil]
        try clear hops ops
        go_wp2_with fail
        go_ret
        exact ⟨rfl, HXR.out.drew⟩
    · have hie : i = n := by omega
      subst hie
      have hltB : decide ((i : Int) < (i : Int)) = false := by simp
      have hr : R = true := by
        rw [HR.out, decide_eq_true_eq]
        have h1 := HI.out
        rwa [List.take_of_length_le (by have := HN.out.1; omega), List.take_of_length_le (by have := HN.out.2; omega)] at h1
      subst hr
      go_wp2_with fail
      go_ret
      exact ⟨rfl, HXR.out⟩
theorem sameCi_at : ∀ {a b : List OutT} {i : Nat} {x y : OutT}, a[i]? = some x → b[i]? = some y → x.cipher.length ≠ y.cipher.length → sameCi a b = false
  | [], _, _, _, _, h, _, _ => by simp at h
  | _ :: _, [], _, _, _, _, h, _ => by simp at h
  | u :: r, v :: s, 0, x, y, hx, hy, hn => by
    simp at hx hy
    subst hx hy
    unfold sameCi
    rw [show decide (u.cipher.length = v.cipher.length) = false by simpa using hn, Bool.false_and]
  | u :: r, v :: s, i + 1, x, y, hx, hy, hn => by
    unfold sameCi
    rw [sameCi_at (i := i) (by simpa using hx) (by simpa using hy) hn, Bool.and_false]
theorem sameCi_all : ∀ {a b : List OutT}, a.length = b.length → (∀ (i : Nat) (x y : OutT), a[i]? = some x → b[i]? = some y → x.cipher.length = y.cipher.length) → sameCi a b = true
  | [], _, _, _ => by unfold sameCi; rfl
  | _ :: _, [], h, _ => by simp at h
  | u :: r, v :: s, hl, h => by
    unfold sameCi
    rw [sameCi_all (by simpa using hl) (fun i x y hx hy => h (i + 1) x y (by simpa using hx) (by simpa using hy)), Bool.and_true, decide_eq_true_eq]
    exact h 0 u v rfl rfl
set_option maxRecDepth 100000 in
set_option maxHeartbeats 6400000 in
theorem sameTx_any (x y : TxT) (xm xo xp ym yo yp : Value) (w : World) (hx : RdT w x xm xo xp) (hy : RdT w y ym yo yp) (sx : TSm x) (sy : TSm y) :
    Calls Tryz.prog 123 #[txVal x xm xo xp, txVal y ym yo yp] w fun e w' => e = .returned (.bool (sameTx x y)) ∧ Ext w w' := by
  have HEX : Hid (∀ v, Ext w v → Calls Tryz.prog 147 #[txVal x xm xo xp] v (NewB v (txB x))) := hid fun v k => rTxB_any x xm xo xp v (hx.ext k) sx
  have HEY : Hid (∀ v, Ext w v → Calls Tryz.prog 147 #[txVal y ym yo yp] v (NewB v (txB y))) := hid fun v k => rTxB_any y ym yo yp v (hy.ext k) sy
  have HLX := hid (txB_le sx)
  obtain ⟨ma, mc, oa, oc, pa, pc, rfl, rfl, rfl⟩ := hx.shape
  obtain ⟨na, nc, qa, qc, ra, rc, rfl, rfl, rfl⟩ := hy.shape
  obtain ⟨R, hR⟩ : ∃ R, R = sameTx x y := ⟨_, rfl⟩
  rw [← hR]
  have HR := hid hR
  obtain ⟨N, hN⟩ : ∃ N, N = w.heap.size := ⟨_, rfl⟩
  obtain ⟨w0, hw0⟩ : ∃ w0, w0 = (w.alloc (.cells #[uv x.anchor, .slice ma x.marks.length mc, .slice oa x.outs.length oc, uv x.deposit, uv x.withdraw, uv x.fee, uv x.account, uv x.nonce, .int .i64 x.expiry, .slice pa x.proof.length pc] 101)).alloc (.cells #[uv y.anchor, .slice na y.marks.length nc, .slice qa y.outs.length qc, uv y.deposit, uv y.withdraw, uv y.fee, uv y.account, uv y.nonce, .int .i64 y.expiry, .slice ra y.proof.length rc] 101) := ⟨_, rfl⟩
  have hx0 : Ext w w0 := by rw [hw0]; exact ((Ext.refl w).alloc _).alloc _
  have hb0 : w0.heap[N]? = some (.cells #[uv x.anchor, .slice ma x.marks.length mc, .slice oa x.outs.length oc, uv x.deposit, uv x.withdraw, uv x.fee, uv x.account, uv x.nonce, .int .i64 x.expiry, .slice pa x.proof.length pc] 101 (0, 0)) := by rw [hw0, hN]; exact heap_alloc_some (heap_new _ _)
  have hb1 : w0.heap[N + 1]? = some (.cells #[uv y.anchor, .slice na y.marks.length nc, .slice qa y.outs.length qc, uv y.deposit, uv y.withdraw, uv y.fee, uv y.account, uv y.nonce, .int .i64 y.expiry, .slice ra y.proof.length rc] 101 (0, 0)) := by
    rw [hw0, hN]
    have := heap_new (w.alloc (.cells #[uv x.anchor, .slice ma x.marks.length mc, .slice oa x.outs.length oc, uv x.deposit, uv x.withdraw, uv x.fee, uv x.account, uv x.nonce, .int .i64 x.expiry, .slice pa x.proof.length pc] 101)) (.cells #[uv y.anchor, .slice na y.marks.length nc, .slice qa y.outs.length qc, uv y.deposit, uv y.withdraw, uv y.fee, uv y.account, uv y.nonce, .int .i64 y.expiry, .slice ra y.proof.length rc] 101)
    simpa using this
  have HB0 := hid hb0
  have HB1 := hid hb1
  have HW := hid hw0
  have HX0 := hid hx0
  have HX := hid hx
  have HY := hid hy
  have hol : (x.outs.length : Int) ≤ 1000 := by have := sx.o; omega
  clear hw0 hx0 hb0 hb1 hx hy sx sy hR
  obtain ⟨c0, c1, c2, c3, c4, c5, c6, c7, c8, c9⟩ := ten_cells HB0.out
  obtain ⟨d0, d1, d2, d3, d4, d5, d6, d7, d8, d9⟩ := ten_cells HB1.out
  go_enter Tryz.func123, Tryz.ntmps123
  go_upto_region 1 with fail
  rw [← HW.out, ← hN]
  clear hN
  by_cases hl : x.outs.length = y.outs.length
  case neg =>
    have hlB : ((x.outs.length : Int) != (y.outs.length : Int)) = true := by simp; omega
    have hr : R = false := by rw [HR.out]; unfold sameTx; rw [show decide (x.outs.length = y.outs.length) = false by simpa using hl]; rfl
    subst hr
    clear hl
    go_wp2_with fail
    go_ret
    exact ⟨rfl, HX0.out⟩
  have hlB : ((x.outs.length : Int) != (y.outs.length : Int)) = false := by simp; omega
  have HL := hid hl
  clear hl
  by_cases he : x.expiry = y.expiry
  case neg =>
    have heB : (x.expiry != y.expiry) = true := by simpa using he
    have hr : R = false := by rw [HR.out]; unfold sameTx; rw [show decide (x.expiry = y.expiry) = false by simpa using he]; simp
    subst hr
    clear he
    go_wp2_with fail
    go_ret
    exact ⟨rfl, HX0.out⟩
  have heB : (x.expiry != y.expiry) = false := by simpa using he
  have HE := hid he
  clear he
  go_wp2_with fail
  clear c0 c1 c2 c3 c4 c5 c6 c7 c8 c9 d0 d1 d2 d3 d4 d5 d6 d7 d8 d9
  go_loopw [5] (fun iv wr => ∃ i : Nat, i ≤ x.outs.length ∧ iv = .int .i64 i ∧ Hid (∀ (j : Nat) (u v : OutT), j < i → x.outs[j]? = some u → y.outs[j]? = some v → u.cipher.length = v.cipher.length) ∧ Hid (Ext w0 wr)) (fun iv _ => x.outs.length - (intOf iv).toNat)
  case atStart => exact ⟨0, by omega, rfl, hid (fun j u v h => by omega), hid (Ext.refl _)⟩
  case round =>
    obtain ⟨i, hi, rfl, HI, HXR⟩ := hrel
    obtain ⟨c0, c1, c2, c3, c4, c5, c6, c7, c8, c9⟩ := ten_cells (HXR.out.heap_some HB0.out)
    obtain ⟨d0, d1, d2, d3, d4, d5, d6, d7, d8, d9⟩ := ten_cells (HXR.out.heap_some HB1.out)
    by_cases hlt : i < x.outs.length
    · have hltB : decide ((i : Int) < (x.outs.length : Int)) = true := by simp; omega
      have hi0 : (0 : Int) ≤ (i : Int) := Int.natCast_nonneg _
      have hil : (i : Int) < (x.outs.length : Int) := by omega
      have hil2 : (i : Int) < (y.outs.length : Int) := by have := HL.out; omega
      obtain ⟨u, hu⟩ : ∃ u, x.outs[i]? = some u := ⟨_, List.getElem?_eq_getElem hlt⟩
      obtain ⟨v, hv⟩ : ∃ v, y.outs[i]? = some v := ⟨_, List.getElem?_eq_getElem (by have := HL.out; omega)⟩
      obtain ⟨b, q, ca, cc, rfl, -, -, -, e3, -⟩ := (HX.out.o.ext (HX0.out.trans HXR.out)).at hu
      obtain ⟨b', q', ca', cc', rfl, -, -, -, f3, -⟩ := (HY.out.o.ext (HX0.out.trans HXR.out)).at hv
      have HUV := hid (And.intro hu hv)
      have HCC : Hid (∀ z, Ext wr z → (z.cell? ⟨N, 2, none⟩ = some (.slice (some ⟨b, q, none⟩) x.outs.length oc) ∧ z.cell? ⟨N + 1, 2, none⟩ = some (.slice (some ⟨b', q', none⟩) y.outs.length qc) ∧ z.cell? ⟨b, q + i * 4 + 2, none⟩ = some (uv u.p.b) ∧ z.cell? ⟨b, q + i * 4 + 3, none⟩ = some (.slice ca u.cipher.length cc) ∧ z.cell? ⟨b', q' + i * 4 + 3, none⟩ = some (.slice ca' v.cipher.length cc'))) := hid fun z k => by
        obtain ⟨b2, q2, ca2, cc2, he2, -, -, g2, -, -⟩ := (HX.out.o.ext (HX0.out.trans HXR.out)).at hu
        injection he2 with he2
        injection he2 with h1 h2
        subst h1 h2
        exact ⟨k.cell_some c2, k.cell_some d2, k.cell_some g2, k.cell_some e3, k.cell_some f3⟩
      clear hu hv e3 f3
      go_wp2_with fail
      clear c0 c1 c2 c3 c4 c5 c6 c7 c8 c9 d0 d1 d2 d3 d4 d5 d6 d7 d8 d9
      refine wp_region_T (fun z => (z.cell? ⟨N, 2, none⟩ = some (.slice (some ⟨b, q, none⟩) x.outs.length oc) ∧ z.cell? ⟨N + 1, 2, none⟩ = some (.slice (some ⟨b', q', none⟩) y.outs.length qc) ∧ z.cell? ⟨b, q + i * 4 + 2, none⟩ = some (uv u.p.b) ∧ z.cell? ⟨b, q + i * 4 + 3, none⟩ = some (.slice ca u.cipher.length cc) ∧ z.cell? ⟨b', q' + i * 4 + 3, none⟩ = some (.slice ca' v.cipher.length cc')) ∧ Ext wr z) 14 [(0, true), (1, true), (2, true), (3, true), (4, true), (5, true), (6, true), (7, true), (8, true), (9, true), (10, true), (11, true), (12, true), (13, true), (14, false)] (by kernel_rfl) (by kernel_rfl) (by intro c a d v w h; cases d <;> exact h) ?_
      intro ops hops
      have HSS := keep0 HCC.out
      iterate 14
        refine wpT_take (v := ?_) (by rw [hops, List.getElem?_toArray]; rfl) (by first | rfl | (rw [hops]; rfl)) ?_ HSS ?_
        rotate_left
        · intro v h; go_simp; with_reducible rfl
        simp only [Act.put, List.getElem_toArray, List.getElem_cons_zero, List.getElem_cons_succ, List.setIfInBounds_toArray, List.set_cons_zero, List.set_cons_succ]
      clear HSS
      by_cases huv : u.cipher.length = v.cipher.length
      · have huB : ((u.cipher.length : Int) != (v.cipher.length : Int)) = false := by simp; omega
        have HN2 : Hid (∀ (j : Nat) (u v : OutT), j < i + 1 → x.outs[j]? = some u → y.outs[j]? = some v → u.cipher.length = v.cipher.length) := hid fun j u' v' hj hu' hv' => by
          by_cases hji : j = i
          · subst hji
            rw [HUV.out.1] at hu'
            rw [HUV.out.2] at hv'
            injection hu' with hu'
            injection hv' with hv'
            rw [← hu', ← hv']; exact huv
          · exact HI.out j u' v' (by omega) hu' hv'
        have HXD := hid HXR.out.drew
        clear huv
        refine wpT_step (by rw [hops, List.getElem?_toArray]; rfl) (by first | rfl | (rw [hops]; rfl)) ?_
        intro K hK
        go_wp2_with fail
        try (with_reducible refine ⟨fun h => absurd h (by decide), ?_⟩)
        try rw [wpT_nil]
        try clear hops ops
        go_wp2_with fail
        go_roundw
        case rel => exact ⟨i + 1, by omega, by go_num, HN2, HXD⟩
        case measure => simp [intOf]; omega
      · have huB : ((u.cipher.length : Int) != (v.cipher.length : Int)) = true := by simp; omega
        have hr : R = false := by
          rw [HR.out]; unfold sameTx
          rw [sameCi_at HUV.out.1 HUV.out.2 huv]; simp
        subst hr
        clear huv
        refine wpT_step (by rw [hops, List.getElem?_toArray]; rfl) (by first | rfl | (rw [hops]; rfl)) ?_
        intro K hK
        go_wp2_with fail
        try (with_reducible refine ⟨fun h => absurd h (by decide), ?_⟩)
        try rw [wpT_nil]
        try clear hops ops
        go_wp2_with fail
        go_ret
        exact ⟨rfl, (HX0.out.trans HXR.out).drew⟩
    · have hie : i = x.outs.length := by omega
      subst hie
      have hltB : decide ((x.outs.length : Int) < (x.outs.length : Int)) = false := by simp
      have HR2 : Hid (R = decide (txB x = txB y)) := hid (by
        rw [HR.out]; unfold sameTx
        rw [show decide (x.outs.length = y.outs.length) = true by simpa using HL.out, show decide (x.expiry = y.expiry) = true by simpa using HE.out, sameCi_all HL.out (fun j u v hu hv => HI.out j u v (List.getElem?_eq_some_iff.1 hu).1 hu hv)]
        simp)
      have HCC : Hid (∀ z, Ext wr z → (z.cell? ⟨N, 0, none⟩ = some (uv x.anchor) ∧ z.cell? ⟨N, 1, none⟩ = some (.slice ma x.marks.length mc) ∧ z.cell? ⟨N, 2, none⟩ = some (.slice oa x.outs.length oc) ∧ z.cell? ⟨N, 3, none⟩ = some (uv x.deposit) ∧ z.cell? ⟨N, 4, none⟩ = some (uv x.withdraw) ∧ z.cell? ⟨N, 5, none⟩ = some (uv x.fee) ∧ z.cell? ⟨N, 6, none⟩ = some (uv x.account) ∧ z.cell? ⟨N, 7, none⟩ = some (uv x.nonce) ∧ z.cell? ⟨N, 8, none⟩ = some (.int .i64 x.expiry) ∧ z.cell? ⟨N, 9, none⟩ = some (.slice pa x.proof.length pc)) ∧ (z.cell? ⟨N + 1, 0, none⟩ = some (uv y.anchor) ∧ z.cell? ⟨N + 1, 1, none⟩ = some (.slice na y.marks.length nc) ∧ z.cell? ⟨N + 1, 2, none⟩ = some (.slice qa y.outs.length qc) ∧ z.cell? ⟨N + 1, 3, none⟩ = some (uv y.deposit) ∧ z.cell? ⟨N + 1, 4, none⟩ = some (uv y.withdraw) ∧ z.cell? ⟨N + 1, 5, none⟩ = some (uv y.fee) ∧ z.cell? ⟨N + 1, 6, none⟩ = some (uv y.account) ∧ z.cell? ⟨N + 1, 7, none⟩ = some (uv y.nonce) ∧ z.cell? ⟨N + 1, 8, none⟩ = some (.int .i64 y.expiry) ∧ z.cell? ⟨N + 1, 9, none⟩ = some (.slice ra y.proof.length rc))) := hid fun z k => ⟨ten_cells ((HXR.out.trans k).heap_some HB0.out), ten_cells ((HXR.out.trans k).heap_some HB1.out)⟩
      go_wp2_with fail
      clear c0 c1 c2 c3 c4 c5 c6 c7 c8 c9 d0 d1 d2 d3 d4 d5 d6 d7 d8 d9
      refine wp_region_T (fun z => ((z.cell? ⟨N, 0, none⟩ = some (uv x.anchor) ∧ z.cell? ⟨N, 1, none⟩ = some (.slice ma x.marks.length mc) ∧ z.cell? ⟨N, 2, none⟩ = some (.slice oa x.outs.length oc) ∧ z.cell? ⟨N, 3, none⟩ = some (uv x.deposit) ∧ z.cell? ⟨N, 4, none⟩ = some (uv x.withdraw) ∧ z.cell? ⟨N, 5, none⟩ = some (uv x.fee) ∧ z.cell? ⟨N, 6, none⟩ = some (uv x.account) ∧ z.cell? ⟨N, 7, none⟩ = some (uv x.nonce) ∧ z.cell? ⟨N, 8, none⟩ = some (.int .i64 x.expiry) ∧ z.cell? ⟨N, 9, none⟩ = some (.slice pa x.proof.length pc)) ∧ (z.cell? ⟨N + 1, 0, none⟩ = some (uv y.anchor) ∧ z.cell? ⟨N + 1, 1, none⟩ = some (.slice na y.marks.length nc) ∧ z.cell? ⟨N + 1, 2, none⟩ = some (.slice qa y.outs.length qc) ∧ z.cell? ⟨N + 1, 3, none⟩ = some (uv y.deposit) ∧ z.cell? ⟨N + 1, 4, none⟩ = some (uv y.withdraw) ∧ z.cell? ⟨N + 1, 5, none⟩ = some (uv y.fee) ∧ z.cell? ⟨N + 1, 6, none⟩ = some (uv y.account) ∧ z.cell? ⟨N + 1, 7, none⟩ = some (uv y.nonce) ∧ z.cell? ⟨N + 1, 8, none⟩ = some (.int .i64 y.expiry) ∧ z.cell? ⟨N + 1, 9, none⟩ = some (.slice ra y.proof.length rc))) ∧ Ext wr z) 3 [(0, true), (2, true), (1, false), (3, false), (4, false), (5, false)] (by kernel_rfl) (by kernel_rfl) (by intro c a d v w h; cases d <;> exact h) ?_
      intro ops hops
      have HSS := keep0 HCC.out
      iterate 2
        refine wpT_take (v := ?_) (by rw [hops, List.getElem?_toArray]; rfl) (by first | rfl | (rw [hops]; rfl)) ?_ HSS ?_
        rotate_left
        · intro v h; go_simp; with_reducible rfl
        simp only [Act.put, List.getElem_toArray, List.getElem_cons_zero, List.getElem_cons_succ, List.setIfInBounds_toArray, List.set_cons_zero, List.set_cons_succ]
      refine wpT_step (by rw [hops, List.getElem?_toArray]; rfl) (by first | rfl | (rw [hops]; rfl)) ?_
      intro K hK
      go_wp2_with fail
      refine (HEX.out _ ((HX0.out.trans HXR.out).drew)).mono ?_
      rintro e u1 ⟨v1, rfl, h1, h2, -⟩
      have HSS1 := keepE HCC.out HSS h2
      have HF1 := hid h1
      obtain ⟨sa1, sc1, hv1, -⟩ := ownsRow_rd h1
      subst hv1
      clear h1 h2 HSS
      refine hK _ _ ⟨fun _ => HSS1, ?_⟩
      clear hK K
      refine wpT_step (by rw [hops, List.getElem?_toArray]; rfl) (by first | rfl | (rw [hops]; rfl)) ?_
      intro K hK
      go_wp2_with fail
      refine (HEY.out _ ((HX0.out.trans HXR.out).trans HSS1.2)).mono ?_
      rintro e u2 ⟨v2, rfl, h1, h2, -⟩
      have HF2 := hid h1
      have HF12 := hid (ownsRow_ext HF1.out h2)
      have HXU := hid ((HX0.out.trans HXR.out).trans (HSS1.2.trans h2))
      obtain ⟨sa2, sc2, hv2, -⟩ := ownsRow_rd h1
      subst hv2
      clear h1 h2 HSS1
      refine hK _ _ ⟨fun h => absurd h (by decide), ?_⟩
      clear hK K
      refine wpT_step (by rw [hops, List.getElem?_toArray]; rfl) (by first | rfl | (rw [hops]; rfl)) ?_
      intro K hK
      go_wp2_with fail
      refine (SameB_any _ _ (txB x) (txB y) _ (OwnB.weak HF12.out) (OwnB.weak HF2.out) (by have := HLX.out; omega)).mono ?_
      rintro e u3 ⟨rfl, hx⟩
      rw [← HR2.out]
      have HXV := hid (HXU.out.trans hx)
      clear hx
      refine hK _ _ ⟨fun h => absurd h (by decide), ?_⟩
      clear hK K
      refine wpT_step (by rw [hops, List.getElem?_toArray]; rfl) (by first | rfl | (rw [hops]; rfl)) ?_
      intro K hK
      go_wp2_with fail
      try (with_reducible refine ⟨fun h => absurd h (by decide), ?_⟩)
      try rw [wpT_nil]
      try clear hops ops
      go_wp2_with fail
      go_ret
      exact ⟨rfl, HXV.out⟩
end Go.Proofs.YtcikjcjfcanloaaGreat
namespace Go.Proofs.YtcikjcjfcanloaaGreat
open Go.RowKit
attribute [local irreducible] perm fAdd fMul fPow fSub fNeg fRed hashU
def ciSm (o : OutT) : Bool := decide (o.cipher.length ≤ 10)
def smTx (t : TxT) (n : Nat) : Bool := t.outs.all ciSm && (decide (t.marks.length ≤ 10) && (decide (t.outs.length ≤ 10) && decide (t.proof.length ≤ n)))
theorem smTx_sm {t : TxT} {n : Nat} (hn : n ≤ 1000) (h : smTx t n = true) : TSm t ∧ t.proof.length ≤ 10000 := by
  unfold smTx ciSm at h
  simp only [Bool.and_eq_true, decide_eq_true_eq, List.all_eq_true] at h
  obtain ⟨h1, h2, h3, h4⟩ := h
  exact ⟨⟨by omega, by omega, fun o ho => by have := h1 o ho; omega, by omega⟩, by omega⟩
def bigN (n : Nat) : Prop := (n : Int) ≤ 9223372036854775807
set_option maxRecDepth 100000 in
set_option maxHeartbeats 3200000 in
theorem smTx_any (t : TxT) (mv ov pv : Value) (n : Nat) (w : World) (h : RdT w t mv ov pv) :
    Calls Tryz.prog 59 #[txVal t mv ov pv, .int .i64 (n : Int)] w fun e w' => e = .returned (.bool (smTx t n)) ∧ Ext w w' := by
  obtain ⟨oa0, oc0, ho0, hoc1, hoc2⟩ := h.o.shape
  have HOL : Hid (bigN t.outs.length) := hid (by unfold bigN; unfold maxLen at hoc2; omega)
  obtain ⟨ma, mc, oa, oc, pa, pc, rfl, rfl, rfl⟩ := h.shape
  obtain ⟨R, hR⟩ : ∃ R, R = smTx t n := ⟨_, rfl⟩
  rw [← hR]
  have HR := hid hR
  have HH := hid h
  obtain ⟨N, hN⟩ : ∃ N, N = w.heap.size := ⟨_, rfl⟩
  obtain ⟨w0, hw0⟩ : ∃ w0, w0 = w.alloc (.cells #[uv t.anchor, .slice ma t.marks.length mc, .slice oa t.outs.length oc, uv t.deposit, uv t.withdraw, uv t.fee, uv t.account, uv t.nonce, .int .i64 t.expiry, .slice pa t.proof.length pc] 101) := ⟨_, rfl⟩
  have hx0 : Ext w w0 := by rw [hw0]; exact (Ext.refl w).alloc _
  have hb0 : w0.heap[N]? = some (.cells #[uv t.anchor, .slice ma t.marks.length mc, .slice oa t.outs.length oc, uv t.deposit, uv t.withdraw, uv t.fee, uv t.account, uv t.nonce, .int .i64 t.expiry, .slice pa t.proof.length pc] 101 (0, 0)) := by rw [hw0, hN]; exact heap_new _ _
  have HB := hid hb0
  have HW := hid hw0
  have HX0 := hid hx0
  have b1 : decide ((t.marks.length : Int) ≤ 10) = decide (t.marks.length ≤ 10) := by rw [decide_eq_decide]; omega
  have b2 : decide ((t.outs.length : Int) ≤ 10) = decide (t.outs.length ≤ 10) := by rw [decide_eq_decide]; omega
  obtain ⟨pl, hpl⟩ : ∃ pl, decide (t.proof.length ≤ n) = pl := ⟨_, rfl⟩
  clear hw0 hx0 hb0 h hR ho0 hoc1 hoc2
  obtain ⟨c0, c1, c2, c3, c4, c5, c6, c7, c8, c9⟩ := ten_cells HB.out
  go_enter Tryz.func59, Tryz.ntmps59
  go_upto_region 1 with fail
  rw [← HW.out, ← hN]
  clear hN
  go_wp2_with fail
  go_loop [5] (fun iv => ∃ i : Nat, i ≤ t.outs.length ∧ iv = .int .i64 i ∧ Hid ((t.outs.take i).all ciSm = true)) (fun iv => t.outs.length - (intOf iv).toNat)
  case atStart => exact ⟨0, by omega, rfl, hid rfl⟩
  case round =>
    obtain ⟨i, hi, rfl, HI⟩ := hrel
    by_cases hlt : i < t.outs.length
    · have hltB : decide ((i : Int) < (t.outs.length : Int)) = true := by simp; omega
      obtain ⟨x, hxi⟩ : ∃ x, t.outs[i]? = some x := ⟨_, List.getElem?_eq_getElem hlt⟩
      obtain ⟨b, q, ca, cc, rfl, -, -, -, e3, -⟩ := (HH.out.o.ext HX0.out).at hxi
      have hi0 : (0 : Int) ≤ (i : Int) := Int.natCast_nonneg _
      have hil : (i : Int) < (t.outs.length : Int) := by omega
      have HXI := hid hxi
      clear hxi
      by_cases hc : x.cipher.length ≤ 10
      · have hcB : decide ((10 : Int) < (x.cipher.length : Int)) = false := by simp; omega
        have HN : Hid ((t.outs.take (i + 1)).all ciSm = true) := hid (all_snoc HXI.out HI.out (by unfold ciSm; simpa using hc))
        have HWR : Hid (wrap64 ((i : Int) + 1) = ((i + 1 : Nat) : Int)) := hid (by
          have := HOL.out
          unfold bigN at this
          unfold wrap64
          omega)
        clear hc
        go_wp2_with fail
        go_round
        case rel => exact ⟨i + 1, by omega, by rw [HWR.out], HN⟩
        case measure => rw [HWR.out]; simp [intOf]; omega
      · have hcB : decide ((10 : Int) < (x.cipher.length : Int)) = true := by simp; omega
        have hr : R = false := by rw [HR.out]; unfold smTx; rw [all_bad HXI.out (by unfold ciSm; simpa using hc)]; rfl
        subst hr
        clear hc
        go_wp2_with fail
        go_ret
        exact ⟨rfl, HX0.out⟩
    · have hie : i = t.outs.length := by omega
      subst hie
      have hltB : decide ((t.outs.length : Int) < (t.outs.length : Int)) = false := by simp
      have HR2 : Hid (R = (decide (t.marks.length ≤ 10) && (decide (t.outs.length ≤ 10) && pl))) := hid (by
        have h1 := HI.out
        rw [List.take_length] at h1
        rw [HR.out]; unfold smTx
        rw [h1, hpl, Bool.true_and])
      generalize decide (t.marks.length ≤ 10) = d1 at *
      generalize decide (t.outs.length ≤ 10) = d2 at *
      cases d1 with
      | false =>
        have hr : R = false := HR2.out
        subst hr
        go_wp2_with fail
        go_ret
        exact ⟨rfl, HX0.out⟩
      | true =>
        cases d2 with
        | false =>
          have hr : R = false := HR2.out
          subst hr
          go_wp2_with fail
          go_ret
          exact ⟨rfl, HX0.out⟩
        | true =>
          have hr : R = pl := HR2.out
          subst hr
          go_wp2_with fail
          go_ret
          exact ⟨rfl, HX0.out⟩
end Go.Proofs.YtcikjcjfcanloaaGreat
namespace Go.Proofs.YtcikjcjfcanloaaGreat
open Go.RowKit
attribute [local irreducible] perm fAdd fMul fPow fSub fNeg fRed hashU drawOf nextState
def rl49 (d : Int) : Rl := ⟨2, d, 0, 0, 0, 50, 10, 10, 1⟩
set_option maxRecDepth 100000 in
set_option maxHeartbeats 6400000 in
theorem txRules49_any (d : Nat) (h1 : 1 ≤ d) (h12 : d ≤ 12) (w : World) : Calls Tryz.prog 66 #[rlVal (rl49 d)] w fun e w' => e = .returned (.int .i64 0) ∧ Ext w w' := by
  have hd1 : decide ((1 : Int) ≤ (d : Int)) = true := decide_eq_true (by omega)
  have hd2 : decide ((d : Int) ≤ 12) = true := decide_eq_true (by omega)
  have hd3 : decide ((d : Int) < 1) = false := decide_eq_false (by omega)
  have hd4 : decide ((12 : Int) < (d : Int)) = false := decide_eq_false (by omega)
  obtain ⟨N, hN⟩ : ∃ N, N = w.heap.size := ⟨_, rfl⟩
  obtain ⟨w0, hw0⟩ : ∃ w0, w0 = w.alloc (.cells #[.int .i64 2, .int .i64 (d : Int), .int .i64 0, .int .i64 0, .int .i64 0, .int .u64 50, .int .i64 10, .int .i64 10, .int .u64 1] 45) := ⟨_, rfl⟩
  have hx0 : Ext w w0 := by rw [hw0]; exact (Ext.refl w).alloc _
  have hb0 : w0.heap[N]? = some (.cells #[.int .i64 2, .int .i64 (d : Int), .int .i64 0, .int .i64 0, .int .i64 0, .int .u64 50, .int .i64 10, .int .i64 10, .int .u64 1] 45 (0, 0)) := by rw [hw0, hN]; exact heap_new _ _
  have HX0 := hid hx0
  have HW := hid hw0
  obtain ⟨c0, c1, c2, c3, c4, c5, c6, c7, c8⟩ := nine_cells hb0
  show Calls Tryz.prog 66 #[.agg #[.int .i64 2, .int .i64 (d : Int), .int .i64 0, .int .i64 0, .int .i64 0, .int .u64 50, .int .i64 10, .int .i64 10, .int .u64 1]] w fun e w' => e = .returned (.int .i64 0) ∧ Ext w w'
  clear hw0 hx0 hb0
  go_enter Tryz.func66, Tryz.ntmps66
  go_upto_region 1 with fail
  rw [← HW.out, ← hN]
  clear hN HW
  go_wp2_with fail
  go_ret
  exact ⟨rfl, HX0.out⟩
end Go.Proofs.YtcikjcjfcanloaaGreat
