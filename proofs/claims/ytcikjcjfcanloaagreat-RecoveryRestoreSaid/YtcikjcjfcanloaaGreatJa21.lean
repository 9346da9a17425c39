/- Texts of this claim, joined: RW7, TxSame, TxSmall, L49a, L49b, Grow. -/
import Derived.ArgAppend
import Derived.Test.YtcikjcjfcanloaaGreatJa3
import Derived.Test.YtcikjcjfcanloaaGreatJa15
import Derived.Test.YtcikjcjfcanloaaGreatJa20
set_option linter.unusedSimpArgs false
namespace Go.Proofs.YtcikjcjfcanloaaGreat
open Go.RowKit
attribute [local irreducible] perm fAdd fMul fPow fSub fNeg fRed hashU drawOf nextState cipSeal
theorem catW_take {l : List UInt64} {k : Nat} {x : UInt64} (h : l[k]? = some x) : cat (l.take (k + 1)) = cat (l.take k) ++ leB 8 x := by
  rw [List.take_add_one, h]
  simp [cat]
def catI (l : List Nat) : List UInt8 := l.flatMap fun (n : Nat) => lenB (n : Int)
theorem catI_take {l : List Nat} {k : Nat} {x : Nat} (h : l[k]? = some x) : catI (l.take (k + 1)) = catI (l.take k) ++ lenB (x : Int) := by
  unfold catI
  rw [List.take_add_one, h]
  simp
theorem catI_length (l : List Nat) : (catI l).length = 4 * l.length := by
  induction l with
  | nil => rfl
  | cons x r ih =>
    unfold catI at ih ⊢
    rw [List.flatMap_cons, List.length_append, lenB_length, ih, List.length_cons]
    omega
theorem owB_cat (x : OwT) : owB x = cat [x.note.value, x.note.owner, x.note.rho, x.note.blind] ++ catI [x.number, x.pos, x.height, x.spent] := by
  unfold owB cat catI
  simp
theorem four_I {w : World} {g a b c d : Nat} {T : TypeId} (h : w.heap[g]? = some (.cells #[.int .i64 (a : Int), .int .i64 (b : Int), .int .i64 (c : Int), .int .i64 (d : Int)] T (0, 0))) {k x : Nat} (hk : [a, b, c, d][k]? = some x) : w.cell? ⟨g, k, none⟩ = some (.int .i64 (x : Int)) := by
  rw [cell_of h]
  match k, hk with
  | 0, hk => simp at hk; subst hk; rfl
  | 1, hk => simp at hk; subst hk; rfl
  | 2, hk => simp at hk; subst hk; rfl
  | 3, hk => simp at hk; subst hk; rfl
theorem four_U {w : World} {g : Nat} {a b c d : UInt64} {T : TypeId} (h : w.heap[g]? = some (.cells #[uv a, uv b, uv c, uv d] T (0, 0))) {k : Nat} {x : UInt64} (hk : [a, b, c, d][k]? = some x) : w.cell? ⟨g, k, none⟩ = some (uv x) := by
  rw [cell_of h]
  match k, hk with
  | 0, hk => simp at hk; subst hk; rfl
  | 1, hk => simp at hk; subst hk; rfl
  | 2, hk => simp at hk; subst hk; rfl
  | 3, hk => simp at hk; subst hk; rfl
set_option maxRecDepth 100000 in
set_option maxHeartbeats 12800000 in
theorem rEncodeW_any (seed : UInt64) (v : Value) (l : List BlkT) (w : World) (h : RdBs w w v l) (hl : l.length ≤ 1000) (hs : ∀ b ∈ l, BSm b) (hv : ∀ b ∈ l, ∀ t ∈ b.txs, txV t = 0) (hLn : (stW seed l).leaves.length ≤ 10000) :
    Calls Tryz.prog 40 #[uv seed, v] w (NewB w (walB l.length (stW seed l).leaves (stW seed l).notes)) := by
  have SC := hid (rScan_any seed v l w h hl hs hv)
  have LV : Hid (∀ u, Ext w u → Calls Tryz.prog 32 #[v] u fun e w' => ∃ x, e = .returned x ∧ FrU u w' x (leavesW l)) := hid fun u k => rLeaves_any _ l u ((h.ext k).old k) hl hs
  rw [← stW_leaves seed] at LV
  have hnn := (stW_ok seed l).n
  simp only at hnn
  obtain ⟨ns, hns⟩ : ∃ ns, ns = (stW seed l).notes := ⟨_, rfl⟩
  obtain ⟨L, hL⟩ : ∃ L, L = (stW seed l).leaves := ⟨_, rfl⟩
  rw [← hns, ← hL] at hnn
  rw [← hns] at SC ⊢
  rw [← hL] at LV hLn ⊢
  clear hns hL hs hv
  obtain ⟨la, lc, rfl, -⟩ := h.shape
  have HLL := hid hLn
  have HNL : Hid (ns.length ≤ 10000) := hid (by omega)
  have hnI : (ns.length : Int) ≤ 10000 := by omega
  obtain ⟨i0, hi, hz0, hz1, hz2⟩ := info_parts Tryz.infoB
  have HI0 := hid (And.intro hi (And.intro hz0 (And.intro hz1 hz2)))
  clear h hl hnn hLn hi hz0 hz1 hz2
  generalize l.length = n at *
  go_enter Tryz.func40, Tryz.ntmps40
  go_wp2_with fail
  refine (SC.out).mono ?_
  rintro e w1 ⟨u1, rfl, hf1⟩
  have N1 := hid hf1
  obtain ⟨na, nc, rfl, -⟩ := ownsRow_rd hf1.1
  clear hf1 SC
  go_wp2_with fail
  refine (rLen_any (n : Int) w1).mono ?_
  rintro e w2 ⟨v2, rfl, ho, hx, hn2⟩
  have F2 : Hid (FrB w1 w2 v2 (lenB (n : Int))) := hid ⟨ho, hx, hn2⟩
  obtain ⟨sa2, sc2, rfl⟩ := F2.out.sl
  clear ho hx hn2
  go_wp2_with fail
  refine (LV.out _ (N1.out.2.1.trans F2.out.2.1)).mono ?_
  rintro e w3 ⟨u3, rfl, hf3⟩
  have HF3 := hid hf3
  have F3 := hid (F2.out.ext hf3.2.1)
  obtain ⟨ua, uc, rfl, -⟩ := ownsRow_rd hf3.1
  clear hf3 LV F2
  go_wp2_with fail
  refine (rList_any _ L w3 (ownsRow_rd HF3.out.1).weak (by have := HLL.out; omega)).mono ?_
  rintro e w4 ⟨v4, rfl, ho, hx, hn4⟩
  have O4 := hid ho
  have F4 := hid (F3.out.ext hx)
  obtain ⟨ba, bc, rfl, -⟩ := ownsRow_rd ho
  clear ho hx hn4 F3 HF3
  obtain ⟨B1, hB1⟩ : ∃ B, B = listB L := ⟨_, rfl⟩
  rw [← hB1] at O4 ⊢
  have HB1 := hid hB1
  have HBL : Hid (B1.length ≤ 100000) := hid (by rw [hB1, listB_length]; have := HLL.out; omega)
  clear hB1
  obtain ⟨A1, hA1⟩ : ∃ A, A = lenB (n : Int) := ⟨_, rfl⟩
  rw [← hA1] at F4 ⊢
  have HA1 := hid hA1
  have HAL : Hid (A1.length ≤ 4) := hid (by rw [hA1, lenB_length]; omega)
  clear hA1
  go_wp2_with (at_builtin; refine wpList_app rfl _ _ 69 rfl 5 i0 (.int .u8 0) 1 1 Tryz.underlying69 HI0.out.1 HI0.out.2.1 HI0.out.2.2.1 HI0.out.2.2.2 rfl (by decide) _ A1.length (bs A1) rfl F4.out.1 _ B1.length (bs B1) rfl (ownsRow_rd O4.out) (by rw [List.length_map, Nat.mul_one]) (bs_one _) (by have := HAL.out; have := HBL.out; unfold maxLen; omega) (by have := HAL.out; have := HBL.out; omega) ?_)
  intro v5 w5 hown hk hb
  have F5 := hid (F4.out.app (m := B1) hown hk hb rfl rfl)
  obtain ⟨a5, c5, rfl⟩ := F5.out.sl
  clear hown hk hb F4 O4
  obtain ⟨C1, hC⟩ : ∃ C, C = A1 ++ B1 := ⟨_, rfl⟩
  rw [← hC] at F5 ⊢
  have HC1 := hid hC
  have HLC1 : Hid (C1.length ≤ 200000) := hid (by rw [hC, List.length_append]; have := HAL.out; have := HBL.out; omega)
  clear hC
  go_wp2_with fail
  refine (rLen_any (ns.length : Int) w5).mono ?_
  rintro e w6 ⟨v6, rfl, ho, hx, -⟩
  have O6 := hid ho
  have F6 := hid (F5.out.ext hx)
  obtain ⟨ba, bc, rfl, -⟩ := ownsRow_rd ho
  clear ho hx F5
  obtain ⟨B2, hB2⟩ : ∃ B, B = lenB (ns.length : Int) := ⟨_, rfl⟩
  rw [← hB2] at O6 ⊢
  have HB2 := hid hB2
  have HBL2 : Hid (B2.length ≤ 4) := hid (by rw [hB2, lenB_length]; omega)
  clear hB2
  go_wp2_with (at_builtin; refine wpList_app rfl _ _ 69 rfl 5 i0 (.int .u8 0) 1 1 Tryz.underlying69 HI0.out.1 HI0.out.2.1 HI0.out.2.2.1 HI0.out.2.2.2 rfl (by decide) _ C1.length (bs C1) rfl F6.out.1 _ B2.length (bs B2) rfl (ownsRow_rd O6.out) (by rw [List.length_map, Nat.mul_one]) (bs_one _) (by have := HLC1.out; have := HBL2.out; unfold maxLen; omega) (by have := HLC1.out; have := HBL2.out; omega) ?_)
  intro v7 w7 hown hk hb
  have F7 := hid (F6.out.app (m := B2) hown hk hb rfl rfl)
  obtain ⟨a7, c7, rfl⟩ := F7.out.sl
  clear hown hk hb F6 O6
  obtain ⟨C2, hC⟩ : ∃ C, C = C1 ++ B2 := ⟨_, rfl⟩
  rw [← hC] at F7 ⊢
  have HC2 := hid hC
  have HLC2 : Hid (C2.length ≤ 300000) := hid (by rw [hC, List.length_append]; have := HLC1.out; have := HBL2.out; omega)
  clear hC
  go_wp2_with fail
  go_loopw [6, 7] (fun bv iv wr => ∃ i : Nat, i ≤ ns.length ∧ iv = .int .i64 i ∧ Hid (FrB w1 wr bv (C2 ++ owsB (ns.take i)))) (fun _ iv _ => ns.length - (intOf iv).toNat)
  case atStart => exact ⟨0, by omega, rfl, hid (by simpa [owsB] using F7.out)⟩
  case round =>
    clear F7
    obtain ⟨i, hi, rfl, HI⟩ := hrel
    have hi0 : (0 : Int) ≤ (i : Int) := Int.natCast_nonneg _
    by_cases hlt : i < ns.length
    · have hltB : decide ((i : Int) < (ns.length : Int)) = true := by simp; omega
      have hil : (i : Int) < (ns.length : Int) := by omega
      obtain ⟨x, hxi⟩ : ∃ x, ns[i]? = some x := ⟨_, List.getElem?_eq_getElem hlt⟩
      obtain ⟨g, rfl⟩ : ∃ g, na = some ⟨g, 0, none⟩ := own_shape N1.out.1 (by omega)
      have hrow : ∀ j u, j < 8 → (owCells x)[j]? = some u → wr.cell? ⟨g, i * 8 + j, none⟩ = some u := by
        obtain ⟨b, o, e, hc⟩ := rows_at owCells_len (by omega) rfl (ownsRow_rd (ownsRow_ext N1.out.1 HI.out.2.1)).weak hxi
        injection e with e
        injection e with e1 e2
        subst e1 e2
        intro j u hj hu
        have := hc j u hj hu
        rwa [Nat.zero_add] at this
      have f0 : wr.cell? ⟨g, i * 8, none⟩ = some (uv x.note.value) := hrow 0 _ (by omega) rfl
      have f1 : wr.cell? ⟨g, i * 8 + 1, none⟩ = some (uv x.note.owner) := hrow 1 _ (by omega) rfl
      have f2 : wr.cell? ⟨g, i * 8 + 2, none⟩ = some (uv x.note.rho) := hrow 2 _ (by omega) rfl
      have f3 : wr.cell? ⟨g, i * 8 + 3, none⟩ = some (uv x.note.blind) := hrow 3 _ (by omega) rfl
      have f4 : wr.cell? ⟨g, i * 8 + 4, none⟩ = some (.int .i64 (x.number : Int)) := hrow 4 _ (by omega) rfl
      have f5 : wr.cell? ⟨g, i * 8 + 5, none⟩ = some (.int .i64 (x.pos : Int)) := hrow 5 _ (by omega) rfl
      have f6 : wr.cell? ⟨g, i * 8 + 6, none⟩ = some (.int .i64 (x.height : Int)) := hrow 6 _ (by omega) rfl
      have f7 : wr.cell? ⟨g, i * 8 + 7, none⟩ = some (.int .i64 (x.spent : Int)) := hrow 7 _ (by omega) rfl
      have HSN : Hid (C2 ++ owsB (ns.take (i + 1)) = (C2 ++ owsB (ns.take i)) ++ (cat [x.note.value, x.note.owner, x.note.rho, x.note.blind] ++ catI [x.number, x.pos, x.height, x.spent])) := hid (by rw [owsB_snoc hxi, List.append_assoc, owB_cat])
      obtain ⟨C0, hC0⟩ : ∃ C, C = C2 ++ owsB (ns.take i) := ⟨_, rfl⟩
      rw [← hC0] at HI HSN
      have HN0 : Hid (C0.length ≤ 1000000) := hid (by rw [hC0, List.length_append, owsB_length, List.length_take]; have := HLC2.out; have := HNL.out; omega)
      clear hrow hxi hC0
      obtain ⟨n0, hn0⟩ : ∃ n, n = x.note.value := ⟨_, rfl⟩
      obtain ⟨n1, hn1⟩ : ∃ n, n = x.note.owner := ⟨_, rfl⟩
      obtain ⟨n2, hn2⟩ : ∃ n, n = x.note.rho := ⟨_, rfl⟩
      obtain ⟨n3, hn3⟩ : ∃ n, n = x.note.blind := ⟨_, rfl⟩
      rw [← hn0, ← hn1, ← hn2, ← hn3] at HSN
      rw [← hn0] at f0
      rw [← hn1] at f1
      rw [← hn2] at f2
      rw [← hn3] at f3
      clear hn0 hn1 hn2 hn3
      go_upto_region 9 with fail
      obtain ⟨P, hP⟩ : ∃ P, P = wr.heap.size := ⟨_, rfl⟩
      obtain ⟨x0, hx0⟩ : ∃ u, u = wr.alloc (.cells #[uv n0, uv n1, uv n2, uv n3, .int .i64 (x.number : Int), .int .i64 (x.pos : Int), .int .i64 (x.height : Int), .int .i64 (x.spent : Int)] 39) := ⟨_, rfl⟩
      rw [← hx0, ← hP]
      have hy0 : Ext wr x0 := by rw [hx0]; exact (Ext.refl wr).alloc _
      have hbo : x0.heap[P]? = some (.cells #[uv n0, uv n1, uv n2, uv n3, .int .i64 (x.number : Int), .int .i64 (x.pos : Int), .int .i64 (x.height : Int), .int .i64 (x.spent : Int)] 39 (0, 0)) := by rw [hx0, hP]; exact heap_new _ _
      have HBO := hid hbo
      have HUP : Hid (∀ k, blk u6 = some k → k < P) := hid fun k e => by have := ownsRow_lt HI.out.1 e; omega
      have HPS : Hid (P < x0.heap.size) := hid (heap_lt hbo)
      have hz0 := hy0.alloc (.cells #[uv n0, uv n1, uv n2, uv n3] 22)
      have hxb := heap_new x0 (.cells #[uv n0, uv n1, uv n2, uv n3] 22)
      have hbo2 := heap_alloc_some (o' := .cells #[uv n0, uv n1, uv n2, uv n3] 22) hbo
      obtain ⟨c0, c1, c2, c3, c4, c5, c6, c7⟩ := eight_cells hbo
      clear hx0 hbo hP f0 f1 f2 f3 f4 f5 f6 f7 hy0
      go_upto_region 10 with fail
      obtain ⟨XB, hXB⟩ : ∃ XB, XB = x0.heap.size := ⟨_, rfl⟩
      rw [← hXB] at hxb ⊢
      generalize x0.alloc (.cells #[uv n0, uv n1, uv n2, uv n3] 22) = x1 at *
      obtain ⟨X, hX⟩ : ∃ X, X = [n0, n1, n2, n3] := ⟨_, rfl⟩
      have HX := hid hX
      have hXl : X.length = 4 := by rw [hX]; rfl
      obtain ⟨Y, hY⟩ : ∃ Y, Y = [x.number, x.pos, x.height, x.spent] := ⟨_, rfl⟩
      have HY := hid hY
      have hYl : Y.length = 4 := by rw [hY]; rfl
      rw [← hX, ← hY] at HSN
      have G0 : Hid (FrB w1 x1 u6 (C0 ++ cat (X.take 0)) ∧ x1.heap[P]? = some (.cells #[uv n0, uv n1, uv n2, uv n3, .int .i64 (x.number : Int), .int .i64 (x.pos : Int), .int .i64 (x.height : Int), .int .i64 (x.spent : Int)] 39 (0, 0)) ∧ x1.heap[XB]? = some (.cells #[uv n0, uv n1, uv n2, uv n3] 22 (0, 0)) ∧ ∀ k, blk u6 = some k → k ≠ P ∧ k ≠ XB) := hid ⟨by simpa [cat] using HI.out.ext hz0, hbo2, hxb, fun k e => by have h1 := HUP.out k e; have h2 := HPS.out; exact ⟨by omega, by omega⟩⟩
      clear hX hY hXB hxb hbo2 hz0 c0 c1 c2 c3 c4 c5 c6 c7 HI HBO HUP HPS
      go_wp2_with fail
      go_loopw [6, 10] (fun bv kv wr => ∃ k : Nat, k ≤ 4 ∧ kv = .int .i64 k ∧ Hid (FrB w1 wr bv (C0 ++ cat (X.take k)) ∧ wr.heap[P]? = some (.cells #[uv n0, uv n1, uv n2, uv n3, .int .i64 (x.number : Int), .int .i64 (x.pos : Int), .int .i64 (x.height : Int), .int .i64 (x.spent : Int)] 39 (0, 0)) ∧ wr.heap[XB]? = some (.cells #[uv n0, uv n1, uv n2, uv n3] 22 (0, 0)) ∧ ∀ k, blk bv = some k → k ≠ P ∧ k ≠ XB)) (fun _ kv _ => 4 - (intOf kv).toNat)
      case atStart => exact ⟨0, by omega, rfl, G0⟩
      case round =>
        clear G0
        obtain ⟨k, hk, rfl, HK⟩ := hrel
        have hk0 : (0 : Int) ≤ (k : Int) := Int.natCast_nonneg _
        by_cases hkt : k < 4
        · have hktB : decide ((k : Int) < 4) = true := decide_eq_true (by omega)
          have hkI : (k : Int) < 4 := by omega
          obtain ⟨y, hy⟩ : ∃ y, X[k]? = some y := ⟨_, List.getElem?_eq_getElem (by omega)⟩
          have f0 : wr.cell? ⟨XB, k, none⟩ = some (uv y) := four_U HK.out.2.2.1 (by rw [← HX.out]; exact hy)
          have HT : Hid (C0 ++ cat (X.take (k + 1)) = (C0 ++ cat (X.take k)) ++ leB 8 y) := hid (by rw [catW_take hy, List.append_assoc])
          have DG := hid (rDigits_any y 8 wr (by omega))
          obtain ⟨D, hD⟩ : ∃ D, D = C0 ++ cat (X.take k) := ⟨_, rfl⟩
          have HDL : Hid (D.length ≤ 2000000) := hid (by rw [hD, List.length_append, cat_length, List.length_take]; have := HN0.out; omega)
          rw [← hD] at HK HT
          obtain ⟨E, hE⟩ : ∃ E, E = leB 8 y := ⟨_, rfl⟩
          have HEL : Hid (E.length = 8) := hid (by rw [hE, leB_length])
          rw [← hE] at HT DG
          obtain ⟨da, dc, rfl⟩ := HK.out.1.sl
          clear hy hD hE
          go_wp2_with fail
          refine DG.out.mono ?_
          rintro e y1 ⟨z1, rfl, ho, hx, -⟩
          have O1 := hid ho
          have K1 := hid (HK.out.1.ext hx)
          have K2 := hid (And.intro (hx.heap_some HK.out.2.1) (hx.heap_some HK.out.2.2.1))
          obtain ⟨ea, ec, rfl, -⟩ := ownsRow_rd ho
          clear ho hx DG f0
          go_wp2_with (at_builtin; refine wpList_app rfl _ _ 69 rfl 5 i0 (.int .u8 0) 1 1 Tryz.underlying69 HI0.out.1 HI0.out.2.1 HI0.out.2.2.1 HI0.out.2.2.2 rfl (by decide) _ D.length (bs D) rfl K1.out.1 _ E.length (bs E) rfl (ownsRow_rd O1.out) (by rw [List.length_map, Nat.mul_one]) (bs_one _) (by have := HDL.out; have := HEL.out; unfold maxLen; omega) (by have := HDL.out; have := HEL.out; omega) ?_)
          intro v8 w8 hown hk8 hb
          have G8 := K1.out.app (m := E) hown hk8 hb rfl rfl
          rw [← HT.out] at G8
          have HN := hid (And.intro G8 (And.intro (hk8.heap_some (fun e => (HK.out.2.2.2 P e.symm).1 rfl) K2.out.1) (And.intro (hk8.heap_some (fun e => (HK.out.2.2.2 XB e.symm).2 rfl) K2.out.2) (fun k (e : blk v8 = some k) => show k ≠ P ∧ k ≠ XB from by
            rcases hb with h | h
            · exact HK.out.2.2.2 k (by rw [← h]; exact e)
            · rw [h] at e
              have := Option.some.inj e
              have h1 := heap_lt K2.out.1
              have h2 := heap_lt K2.out.2
              exact ⟨by omega, by omega⟩))))
          obtain ⟨a8, c8, hv8⟩ : ∃ a c, v8 = .slice a (D.length + E.length) c := by
            obtain ⟨a, c, e, -⟩ := ownsRow_rd hown
            exact ⟨a, c, e⟩
          subst hv8
          clear hown hk8 hb G8
          go_wp2_with fail
          go_roundw
          case rel => exact ⟨k + 1, by omega, by go_num, HN⟩
          case measure => simp [intOf]; omega
        · have hktB : decide ((k : Int) < 4) = false := decide_eq_false (by omega)
          obtain rfl : k = 4 := by omega
          rw [List.take_of_length_le (by omega)] at HK
          rw [show ((4 : Nat) : Int) = 4 from rfl]
          obtain ⟨C4, hC4⟩ : ∃ C, C = C0 ++ cat X := ⟨_, rfl⟩
          rw [← hC4] at HK
          have HC4 : Hid (C0 ++ (cat X ++ catI Y) = C4 ++ catI Y) := hid (by rw [hC4, List.append_assoc])
          have HL4 : Hid (C4.length ≤ 1100000) := hid (by rw [hC4, List.length_append, cat_length]; have := HN0.out; omega)
          clear hC4
          obtain ⟨c0, c1, c2, c3, c4, c5, c6, c7⟩ := eight_cells HK.out.2.1
          go_upto_region 15 with fail
          clear c0 c1 c2 c3 c4 c5 c6 c7
          obtain ⟨YB, hYB⟩ : ∃ YB, YB = wr.heap.size := ⟨_, rfl⟩
          have hyb := heap_new wr (.cells #[.int .i64 (x.number : Int), .int .i64 (x.pos : Int), .int .i64 (x.height : Int), .int .i64 (x.spent : Int)] 3)
          have hz5 : Ext wr (wr.alloc (.cells #[.int .i64 (x.number : Int), .int .i64 (x.pos : Int), .int .i64 (x.height : Int), .int .i64 (x.spent : Int)] 3)) := (Ext.refl wr).alloc _
          rw [← hYB] at hyb ⊢
          generalize wr.alloc (.cells #[.int .i64 (x.number : Int), .int .i64 (x.pos : Int), .int .i64 (x.height : Int), .int .i64 (x.spent : Int)] 3) = x5 at *
          have G5 : Hid (FrB w1 x5 u6 (C4 ++ catI (Y.take 0)) ∧ x5.heap[P]? = some (.cells #[uv n0, uv n1, uv n2, uv n3, .int .i64 (x.number : Int), .int .i64 (x.pos : Int), .int .i64 (x.height : Int), .int .i64 (x.spent : Int)] 39 (0, 0)) ∧ x5.heap[YB]? = some (.cells #[.int .i64 (x.number : Int), .int .i64 (x.pos : Int), .int .i64 (x.height : Int), .int .i64 (x.spent : Int)] 3 (0, 0)) ∧ ∀ k, blk u6 = some k → k ≠ P ∧ k ≠ YB) := hid ⟨by simpa [catI] using HK.out.1.ext hz5, hz5.heap_some HK.out.2.1, hyb, fun k e => ⟨(HK.out.2.2.2 k e).1, by have := ownsRow_lt HK.out.1.1 e; omega⟩⟩
          clear hYB hyb hz5 HK
          go_wp2_with fail
          go_loopw [6, 12] (fun bv kv wr => ∃ k : Nat, k ≤ 4 ∧ kv = .int .i64 k ∧ Hid (FrB w1 wr bv (C4 ++ catI (Y.take k)) ∧ wr.heap[P]? = some (.cells #[uv n0, uv n1, uv n2, uv n3, .int .i64 (x.number : Int), .int .i64 (x.pos : Int), .int .i64 (x.height : Int), .int .i64 (x.spent : Int)] 39 (0, 0)) ∧ wr.heap[YB]? = some (.cells #[.int .i64 (x.number : Int), .int .i64 (x.pos : Int), .int .i64 (x.height : Int), .int .i64 (x.spent : Int)] 3 (0, 0)) ∧ ∀ k, blk bv = some k → k ≠ P ∧ k ≠ YB)) (fun _ kv _ => 4 - (intOf kv).toNat)
          case atStart => exact ⟨0, by omega, rfl, G5⟩
          case round =>
            clear G5
            obtain ⟨k, hk, rfl, HK⟩ := hrel
            have hk0 : (0 : Int) ≤ (k : Int) := Int.natCast_nonneg _
            by_cases hkt : k < 4
            · have hktB : decide ((k : Int) < 4) = true := decide_eq_true (by omega)
              have hkI : (k : Int) < 4 := by omega
              obtain ⟨y, hy⟩ : ∃ y, Y[k]? = some y := ⟨_, List.getElem?_eq_getElem (by omega)⟩
              have f0 : wr.cell? ⟨YB, k, none⟩ = some (.int .i64 (y : Int)) := four_I HK.out.2.2.1 (by rw [← HY.out]; exact hy)
              have HT : Hid (C4 ++ catI (Y.take (k + 1)) = (C4 ++ catI (Y.take k)) ++ lenB (y : Int)) := hid (by rw [catI_take hy, List.append_assoc])
              have DG := hid (rLen_any (y : Int) wr)
              obtain ⟨D, hD⟩ : ∃ D, D = C4 ++ catI (Y.take k) := ⟨_, rfl⟩
              have HDL : Hid (D.length ≤ 2000000) := hid (by rw [hD, List.length_append, catI_length, List.length_take]; have := HL4.out; omega)
              rw [← hD] at HK HT
              obtain ⟨E, hE⟩ : ∃ E, E = lenB (y : Int) := ⟨_, rfl⟩
              have HEL : Hid (E.length = 4) := hid (by rw [hE, lenB_length])
              rw [← hE] at HT DG
              obtain ⟨da, dc, rfl⟩ := HK.out.1.sl
              clear hy hD hE
              go_wp2_with fail
              refine DG.out.mono ?_
              rintro e y1 ⟨z1, rfl, ho, hx, -⟩
              have O1 := hid ho
              have K1 := hid (HK.out.1.ext hx)
              have K2 := hid (And.intro (hx.heap_some HK.out.2.1) (hx.heap_some HK.out.2.2.1))
              obtain ⟨ea, ec, rfl, -⟩ := ownsRow_rd ho
              clear ho hx DG f0
              go_wp2_with (at_builtin; refine wpList_app rfl _ _ 69 rfl 5 i0 (.int .u8 0) 1 1 Tryz.underlying69 HI0.out.1 HI0.out.2.1 HI0.out.2.2.1 HI0.out.2.2.2 rfl (by decide) _ D.length (bs D) rfl K1.out.1 _ E.length (bs E) rfl (ownsRow_rd O1.out) (by rw [List.length_map, Nat.mul_one]) (bs_one _) (by have := HDL.out; have := HEL.out; unfold maxLen; omega) (by have := HDL.out; have := HEL.out; omega) ?_)
              intro v8 w8 hown hk8 hb
              have G8 := K1.out.app (m := E) hown hk8 hb rfl rfl
              rw [← HT.out] at G8
              have HN := hid (And.intro G8 (And.intro (hk8.heap_some (fun e => (HK.out.2.2.2 P e.symm).1 rfl) K2.out.1) (And.intro (hk8.heap_some (fun e => (HK.out.2.2.2 YB e.symm).2 rfl) K2.out.2) (fun k (e : blk v8 = some k) => show k ≠ P ∧ k ≠ YB from by
                rcases hb with h | h
                · exact HK.out.2.2.2 k (by rw [← h]; exact e)
                · rw [h] at e
                  have := Option.some.inj e
                  have h1 := heap_lt K2.out.1
                  have h2 := heap_lt K2.out.2
                  exact ⟨by omega, by omega⟩))))
              obtain ⟨a8, c8, hv8⟩ : ∃ a c, v8 = .slice a (D.length + E.length) c := by
                obtain ⟨a, c, e, -⟩ := ownsRow_rd hown
                exact ⟨a, c, e⟩
              subst hv8
              clear hown hk8 hb G8
              go_wp2_with fail
              go_roundw
              case rel => exact ⟨k + 1, by omega, by go_num, HN⟩
              case measure => simp [intOf]; omega
            · have hktB : decide ((k : Int) < 4) = false := decide_eq_false (by omega)
              obtain rfl : k = 4 := by omega
              rw [List.take_of_length_le (by omega)] at HK
              rw [← HC4.out, ← HSN.out] at HK
              have HN := hid HK.out.1
              go_wp2_with fail
              go_roundw
              case rel => exact ⟨i + 1, by omega, by go_num, HN⟩
              case measure => simp [intOf]; omega
    · have hltB : decide ((i : Int) < (ns.length : Int)) = false := by simp; omega
      obtain rfl : i = ns.length := by omega
      rw [List.take_length] at HI
      obtain ⟨ba, bc, hbv⟩ := HI.out.sl
      go_wp2_with fail
      go_ret
      exact ⟨_, rfl, by
        have := HI.out.1
        rw [HC2.out, HC1.out, HA1.out, HB1.out, HB2.out] at this
        exact this, N1.out.2.1.trans HI.out.2.1, fun k e => Nat.le_trans N1.out.2.1.size (HI.out.2.2 k e)⟩
end Go.Proofs.YtcikjcjfcanloaaGreat
namespace Go.Proofs.YtcikjcjfcanloaaGreat
open Go.RowKit
attribute [local irreducible] perm fAdd fMul fPow fSub fNeg fRed hashU
theorem RdB'.at {w : World} {a : Option Addr} {n c : Nat} {l : List UInt8} (h : RdC' w (.slice a n c) l.length (bs l)) {i : Nat} {x : UInt8} (hx : l[i]? = some x) : ∃ b o, a = some ⟨b, o, none⟩ ∧ w.cell? ⟨b, o + i, none⟩ = some (.int .u8 x.toNat) := by
  obtain ⟨a', c', he, hlc, -, hn', hc'⟩ := h
  injection he with e1 e2 e3
  subst e1
  have hi : i < l.length := (List.getElem?_eq_some_iff.1 hx).1
  cases a with
  | none => have := hn' rfl; omega
  | some ad =>
    have hsp : ad = ⟨ad.block, ad.off, none⟩ := by
      cases l with
      | nil => simp at hx
      | cons y r => exact spot_none (hc' ad rfl 0 (.int .u8 y.toNat) rfl)
    refine ⟨ad.block, ad.off, by rw [← hsp], ?_⟩
    have h5 := hc' ad rfl i (.int .u8 x.toNat) (by simp [hx])
    rw [hsp, Addr.add_lit] at h5
    exact h5
end Go.Proofs.YtcikjcjfcanloaaGreat
namespace Go.Proofs.YtcikjcjfcanloaaGreat
open Go.RowKit
attribute [local irreducible] perm fAdd fMul fPow fSub fNeg fRed hashU
def ciSm (o : OutT) : Bool := decide (o.cipher.length ≤ 10)
def smTx (t : TxT) (n : Nat) : Bool := t.outs.all ciSm && (decide (t.marks.length ≤ 10) && (decide (t.outs.length ≤ 10) && decide (t.proof.length ≤ n)))
theorem smTx_sm {t : TxT} {n : Nat} (hn : n ≤ 1000) (h : smTx t n = true) : TSm t ∧ t.proof.length ≤ 10000 := by
  unfold smTx ciSm at h
  simp only [Bool.and_eq_true, decide_eq_true_eq, List.all_eq_true] at h
  obtain ⟨h1, h2, h3, h4⟩ := h
  exact ⟨⟨by omega, by omega, fun o ho => by have := h1 o ho; omega, by omega⟩, by omega⟩
def bigN (n : Nat) : Prop := (n : Int) ≤ 9223372036854775807
set_option maxRecDepth 100000 in
set_option maxHeartbeats 3200000 in
theorem smTx_any (t : TxT) (mv ov pv : Value) (n : Nat) (w : World) (h : RdT w t mv ov pv) :
    Calls Tryz.prog 59 #[txVal t mv ov pv, .int .i64 (n : Int)] w fun e w' => e = .returned (.bool (smTx t n)) ∧ Ext w w' := by
  obtain ⟨oa0, oc0, ho0, hoc1, hoc2⟩ := h.o.shape
  have HOL : Hid (bigN t.outs.length) := hid (by unfold bigN; unfold maxLen at hoc2; omega)
  obtain ⟨ma, mc, oa, oc, pa, pc, rfl, rfl, rfl⟩ := h.shape
  obtain ⟨R, hR⟩ : ∃ R, R = smTx t n := ⟨_, rfl⟩
  rw [← hR]
  have HR := hid hR
  have HH := hid h
  obtain ⟨N, hN⟩ : ∃ N, N = w.heap.size := ⟨_, rfl⟩
  obtain ⟨w0, hw0⟩ : ∃ w0, w0 = w.alloc (.cells #[uv t.anchor, .slice ma t.marks.length mc, .slice oa t.outs.length oc, uv t.deposit, uv t.withdraw, uv t.fee, uv t.account, uv t.nonce, .int .i64 t.expiry, .slice pa t.proof.length pc] 101) := ⟨_, rfl⟩
  have hx0 : Ext w w0 := by rw [hw0]; exact (Ext.refl w).alloc _
  have hb0 : w0.heap[N]? = some (.cells #[uv t.anchor, .slice ma t.marks.length mc, .slice oa t.outs.length oc, uv t.deposit, uv t.withdraw, uv t.fee, uv t.account, uv t.nonce, .int .i64 t.expiry, .slice pa t.proof.length pc] 101 (0, 0)) := by rw [hw0, hN]; exact heap_new _ _
  have HB := hid hb0
  have HW := hid hw0
  have HX0 := hid hx0
  have b1 : decide ((t.marks.length : Int) ≤ 10) = decide (t.marks.length ≤ 10) := by rw [decide_eq_decide]; omega
  have b2 : decide ((t.outs.length : Int) ≤ 10) = decide (t.outs.length ≤ 10) := by rw [decide_eq_decide]; omega
  obtain ⟨pl, hpl⟩ : ∃ pl, decide (t.proof.length ≤ n) = pl := ⟨_, rfl⟩
  clear hw0 hx0 hb0 h hR ho0 hoc1 hoc2
  obtain ⟨c0, c1, c2, c3, c4, c5, c6, c7, c8, c9⟩ := ten_cells HB.out
  go_enter Tryz.func59, Tryz.ntmps59
  go_upto_region 1 with fail
  rw [← HW.out, ← hN]
  clear hN
  go_wp2_with fail
  go_loop [5] (fun iv => ∃ i : Nat, i ≤ t.outs.length ∧ iv = .int .i64 i ∧ Hid ((t.outs.take i).all ciSm = true)) (fun iv => t.outs.length - (intOf iv).toNat)
  case atStart => exact ⟨0, by omega, rfl, hid rfl⟩
  case round =>
    obtain ⟨i, hi, rfl, HI⟩ := hrel
    by_cases hlt : i < t.outs.length
    · have hltB : decide ((i : Int) < (t.outs.length : Int)) = true := by simp; omega
      obtain ⟨x, hxi⟩ : ∃ x, t.outs[i]? = some x := ⟨_, List.getElem?_eq_getElem hlt⟩
      obtain ⟨b, q, ca, cc, rfl, -, -, -, e3, -⟩ := (HH.out.o.ext HX0.out).at hxi
      have hi0 : (0 : Int) ≤ (i : Int) := Int.natCast_nonneg _
      have hil : (i : Int) < (t.outs.length : Int) := by omega
      have HXI := hid hxi
      clear hxi
      by_cases hc : x.cipher.length ≤ 10
      · have hcB : decide ((10 : Int) < (x.cipher.length : Int)) = false := by simp; omega
        have HN : Hid ((t.outs.take (i + 1)).all ciSm = true) := hid (all_snoc HXI.out HI.out (by unfold ciSm; simpa using hc))
        have HWR : Hid (wrap64 ((i : Int) + 1) = ((i + 1 : Nat) : Int)) := hid (by
          have := HOL.out
          unfold bigN at this
          unfold wrap64
          omega)
        clear hc
        go_wp2_with fail
        go_round
        case rel => exact ⟨i + 1, by omega, by rw [HWR.out], HN⟩
        case measure => rw [HWR.out]; simp [intOf]; omega
      · have hcB : decide ((10 : Int) < (x.cipher.length : Int)) = true := by simp; omega
        have hr : R = false := by rw [HR.out]; unfold smTx; rw [all_bad HXI.out (by unfold ciSm; simpa using hc)]; rfl
        subst hr
        clear hc
        go_wp2_with fail
        go_ret
        exact ⟨rfl, HX0.out⟩
    · have hie : i = t.outs.length := by omega
      subst hie
      have hltB : decide ((t.outs.length : Int) < (t.outs.length : Int)) = false := by simp
      have HR2 : Hid (R = (decide (t.marks.length ≤ 10) && (decide (t.outs.length ≤ 10) && pl))) := hid (by
        have h1 := HI.out
        rw [List.take_length] at h1
        rw [HR.out]; unfold smTx
        rw [h1, hpl, Bool.true_and])
      generalize decide (t.marks.length ≤ 10) = d1 at *
      generalize decide (t.outs.length ≤ 10) = d2 at *
      cases d1 with
      | false =>
        have hr : R = false := HR2.out
        subst hr
        go_wp2_with fail
        go_ret
        exact ⟨rfl, HX0.out⟩
      | true =>
        cases d2 with
        | false =>
          have hr : R = false := HR2.out
          subst hr
          go_wp2_with fail
          go_ret
          exact ⟨rfl, HX0.out⟩
        | true =>
          have hr : R = pl := HR2.out
          subst hr
          go_wp2_with fail
          go_ret
          exact ⟨rfl, HX0.out⟩
end Go.Proofs.YtcikjcjfcanloaaGreat
namespace Go.Proofs.YtcikjcjfcanloaaGreat
open Go.RowKit
attribute [local irreducible] perm fAdd fMul fPow fSub fNeg fRed hashU drawOf nextState cipSeal
def rl49 (d : Int) : Rl := ⟨2, d, 0, 0, 0, 50, 10, 10, 1⟩
set_option maxRecDepth 100000 in
set_option maxHeartbeats 1600000 in
theorem rules49_any (d : Int) (w : World) : Calls Tryz.prog 41 #[.int .i64 d] w fun e w' => e = .returned (rlVal (rl49 d)) ∧ Ext w w' := by
  have hb := heap_new w (.cells #[.int .i64 0, .int .i64 0, .int .i64 0, .int .i64 0, .int .i64 0, .int .u64 0, .int .i64 0, .int .i64 0, .int .u64 0] 45)
  obtain ⟨N, hN⟩ : ∃ N, N = w.heap.size := ⟨_, rfl⟩
  obtain ⟨w0, hw0⟩ : ∃ w0, w0 = w.alloc (.cells #[.int .i64 0, .int .i64 0, .int .i64 0, .int .i64 0, .int .i64 0, .int .u64 0, .int .i64 0, .int .i64 0, .int .u64 0] 45) := ⟨_, rfl⟩
  have hx0 : Ext w w0 := by rw [hw0]; exact (Ext.refl w).alloc _
  rw [← hw0, ← hN] at hb
  have HX0 := hid hx0
  have HNN : Hid (w.heap.size ≤ N) := hid (by omega)
  have HW := hid hw0
  obtain ⟨c0, c1, c2, c3, c4, c5, c6, c7, c8⟩ := nine_cells hb
  have fz := frozen_of hb
  have HB := hid hb
  clear hw0 hx0 hb
  go_enter Tryz.func41, Tryz.ntmps41
  go_upto_region 1 with fail
  rw [← HW.out, ← hN]
  clear hN HW
  go_wp2_with fail
  have hbz := (heap_setCell_same (heap_setCell_same (heap_setCell_same (heap_setCell_same (heap_setCell_same (heap_setCell_same (heap_setCell_same (heap_setCell_same (heap_setCell_same HB.out 0 (.int .i64 2)) 1 (.int .i64 d)) 2 (.int .i64 0)) 3 (.int .i64 0)) 4 (.int .i64 0)) 5 (.int .u64 50)) 6 (.int .i64 10)) 7 (.int .i64 10)) 8 (.int .u64 1))
  have hkz : Kp (fun j => j = N) w0 (((((((((w0.setCell ⟨N, 0, none⟩ (.int .i64 2)).setCell ⟨N, 1, none⟩ (.int .i64 d)).setCell ⟨N, 2, none⟩ (.int .i64 0)).setCell ⟨N, 3, none⟩ (.int .i64 0)).setCell ⟨N, 4, none⟩ (.int .i64 0)).setCell ⟨N, 5, none⟩ (.int .u64 50)).setCell ⟨N, 6, none⟩ (.int .i64 10)).setCell ⟨N, 7, none⟩ (.int .i64 10)).setCell ⟨N, 8, none⟩ (.int .u64 1)) := ((((((((((Kp.refl (fun j => j = N) w0).setCell (p := ⟨N, 0, none⟩) (.inl rfl) (.int .i64 2)).setCell (p := ⟨N, 1, none⟩) (.inl rfl) (.int .i64 d)).setCell (p := ⟨N, 2, none⟩) (.inl rfl) (.int .i64 0)).setCell (p := ⟨N, 3, none⟩) (.inl rfl) (.int .i64 0)).setCell (p := ⟨N, 4, none⟩) (.inl rfl) (.int .i64 0)).setCell (p := ⟨N, 5, none⟩) (.inl rfl) (.int .u64 50)).setCell (p := ⟨N, 6, none⟩) (.inl rfl) (.int .i64 10)).setCell (p := ⟨N, 7, none⟩) (.inl rfl) (.int .i64 10)).setCell (p := ⟨N, 8, none⟩) (.inl rfl) (.int .u64 1))
  have hxz : Ext w (((((((((w0.setCell ⟨N, 0, none⟩ (.int .i64 2)).setCell ⟨N, 1, none⟩ (.int .i64 d)).setCell ⟨N, 2, none⟩ (.int .i64 0)).setCell ⟨N, 3, none⟩ (.int .i64 0)).setCell ⟨N, 4, none⟩ (.int .i64 0)).setCell ⟨N, 5, none⟩ (.int .u64 50)).setCell ⟨N, 6, none⟩ (.int .i64 10)).setCell ⟨N, 7, none⟩ (.int .i64 10)).setCell ⟨N, 8, none⟩ (.int .u64 1)) := HX0.out.kp hkz fun j e => by have := HNN.out; omega
  generalize (((((((((w0.setCell ⟨N, 0, none⟩ (.int .i64 2)).setCell ⟨N, 1, none⟩ (.int .i64 d)).setCell ⟨N, 2, none⟩ (.int .i64 0)).setCell ⟨N, 3, none⟩ (.int .i64 0)).setCell ⟨N, 4, none⟩ (.int .i64 0)).setCell ⟨N, 5, none⟩ (.int .u64 50)).setCell ⟨N, 6, none⟩ (.int .i64 10)).setCell ⟨N, 7, none⟩ (.int .i64 10)).setCell ⟨N, 8, none⟩ (.int .u64 1)) = W at *
  obtain ⟨r0, r1, r2, r3, r4, r5, r6, r7, r8⟩ := nine_cells hbz
  exact bodyPost_ret (v := .agg #[.int .i64 2, .int .i64 d, .int .i64 0, .int .i64 0, .int .i64 0, .int .u64 50, .int .i64 10, .int .i64 10, .int .u64 1]) (by simp [results, Tryz.results41, go_sem, r0, r1, r2, r3, r4, r5, r6, r7, r8]) rfl ⟨rfl, hxz⟩
set_option maxRecDepth 100000 in
set_option maxHeartbeats 6400000 in
theorem txRules49_any (d : Nat) (h1 : 1 ≤ d) (h12 : d ≤ 12) (w : World) : Calls Tryz.prog 66 #[rlVal (rl49 d)] w fun e w' => e = .returned (.int .i64 0) ∧ Ext w w' := by
  have hd1 : decide ((1 : Int) ≤ (d : Int)) = true := decide_eq_true (by omega)
  have hd2 : decide ((d : Int) ≤ 12) = true := decide_eq_true (by omega)
  have hd3 : decide ((d : Int) < 1) = false := decide_eq_false (by omega)
  have hd4 : decide ((12 : Int) < (d : Int)) = false := decide_eq_false (by omega)
  obtain ⟨N, hN⟩ : ∃ N, N = w.heap.size := ⟨_, rfl⟩
  obtain ⟨w0, hw0⟩ : ∃ w0, w0 = w.alloc (.cells #[.int .i64 2, .int .i64 (d : Int), .int .i64 0, .int .i64 0, .int .i64 0, .int .u64 50, .int .i64 10, .int .i64 10, .int .u64 1] 45) := ⟨_, rfl⟩
  have hx0 : Ext w w0 := by rw [hw0]; exact (Ext.refl w).alloc _
  have hb0 : w0.heap[N]? = some (.cells #[.int .i64 2, .int .i64 (d : Int), .int .i64 0, .int .i64 0, .int .i64 0, .int .u64 50, .int .i64 10, .int .i64 10, .int .u64 1] 45 (0, 0)) := by rw [hw0, hN]; exact heap_new _ _
  have HX0 := hid hx0
  have HW := hid hw0
  obtain ⟨c0, c1, c2, c3, c4, c5, c6, c7, c8⟩ := nine_cells hb0
  show Calls Tryz.prog 66 #[.agg #[.int .i64 2, .int .i64 (d : Int), .int .i64 0, .int .i64 0, .int .i64 0, .int .u64 50, .int .i64 10, .int .i64 10, .int .u64 1]] w fun e w' => e = .returned (.int .i64 0) ∧ Ext w w'
  clear hw0 hx0 hb0
  go_enter Tryz.func66, Tryz.ntmps66
  go_upto_region 1 with fail
  rw [← HW.out, ← hN]
  clear hN HW
  go_wp2_with fail
  go_ret
  exact ⟨rfl, HX0.out⟩
end Go.Proofs.YtcikjcjfcanloaaGreat
namespace Go.Proofs.YtcikjcjfcanloaaGreat
open Go.RowKit
attribute [local irreducible] perm fAdd fMul fPow fSub fNeg fRed hashU drawOf nextState cipSeal
def smT (t : TxT) : Bool := smTx t 100
def opSm (o : OpT) : Bool := o.b.txs.all smT && decide (o.b.txs.length ≤ 4)
def smallW (d : Int) (ops : List OpT) : Bool := ops.all opSm && (decide (1 ≤ d) && (decide (d ≤ 6) && decide (ops.length ≤ 8)))
theorem wrap_next {i n : Nat} (h : bigN n) (hi : i < n) : wrap64 ((i : Int) + 1) = ((i + 1 : Nat) : Int) := by
  unfold bigN at h
  unfold wrap64
  omega
theorem seven_cells {w : World} {b : Nat} {c0 c1 c2 c3 c4 c5 c6 : Value} {T : TypeId} (h : w.heap[b]? = some (.cells #[c0, c1, c2, c3, c4, c5, c6] T (0, 0))) :
    w.cell? ⟨b, 0, none⟩ = some c0 ∧ w.cell? ⟨b, 1, none⟩ = some c1 ∧ w.cell? ⟨b, 2, none⟩ = some c2 ∧ w.cell? ⟨b, 3, none⟩ = some c3 ∧ w.cell? ⟨b, 4, none⟩ = some c4 ∧ w.cell? ⟨b, 5, none⟩ = some c5 ∧ w.cell? ⟨b, 6, none⟩ = some c6 :=
  ⟨cell_of h 0, cell_of h 1, cell_of h 2, cell_of h 3, cell_of h 4, cell_of h 5, cell_of h 6⟩
set_option maxRecDepth 100000 in
set_option maxHeartbeats 12800000 in
theorem small49_any (d : Int) (ov : Value) (ops : List OpT) (w : World) (h : RdWops w ov ops) :
    Calls Tryz.prog 19 #[.int .i64 d, ov] w fun e w' => e = .returned (.bool (smallW d ops)) ∧ Ext w w' := by
  obtain ⟨oa, oc, rfl, hc1, hc2⟩ := h.shape
  have HOL : Hid (bigN ops.length) := hid (by unfold bigN; unfold maxLen at hc2; omega)
  have HH := hid h
  obtain ⟨R, hR⟩ : ∃ R, R = smallW d ops := ⟨_, rfl⟩
  have HR := hid hR
  rw [← hR]
  clear h hc1 hc2 hR
  go_enter Tryz.func19, Tryz.ntmps19
  go_wp2_with fail
  go_loopw [11] (fun iv wr => ∃ i : Nat, i ≤ ops.length ∧ iv = .int .i64 i ∧ Hid ((ops.take i).all opSm = true ∧ Ext w wr)) (fun iv _ => ops.length - (intOf iv).toNat)
  case atStart => exact ⟨0, by omega, rfl, hid ⟨rfl, Ext.refl w⟩⟩
  case round =>
    obtain ⟨i, hi, rfl, HI⟩ := hrel
    have hi0 : (0 : Int) ≤ (i : Int) := Int.natCast_nonneg _
    by_cases hlt : i < ops.length
    · have hltB : decide ((i : Int) < (ops.length : Int)) = true := decide_eq_true (by omega)
      have hil : (i : Int) < (ops.length : Int) := by omega
      obtain ⟨x, hxi⟩ : ∃ x, ops[i]? = some x := ⟨_, List.getElem?_eq_getElem hlt⟩
      have HWR := hid (wrap_next HOL.out hlt)
      obtain ⟨b, q, ta, tc, rfl, htx, e0, e1, e2, e3, e4, e5, e6⟩ := HH.out.at hxi
      replace e0 := HI.out.2.cell_some e0
      replace e1 := HI.out.2.cell_some e1
      replace e2 := HI.out.2.cell_some e2
      replace e3 := HI.out.2.cell_some e3
      replace e4 := HI.out.2.cell_some e4
      replace e5 := HI.out.2.cell_some e5
      replace e6 := HI.out.2.cell_some e6
      have HTX := hid htx
      have HTL : Hid (bigN x.b.txs.length) := hid (by
        obtain ⟨a, c, e, g1, g2⟩ := htx.shape
        injection e with e1 e2 e3
        unfold bigN
        unfold maxLen at g2
        omega)
      have HXI := hid hxi
      clear htx hxi
      go_upto_region 4 with fail
      obtain ⟨N, hN⟩ : ∃ N, N = wr.heap.size := ⟨_, rfl⟩
      obtain ⟨u1, hu1⟩ : ∃ u1, u1 = wr.alloc (.cells #[.bool x.undo, uv x.b.parent, .int .i64 x.b.height, uv x.b.miner, uv x.b.work, uv x.b.nonce, .slice ta x.b.txs.length tc] 78) := ⟨_, rfl⟩
      rw [← hu1, ← hN]
      have G1 : Hid (Ext w u1) := hid (by rw [hu1]; exact HI.out.2.alloc _)
      have NB : Hid (u1.heap[N]? = some (.cells #[.bool x.undo, uv x.b.parent, .int .i64 x.b.height, uv x.b.miner, uv x.b.work, uv x.b.nonce, .slice ta x.b.txs.length tc] 78 (0, 0))) := hid (by rw [hu1, hN]; exact heap_new _ _)
      clear hu1 hN e0 e1 e2 e3 e4 e5 e6
      obtain ⟨c0, c1, c2, c3, c4, c5, c6⟩ := seven_cells NB.out
      go_wp2_with fail
      clear c0 c1 c2 c3 c4 c5 c6
      go_loopw [19] (fun kv wr => ∃ k : Nat, k ≤ x.b.txs.length ∧ kv = .int .i64 k ∧ Hid ((x.b.txs.take k).all smT = true ∧ Ext w wr ∧ Ext u1 wr)) (fun kv _ => x.b.txs.length - (intOf kv).toNat)
      case atStart => exact ⟨0, by omega, rfl, hid ⟨rfl, G1.out, Ext.refl _⟩⟩
      case round =>
        obtain ⟨k, hk, rfl, HK⟩ := hrel
        have hk0 : (0 : Int) ≤ (k : Int) := Int.natCast_nonneg _
        by_cases hkt : k < x.b.txs.length
        · have hktB : decide ((k : Int) < (x.b.txs.length : Int)) = true := decide_eq_true (by omega)
          have hkl : (k : Int) < (x.b.txs.length : Int) := by omega
          obtain ⟨t, htk⟩ : ∃ t, x.b.txs[k]? = some t := ⟨_, List.getElem?_eq_getElem hkt⟩
          have HWR2 := hid (wrap_next HTL.out hkt)
          obtain ⟨q2, o2, ma, mc, oa', oc', pa, pc, rfl, hrt, e0, e1, e2, e3, e4, e5, e6, e7, e8, e9⟩ := (HTX.out.ext HK.out.2.1).at htk
          have HRT := hid hrt
          have HTK := hid htk
          clear hrt htk
          go_upto_region 7 with fail
          obtain ⟨M, hM⟩ : ∃ M, M = wr.heap.size := ⟨_, rfl⟩
          obtain ⟨u2, hu2⟩ : ∃ u2, u2 = wr.alloc (.cells #[uv t.anchor, .slice ma t.marks.length mc, .slice oa' t.outs.length oc', uv t.deposit, uv t.withdraw, uv t.fee, uv t.account, uv t.nonce, .int .i64 t.expiry, .slice pa t.proof.length pc] 101) := ⟨_, rfl⟩
          rw [← hu2, ← hM]
          have hy2 : Ext wr u2 := by rw [hu2]; exact (Ext.refl wr).alloc _
          have hmb : u2.heap[M]? = some (.cells #[uv t.anchor, .slice ma t.marks.length mc, .slice oa' t.outs.length oc', uv t.deposit, uv t.withdraw, uv t.fee, uv t.account, uv t.nonce, .int .i64 t.expiry, .slice pa t.proof.length pc] 101 (0, 0)) := by rw [hu2, hM]; exact heap_new _ _
          have SMC := hid (smTx_any t _ _ _ 100 u2 (HRT.out.ext hy2))
          obtain ⟨S, hS⟩ : ∃ S, S = smT t := ⟨_, rfl⟩
          change Hid (Calls Tryz.prog 59 #[txVal t (.slice ma t.marks.length mc) (.slice oa' t.outs.length oc') (.slice pa t.proof.length pc), .int .i64 100] u2 fun e w' => e = .returned (.bool (smT t)) ∧ Ext u2 w') at SMC
          rw [← hS] at SMC
          have HS := hid hS
          have G2 := hid (And.intro (HK.out.2.1.trans hy2) (HK.out.2.2.trans hy2))
          obtain ⟨t0, t1, t2, t3, t4, t5, t6, t7, t8, t9⟩ := ten_cells hmb
          clear hu2 hM hy2 hmb hS e0 e1 e2 e3 e4 e5 e6 e7 e8 e9
          go_wp2_with fail
          refine (SMC.out).mono ?_
          rintro e u3 ⟨rfl, hx⟩
          have G3 := hid (And.intro (G2.out.1.trans hx) (G2.out.2.trans hx))
          clear hx SMC t0 t1 t2 t3 t4 t5 t6 t7 t8 t9
          cases S with
          | true =>
            have HN := hid (And.intro (all_snoc HTK.out HK.out.1 HS.out.symm) G3.out)
            go_wp2_with fail
            go_roundw
            case rel => exact ⟨k + 1, by omega, by rw [HWR2.out], HN⟩
            case measure => rw [HWR2.out]; simp [intOf]; omega
          | false =>
            obtain rfl : R = false := by
              rw [HR.out]
              unfold smallW
              rw [all_bad HXI.out (by unfold opSm; rw [all_bad HTK.out HS.out.symm]; rfl)]
              rfl
            go_wp2_with fail
            go_ret
            exact ⟨rfl, G3.out.1⟩
        · have hktB : decide ((k : Int) < (x.b.txs.length : Int)) = false := decide_eq_false (by omega)
          obtain rfl : k = x.b.txs.length := by omega
          rw [List.take_length] at HK
          obtain ⟨c0, c1, c2, c3, c4, c5, c6⟩ := seven_cells (HK.out.2.2.heap_some NB.out)
          by_cases h4 : x.b.txs.length ≤ 4
          · have h4B : decide ((4 : Int) < (x.b.txs.length : Int)) = false := decide_eq_false (by omega)
            have h4B2 : decide (4 < x.b.txs.length) = false := decide_eq_false (by omega)
            have HN := hid (And.intro (all_snoc HXI.out HI.out.1 (by unfold opSm; rw [HK.out.1, decide_eq_true h4]; rfl)) HK.out.2.1)
            clear h4
            go_wp2_with fail
            go_roundw
            case rel => exact ⟨i + 1, by omega, by rw [HWR.out], HN⟩
            case measure => rw [HWR.out]; simp [intOf]; omega
          · have h4B : decide ((4 : Int) < (x.b.txs.length : Int)) = true := decide_eq_true (by omega)
            have h4B2 : decide (4 < x.b.txs.length) = true := decide_eq_true (by omega)
            obtain rfl : R = false := by
              rw [HR.out]
              unfold smallW
              rw [all_bad HXI.out (by unfold opSm; rw [decide_eq_false h4, Bool.and_false])]
              rfl
            clear h4
            go_wp2_with fail
            go_ret
            exact ⟨rfl, HK.out.2.1⟩
    · have hltB : decide ((i : Int) < (ops.length : Int)) = false := decide_eq_false (by omega)
      obtain rfl : i = ops.length := by omega
      rw [List.take_length] at HI
      have HR2 : Hid (R = (decide (1 ≤ d) && (decide (d ≤ 6) && decide (ops.length ≤ 8)))) := hid (by
        rw [HR.out]
        unfold smallW
        rw [HI.out.1, Bool.true_and])
      have hb8 : decide ((ops.length : Int) ≤ 8) = decide (ops.length ≤ 8) := by rw [decide_eq_decide]; omega
      obtain ⟨d1, hd1⟩ : ∃ d1, decide (1 ≤ d) = d1 := ⟨_, rfl⟩
      obtain ⟨d2, hd2⟩ : ∃ d2, decide (d ≤ 6) = d2 := ⟨_, rfl⟩
      rw [hd1, hd2] at HR2
      cases d1 with
      | false =>
        obtain rfl : R = false := HR2.out
        go_wp2_with fail
        go_ret
        exact ⟨rfl, HI.out.2⟩
      | true =>
        cases d2 with
        | false =>
          obtain rfl : R = false := HR2.out
          go_wp2_with fail
          go_ret
          exact ⟨rfl, HI.out.2⟩
        | true =>
          obtain rfl : R = decide (ops.length ≤ 8) := HR2.out
          go_wp2_with fail
          go_ret
          exact ⟨by first | rfl | rw [hb8], HI.out.2⟩
end Go.Proofs.YtcikjcjfcanloaaGreat
namespace Go.Proofs.YtcikjcjfcanloaaGreat
open Go.RowKit
theorem ownsRow_zero {w : World} {b : Nat} {e : TypeId} {size n : Nat} {v : Value} {xs : List Value} (h : w.ownsRow b e size v n xs) : w.ownsRow 0 e size v n xs ∧ ∀ k, blk v = some k → b ≤ k := by
  refine ⟨⟨h.1, ?_⟩, fun k hk => ?_⟩
  · rcases h.2 with h2 | ⟨g, cap, cur, h1, h2, r⟩
    · exact .inl h2
    · exact .inr ⟨g, cap, cur, h1, Nat.zero_le _, r⟩
  · rcases h.2 with ⟨rfl, -⟩ | ⟨g, cap, cur, rfl, h2, r⟩
    · cases hk
    · injection hk with hk
      subst hk
      exact h2
section
variable {P : Program}
theorem wp_grow {w : World} {o : Oper} {a : Act} {K : Act → World → Prop} {Q : Exit → Act → World → Prop} (s x : Operand) (t : TypeId)
    (ho : o.op = .call { callee := .builtin .append, args := #[s, x], argTypes := #[t, t] })
    (e : TypeId) (i : TypeInfo) (z : Value) (size bytes : Nat) (ht : P.underlying t = some (.slice e)) (hi : P.info? e = some i) (hz : i.zero = some z)
    (hsize : i.size = size) (hby : i.bytes = bytes) (hzs : z.cells.size = size) (hsz : 0 < size)
    (ao : Option Addr) (n : Nat) (olds : List Value) (hs : a.eval s = .slice ao n n) (hr : RdC' w (.slice ao n n) n olds) (hlo : olds.length = n * size) (ad : Addr) (m c : Nat) (news : List Value) (hx : a.eval x = .slice (some ad) m c)
    (hl : news.length = m * size) (hy : ∀ j u, news[j]? = some u → w.cell? (ad.add j) = some u) (h1 : ∀ u ∈ news, u.oneCell' = true) (hm : 0 < m) (h63 : n + m ≤ maxLen) (hbytes : (n + m) * bytes ≤ 140737488355328)
    (h : ∀ v' w', w'.ownsRow 0 e size v' (n + m) (olds ++ news) → Ext w w' → (∀ k, blk v' = some k → w.heap.size ≤ k) → K (a.put o.dst v') w') : o.wp P a w K Q := by
  obtain ⟨a', c', he, h2, h3, h4, h5⟩ := hr
  injection he with e1 e2 e3
  subst e1
  have key : ∃ v' w', (Builtin.append_ #[t, t] o.type #[.slice ao n n, .slice (some ad) m c]).run P w = .ok v' w' ∧ w'.ownsRow w.heap.size e size v' (n + m) (olds ++ news) ∧ w.grownBy w' none := by
    cases ao with
    | some b => exact run_append_arg_grows (P := P) w t o.type e i z size bytes ht hi hz hsize hby hzs hsz b n n olds hlo (h5 b rfl) ad m c news hl hy (by omega) h63 hbytes
    | none =>
      obtain rfl : n = 0 := by have := h4 rfl; omega
      obtain rfl : olds = [] := List.eq_nil_of_length_eq_zero (by simpa using hlo)
      obtain ⟨v', w', hrun, r1, r2, _⟩ := run_append_own (P := P) w w.heap.size t o.type e i z size bytes ht hi hz hsize hby hzs hsz (.slice none 0 0) 0 [] (World.ownsRow_nil w _ e size) ad m c news hl hy h1 h63 hbytes (Nat.le_refl _)
      exact ⟨v', w', hrun, r1, r2⟩
  obtain ⟨v', w', hrun, r1, r2⟩ := key
  unfold Oper.wp execOp
  simp only [ho, resolve, invoke, builtin, Sem.run_bind, Sem.run_pure, Result.andThen_ok, List.map_toArray, List.map_cons, List.map_nil, hs, hx, hrun]
  have r3 := ownsRow_zero r1
  exact h v' w' r3.1 ((grown_kp r2).toExt fun k hk => by cases hk) r3.2
end
end Go.Proofs.YtcikjcjfcanloaaGreat
