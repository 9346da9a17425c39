/- Texts of this claim, joined: L49c, Awk49L. -/
import Derived.Test.YtcikjcjfcanloaaGreatJa8
import Derived.Test.YtcikjcjfcanloaaGreatJa21
set_option linter.unusedSimpArgs false
namespace Go.Proofs.YtcikjcjfcanloaaGreat
open Go.RowKit
attribute [local irreducible] perm fAdd fMul fPow fSub fNeg fRed hashU drawOf nextState cipSeal
/-- The wallet at W has scanned l, which lv reads as; all that it may turn is newer than w. -/
def PlI (w wr : World) (W d : Nat) (s : UInt64) (l : List BlkT) (lv : Value) : Prop := ∃ G, WalAt wr W d s l G ∧ (∀ i, G i → w.heap.size ≤ i) ∧ RdBs w wr lv l ∧ (∀ b, blk lv = some b → ¬ G b ∧ b < wr.heap.size) ∧ Ext w wr
theorem PlI.ext {w wr u : World} {W d : Nat} {s : UInt64} {l : List BlkT} {lv : Value} (h : PlI w wr W d s l lv) (k : Ext wr u) : PlI w u W d s l lv := by
  obtain ⟨G, h1, h2, h3, h4, h5⟩ := h
  exact ⟨G, h1.ext k, h2, h3.ext k, fun b hb => ⟨(h4 b hb).1, Nat.lt_of_lt_of_le (h4 b hb).2 k.size⟩, h5.trans k⟩
/-- The wallet has turned. -/
theorem PlI.turn {w wr u : World} {W d : Nat} {s : UInt64} {l l' : List BlkT} {lv : Value} {G : Nat → Prop} (h2 : ∀ i, G i → w.heap.size ≤ i) (h3 : RdBs w wr lv l) (h4 : ∀ b, blk lv = some b → ¬ G b ∧ b < wr.heap.size) (h5 : Ext w wr) (ht : WalTo wr W d s l' G u) :
    ∃ G', WalAt u W d s l' G' ∧ (∀ i, G' i → w.heap.size ≤ i) ∧ RdBs w u lv l ∧ (∀ b, blk lv = some b → ¬ G' b ∧ b < u.heap.size) ∧ Ext w u := by
  obtain ⟨G', g1, g2, g3⟩ := ht
  have hsz := h5.size
  have hsz2 := g2.size
  refine ⟨G', g1, fun i hi => ?_, h3.kp g2 fun b hb _ => (h4 b hb).1, fun b hb => ⟨fun hG => ?_, Nat.lt_of_lt_of_le (h4 b hb).2 hsz2⟩, h5.kp g2 h2⟩
  · rcases g3 i hi with e | e
    · exact h2 i e
    · omega
  · rcases g3 b hG with e2 | e2
    · exact (h4 b hb).1 e2
    · have := (h4 b hb).2; omega
theorem RdC'.full {w : World} {a : Option Addr} {n m c : Nat} {cells : List Value} (h : RdC' w (.slice a m c) n cells) : RdC' w (.slice a n n) n cells := by
  obtain ⟨a', c', e, h2, h3, h4, h5⟩ := h
  injection e with e1 e2 e3
  subst e1 e3
  exact ⟨a, n, rfl, Nat.le_refl n, Nat.le_trans h2 h3, fun e => by have := h4 e; omega, h5⟩
/-- A block more, in a new row. -/
theorem RdBs.snoc {w u u' : World} {v' : Value} {X : List (BlkT × Value)} {b : BlkT} {tv : Value} (hx : ∀ x ∈ X, RdTs w x.2 x.1.txs) (hb : RdTs w tv b.txs) (ho : u'.ownsRow 0 75 6 v' (X.length + 1) (X.flatMap blkCells ++ blkCells (b, tv))) (_ : Ext u u') : RdBs w u' v' (X.map (·.1) ++ [b]) := by
  have h1 : u'.ownsRow 0 75 6 v' (X ++ [(b, tv)]).length ((X ++ [(b, tv)]).flatMap blkCells) := by
    rw [List.length_append, List.flatMap_append]
    simpa using ho
  have h2 := RdBs.own (w0 := w) h1 fun x hx' => by
    rcases List.mem_append.1 hx' with e | e
    · exact hx x e
    · obtain rfl := List.mem_singleton.1 e
      exact hb
  simpa using h2
theorem Tryz.infoBk : (Tryz.prog.info? 75).map (fun i => (i.zero, i.size, i.bytes)) = some (some (.agg #[.int .u64 0, .int .i64 0, .int .u64 0, .int .u64 0, .int .u64 0, .slice none 0 0]), 6, 64) := by kernel_rfl
set_option maxRecDepth 100000 in
set_option maxHeartbeats 25600000 in
theorem play49_any (d : Nat) (h1 : 1 ≤ d) (h6 : d ≤ 12) (seed : UInt64) (ov : Value) (os : List OpT) (w : World) (h : RdWops w ov os) (hs : ∀ o ∈ os, BSm o.b) (hlen : os.length ≤ 100) :
    Calls Tryz.prog 22 #[.int .i64 (d : Int), uv seed, ov] w fun e w' => ∃ W lv, e = .returned (.tuple #[.pointer (some ⟨W, 0, none⟩), lv, .bool true]) ∧ PlI w w' W d (fRed seed) (playW d os) lv := by
  obtain ⟨oa, oc, rfl, -⟩ := h.shape
  have HH := hid h
  have HS := hid hs
  have hoI : (os.length : Int) ≤ 100 := by omega
  have HOL := hid hlen
  have HD := hid (And.intro h1 h6)
  have HRL := hid (rules49_any (d : Int))
  have HNW : Hid (∀ u ob FO, OrcAt u ob realM FO → Calls Tryz.prog 27 #[.pointer (some ⟨ob, 0, none⟩), rlVal (rl49 (d : Int)), uv seed] u fun e w' => ∃ W G, e = .returned (.tuple #[.pointer (some ⟨W, 0, none⟩), .int .i64 0]) ∧ Ext u w' ∧ WalAt w' W d (fRed seed) [] G ∧ ∀ i, G i → u.heap.size ≤ i) := hid fun u ob FO ho => walNew_any ho (rl49 (d : Int)) d rfl h1 h6 (by show (2 : Int) ≠ 3; omega) seed (txRules49_any d h1 h6)
  obtain ⟨s, hsd⟩ : ∃ s, s = fRed seed := ⟨_, rfl⟩
  rw [← hsd] at HNW ⊢
  obtain ⟨j0, hj, hjz0, hjz1, hjz2⟩ := info_parts Tryz.infoBk
  have HJ := hid (And.intro hj (And.intro hjz0 (And.intro hjz1 hjz2)))
  clear h hs hlen h1 h6 hsd hj hjz0 hjz1 hjz2
  go_enter Tryz.func22, Tryz.ntmps22
  go_wp2_with fail
  refine (Real_any w).mono ?_
  rintro e w1 ⟨ob, FO, rfl, ho, hx, -⟩
  have HO := hid ho
  have X1 := hid hx
  clear ho hx
  go_wp2_with fail
  refine (HRL.out _).mono ?_
  rintro e w2 ⟨rfl, hx⟩
  have HO2 := hid (HO.out.ext hx)
  have X2 := hid (X1.out.trans hx)
  clear hx HRL HO
  go_wp2_with fail
  refine (HNW.out _ _ _ HO2.out).mono ?_
  rintro e w3 ⟨W, G, rfl, hx, hw, hg⟩
  have P0 : Hid (PlI w w3 W d s [] (.slice none 0 0)) := hid ⟨G, hw, fun i hi => Nat.le_trans X2.out.size (hg i hi), RdBs.nil w w3, (fun b e => by cases e), X2.out.trans hx⟩
  clear hw hg hx HNW HO2
  go_wp2_with fail
  go_loopw [11, 31] (fun lv iv wr => ∃ i : Nat, i ≤ os.length ∧ iv = .int .i64 i ∧ Hid (PlI w wr W d s (playTo d os i) lv)) (fun _ iv _ => os.length - (intOf iv).toNat)
  case atStart => exact ⟨0, by omega, rfl, P0⟩
  case round =>
    clear P0
    obtain ⟨i, hi, rfl, HI⟩ := hrel
    have hi0 : (0 : Int) ≤ (i : Int) := Int.natCast_nonneg _
    obtain ⟨G, hwal, hgn, hrd, hng, hxw⟩ := HI.out
    obtain ⟨la, lc, rfl, hlc1, hlc2⟩ := hrd.shape
    by_cases hlt : i < os.length
    · have hltB : decide ((i : Int) < (os.length : Int)) = true := decide_eq_true (by omega)
      have hil : (i : Int) < (os.length : Int) := by omega
      obtain ⟨x, hxi⟩ : ∃ x, os[i]? = some x := ⟨_, List.getElem?_eq_getElem hlt⟩
      have HSU := hid (playTo_succ (d := d) hxi)
      have HSX := hid (HS.out x (List.mem_of_getElem? hxi))
      obtain ⟨b, q, ta, tc, rfl, htx, e0, e1, e2, e3, e4, e5, e6⟩ := HH.out.at hxi
      replace e0 := hxw.cell_some e0
      replace e1 := hxw.cell_some e1
      replace e2 := hxw.cell_some e2
      replace e3 := hxw.cell_some e3
      replace e4 := hxw.cell_some e4
      replace e5 := hxw.cell_some e5
      replace e6 := hxw.cell_some e6
      have HTX := hid htx
      have HLL := hid (playTo_len (d := d) (ops := os) i)
      have HOK := hid (playTo_ok d os i)
      have HMB : Hid (∀ b ∈ playTo d os i, BSm b) := hid fun b hb => by
        obtain ⟨o, ho, rfl⟩ := playTo_mem i hb
        exact HS.out o ho
      obtain ⟨l, hl⟩ : ∃ l, l = playTo d os i := ⟨_, rfl⟩
      rw [← hl] at HI HSU HLL HOK HMB hwal hrd hlc1 hng ⊢
      obtain ⟨undo, blk0⟩ := x
      simp only at e0 e1 e2 e3 e4 e5 e6
      have HWA := hid (And.intro hwal (And.intro hgn (And.intro hrd (And.intro hng hxw))))
      have HLC := hid (And.intro hlc1 hlc2)
      have hlI : (l.length : Int) ≤ 100 := by have := HLL.out; omega
      clear htx hxi hl hwal hgn hrd hng hxw hlc1 hlc2
      go_upto_region 8 with fail
      obtain ⟨N, hN⟩ : ∃ N, N = wr.heap.size := ⟨_, rfl⟩
      obtain ⟨u1, hu1⟩ : ∃ u1, u1 = wr.alloc (.cells #[.bool undo, uv blk0.parent, .int .i64 blk0.height, uv blk0.miner, uv blk0.work, uv blk0.nonce, .slice ta blk0.txs.length tc] 78) := ⟨_, rfl⟩
      rw [← hu1, ← hN]
      have G1 : Hid (Ext wr u1) := hid (by rw [hu1]; exact (Ext.refl wr).alloc _)
      have NB : Hid (u1.heap[N]? = some (.cells #[.bool undo, uv blk0.parent, .int .i64 blk0.height, uv blk0.miner, uv blk0.work, uv blk0.nonce, .slice ta blk0.txs.length tc] 78 (0, 0))) := hid (by rw [hu1, hN]; exact heap_new _ _)
      have HNG : Hid (∀ j, G j → j ≠ N) := hid fun j hj => by have := HWA.out.1.lt j hj; omega
      clear hu1 hN e0 e1 e2 e3 e4 e5 e6
      obtain ⟨c0, c1, c2, c3, c4, c5, c6⟩ := seven_cells NB.out
      cases undo with
      | true =>
        have UN := hid (wUndo_any (HWA.out.1.ext G1.out) (by have := HLL.out; have := HOL.out; omega) HOK.out fun b hb => (HMB.out b hb).n)
        by_cases hz : l.length = 0
        · obtain rfl : l = [] := List.eq_nil_of_length_eq_zero hz
          have hb0 : decide (0 < ([] : List BlkT).length) = false := rfl
          have HDL : Hid (playTo d os (i + 1) = []) := hid (by rw [HSU.out]; rfl)
          clear hz
          go_wp2_with fail
          refine (UN.out).mono ?_
          rintro e u2 ⟨rfl, hto⟩
          have HT := hid (PlI.turn HWA.out.2.1 (HWA.out.2.2.1.ext G1.out) (fun b hb => ⟨(HWA.out.2.2.2.1 b hb).1, Nat.lt_of_lt_of_le (HWA.out.2.2.2.1 b hb).2 G1.out.size⟩) (HWA.out.2.2.2.2.trans G1.out) hto)
          clear hto UN c0 c1 c2 c3 c4 c5 c6
          rw [hb0]
          cases la with
          | none =>
            obtain rfl : lc = 0 := by
              obtain ⟨G', -, -, ⟨X, -, ⟨a', c', e, -, -, h4, -⟩, -⟩, -⟩ := HT.out
              injection e with e1 e2 e3
              rw [e3]
              exact h4 e1.symm
            have HN : Hid (PlI w u2 W d s (playTo d os (i + 1)) (.slice none 0 0)) := hid (by rw [HDL.out]; exact HT.out)
            go_wp2_with fail
            go_roundw
            case rel => exact ⟨i + 1, by omega, by go_num, HN⟩
            case measure => simp [intOf]; omega
          | some ad =>
            have HN : Hid (PlI w u2 W d s (playTo d os (i + 1)) (.slice (some ad) 0 lc)) := hid (by rw [HDL.out]; exact HT.out)
            go_wp2_with fail
            go_roundw
            case rel => exact ⟨i + 1, by omega, by go_num, HN⟩
            case measure => simp [intOf]; omega
        · have hb0 : decide (0 < l.length) = true := decide_eq_true (by omega)
          have hb1 : decide ((0 : Int) < (l.length : Int)) = true := decide_eq_true (by omega)
          have HDL : Hid (playTo d os (i + 1) = l.take (l.length - 1)) := hid (by rw [HSU.out, ← List.dropLast_eq_take]; rfl)
          obtain ⟨ad, rfl⟩ : ∃ ad, la = some ad := by
            cases la with
            | none =>
              obtain ⟨X, -, ⟨a', c', e, g2, -, g4, -⟩, -⟩ := HWA.out.2.2.1
              injection e with e1 e2 e3
              have := g4 e1.symm
              omega
            | some ad => exact ⟨ad, rfl⟩
          obtain ⟨m, hm⟩ : ∃ m, m = l.length - 1 := ⟨_, rfl⟩
          have hlm : l.length = m + 1 := by omega
          rw [← hm] at HDL
          have HLM := hid hlm
          clear hm hz
          go_wp2_with fail
          refine (UN.out).mono ?_
          rintro e u2 ⟨rfl, hto⟩
          have HT := hid (PlI.turn HWA.out.2.1 (HWA.out.2.2.1.ext G1.out) (fun b hb => ⟨(HWA.out.2.2.2.1 b hb).1, Nat.lt_of_lt_of_le (HWA.out.2.2.2.1 b hb).2 G1.out.size⟩) (HWA.out.2.2.2.2.trans G1.out) hto)
          have HN : Hid (PlI w u2 W d s (playTo d os (i + 1)) (.slice (some ad) m lc)) := hid (by
            rw [HDL.out]
            obtain ⟨G', g1, g2, g3, g4, g5⟩ := HT.out
            refine ⟨G', by rw [List.dropLast_eq_take, HLM.out] at g1; exact g1, g2, g3.take (by have := HLM.out; omega) (by have := HLM.out; have := HLC.out.1; omega) HLC.out.2 (fun e => by cases e), g4, g5⟩)
          clear hto UN c0 c1 c2 c3 c4 c5 c6 HT
          rw [hb0]
          have hmm : (m : Int) ≤ (lc : Int) := by have := HLC.out.1; omega
          have hif : (if 0 < m then (m : Int) else 0).toNat = m := by split <;> omega
          go_wp2_with fail
          go_roundw
          case rel => exact ⟨i + 1, by omega, by go_num, by first | exact HN | (rw [hif]; exact HN)⟩
          case measure => simp [intOf]; omega
      | false =>
        have CHK : Hid (∀ u, Ext wr u → Calls Tryz.prog 62 #[.int .i64 (d : Int), .slice la l.length lc, blkVal blk0 (.slice ta blk0.txs.length tc)] u fun e w' => e = .returned (.int .i64 (checkW d l blk0)) ∧ Ext u w') := hid fun u ku => rCheck_any d _ l blk0 _ u ((HWA.out.2.2.1.ext ku).old (HWA.out.2.2.2.2.trans ku)) (by have := HLL.out; have := HOL.out; omega) HMB.out (HTX.out.ext (HWA.out.2.2.2.2.trans ku)) HSX.out HD.out.2
        have APP : Hid (∀ u, Ext wr u → Calls Tryz.prog 42 #[.pointer (some ⟨W, 0, none⟩), blkVal blk0 (.slice ta blk0.txs.length tc)] u fun e w' => e = .returned (.int .i64 (checkW d l blk0)) ∧ WalTo u W d s (if checkW d l blk0 = 0 then l ++ [blk0] else l) G w') := hid fun u ku => wApply_any (HWA.out.1.ext ku) (by have := HLL.out; have := HOL.out; omega) HOK.out (HWA.out.2.2.2.2.trans ku) HWA.out.2.1 blk0 _ HTX.out HSX.out.n HSX.out.t
        have HSU2 : Hid (playTo d os (i + 1) = if checkW d l blk0 = 0 then l ++ [blk0] else l) := hid (by rw [HSU.out]; rfl)
        obtain ⟨C, hC⟩ : ∃ C, C = checkW d l blk0 := ⟨_, rfl⟩
        rw [← hC] at CHK APP HSU2
        clear hC HSU
        go_wp2_with fail
        refine (CHK.out _ G1.out).mono ?_
        rintro e u2 ⟨rfl, hx⟩
        have G2 := hid (G1.out.trans hx)
        have NB2 := hid (hx.heap_some NB.out)
        clear hx CHK c0 c1 c2 c3 c4 c5 c6
        obtain ⟨c0, c1, c2, c3, c4, c5, c6⟩ := seven_cells NB2.out
        go_wp2_with fail
        refine (APP.out _ G2.out).mono ?_
        rintro e u3 ⟨rfl, hto⟩
        have NB3 := hid (show u3.heap[N]? = some (.cells #[.bool false, uv blk0.parent, .int .i64 blk0.height, uv blk0.miner, uv blk0.work, uv blk0.nonce, .slice ta blk0.txs.length tc] 78 (0, 0)) from by
          obtain ⟨G', -, g2, -⟩ := hto
          exact g2.heap_some (fun e => HNG.out N e rfl) NB2.out)
        have HT := hid (PlI.turn HWA.out.2.1 (HWA.out.2.2.1.ext G2.out) (fun b hb => ⟨(HWA.out.2.2.2.1 b hb).1, Nat.lt_of_lt_of_le (HWA.out.2.2.2.1 b hb).2 G2.out.size⟩) (HWA.out.2.2.2.2.trans G2.out) hto)
        clear hto APP c0 c1 c2 c3 c4 c5 c6
        by_cases hz : C = 0
        case neg =>
          have hzB : decide (C = 0) = false := decide_eq_false hz
          have hzB2 : (C == 0) = false := by rw [beq_eq_false_iff_ne]; exact hz
          have HN : Hid (PlI w u3 W d s (playTo d os (i + 1)) (.slice la l.length lc)) := hid (by
            rw [HSU2.out, if_neg hz]
            have := HT.out
            rw [if_neg hz] at this
            exact this)
          clear HT
          go_wp2_with fail
          go_roundw
          case rel => exact ⟨i + 1, by omega, by go_num, HN⟩
          case measure => simp [intOf]; omega
        subst hz
        have HC16 : Hid (∀ u, Ext u3 u → (u.cell? ⟨N, 0, none⟩ = some (.bool false) ∧ u.cell? ⟨N, 1, none⟩ = some (uv blk0.parent) ∧ u.cell? ⟨N, 2, none⟩ = some (.int .i64 blk0.height) ∧ u.cell? ⟨N, 3, none⟩ = some (uv blk0.miner) ∧ u.cell? ⟨N, 4, none⟩ = some (uv blk0.work) ∧ u.cell? ⟨N, 5, none⟩ = some (uv blk0.nonce) ∧ u.cell? ⟨N, 6, none⟩ = some (.slice ta blk0.txs.length tc)) ∧ Ext u3 u) := hid fun u ku => ⟨seven_cells (ku.heap_some NB3.out), ku⟩
        have hlc0 : (l.length : Int) ≤ (lc : Int) := by have := HLC.out.1; omega
        cases la with
        | none =>
          obtain ⟨rfl, rfl⟩ : lc = 0 ∧ l = [] := by
            obtain ⟨G', -, -, ⟨X, -, ⟨a', c', e, g2, -, g4, -⟩, -⟩, -⟩ := HT.out
            injection e with e1 e2 e3
            have := g4 e1.symm
            exact ⟨by omega, List.eq_nil_of_length_eq_zero (by omega)⟩
          go_wp2_with fail
          refine wp_region_N (fun u => (u.cell? ⟨N, 0, none⟩ = some (.bool false) ∧ u.cell? ⟨N, 1, none⟩ = some (uv blk0.parent) ∧ u.cell? ⟨N, 2, none⟩ = some (.int .i64 blk0.height) ∧ u.cell? ⟨N, 3, none⟩ = some (uv blk0.miner) ∧ u.cell? ⟨N, 4, none⟩ = some (uv blk0.work) ∧ u.cell? ⟨N, 5, none⟩ = some (uv blk0.nonce) ∧ u.cell? ⟨N, 6, none⟩ = some (.slice ta blk0.txs.length tc)) ∧ Ext u3 u) 9 11 (by kernel_rfl) (by kernel_rfl) ?_
          intro ops hops
          have HR0 := HC16.out _ (Ext.refl u3).drew
          refine N_take (i := 0) (v := ?_) (by rw [hops, List.getElem?_toArray]; rfl) (by rw [hops]; kernel_rfl) (by intro c a d v w h; cases d <;> exact h) (by first | rfl | (rw [hops]; rfl)) ?_ HR0 ?_
          rotate_left
          · intro v h; go_simp; with_reducible rfl
          simp only [Act.put, List.getElem_toArray, List.getElem_cons_zero, List.getElem_cons_succ, List.setIfInBounds_toArray, List.set_cons_zero, List.set_cons_succ]
          refine N_take (i := 1) (v := ?_) (by rw [hops, List.getElem?_toArray]; rfl) (by rw [hops]; kernel_rfl) (by intro c a d v w h; cases d <;> exact h) (by first | rfl | (rw [hops]; rfl)) ?_ HR0 ?_
          rotate_left
          · intro v h; go_simp; with_reducible rfl
          simp only [Act.put, List.getElem_toArray, List.getElem_cons_zero, List.getElem_cons_succ, List.setIfInBounds_toArray, List.set_cons_zero, List.set_cons_succ]
          refine N_take (i := 2) (v := ?_) (by rw [hops, List.getElem?_toArray]; rfl) (by rw [hops]; kernel_rfl) (by intro c a d v w h; cases d <;> exact h) (by first | rfl | (rw [hops]; rfl)) ?_ HR0 ?_
          rotate_left
          · intro v h; go_simp; with_reducible rfl
          simp only [Act.put, List.getElem_toArray, List.getElem_cons_zero, List.getElem_cons_succ, List.setIfInBounds_toArray, List.set_cons_zero, List.set_cons_succ]
          refine N_take (i := 3) (v := ?_) (by rw [hops, List.getElem?_toArray]; rfl) (by rw [hops]; kernel_rfl) (by intro c a d v w h; cases d <;> exact h) (by first | rfl | (rw [hops]; rfl)) ?_ HR0 ?_
          rotate_left
          · intro v h; go_simp; with_reducible rfl
          simp only [Act.put, List.getElem_toArray, List.getElem_cons_zero, List.getElem_cons_succ, List.setIfInBounds_toArray, List.set_cons_zero, List.set_cons_succ]
          refine N_take (i := 4) (v := ?_) (by rw [hops, List.getElem?_toArray]; rfl) (by rw [hops]; kernel_rfl) (by intro c a d v w h; cases d <;> exact h) (by first | rfl | (rw [hops]; rfl)) ?_ HR0 ?_
          rotate_left
          · intro v h; go_simp; with_reducible rfl
          simp only [Act.put, List.getElem_toArray, List.getElem_cons_zero, List.getElem_cons_succ, List.setIfInBounds_toArray, List.set_cons_zero, List.set_cons_succ]
          refine N_take (i := 6) (v := ?_) (by rw [hops, List.getElem?_toArray]; rfl) (by rw [hops]; kernel_rfl) (by intro c a d v w h; cases d <;> exact h) (by first | rfl | (rw [hops]; rfl)) ?_ HR0 ?_
          rotate_left
          · intro v h; go_simp; with_reducible rfl
          simp only [Act.put, List.getElem_toArray, List.getElem_cons_zero, List.getElem_cons_succ, List.setIfInBounds_toArray, List.set_cons_zero, List.set_cons_succ]
          refine N_take (i := 7) (v := ?_) (by rw [hops, List.getElem?_toArray]; rfl) (by rw [hops]; kernel_rfl) (by intro c a d v w h; cases d <;> exact h) (by first | rfl | (rw [hops]; rfl)) ?_ HR0 ?_
          rotate_left
          · intro v h; go_simp; with_reducible rfl
          simp only [Act.put, List.getElem_toArray, List.getElem_cons_zero, List.getElem_cons_succ, List.setIfInBounds_toArray, List.set_cons_zero, List.set_cons_succ]
          refine N_take (i := 5) (v := ?_) (by rw [hops, List.getElem?_toArray]; rfl) (by rw [hops]; kernel_rfl) (by intro c a d v w h; cases d <;> exact h) (by first | rfl | (rw [hops]; rfl)) ?_ HR0 ?_
          rotate_left
          · intro v h; go_simp; with_reducible rfl
          simp only [Act.put, List.getElem_toArray, List.getElem_cons_zero, List.getElem_cons_succ, List.setIfInBounds_toArray, List.set_cons_zero, List.set_cons_succ]
          have hx8 : Ext u3 (u3.alloc (.cells #[uv blk0.parent, .int .i64 blk0.height, uv blk0.miner, uv blk0.work, uv blk0.nonce, .slice ta blk0.txs.length tc] 75)).drew := ((Ext.refl u3).alloc _).drew
          have hbb : (u3.alloc (.cells #[uv blk0.parent, .int .i64 blk0.height, uv blk0.miner, uv blk0.work, uv blk0.nonce, .slice ta blk0.txs.length tc] 75)).drew.heap[u3.drew.heap.size]? = some (.cells #[uv blk0.parent, .int .i64 blk0.height, uv blk0.miner, uv blk0.work, uv blk0.nonce, .slice ta blk0.txs.length tc] 75 (0, 0)) := heap_new u3 _
          refine N_one (i := 8) (by rw [hops, List.getElem?_toArray]; rfl) (by rw [hops]; kernel_rfl) (by first | rfl | (rw [hops]; rfl)) ?_
          intro K hK
          go_wp2_with fail
          refine ⟨fun _ => HC16.out _ hx8, ?_⟩
          try rw [← hops]
          refine N_one (i := 9) (by rw [hops, List.getElem?_toArray]; rfl) (by rw [hops]; kernel_rfl) (by first | rfl | (rw [hops]; rfl)) ?_
          intro K hK
          obtain ⟨G', g1, g2, ⟨X, x1, x2, x3⟩, g4, g5⟩ := HT.out
          have hxl : X.length = ([] : List BlkT).length := by rw [← x1, List.length_map]
          refine wp_grow _ _ 31 rfl 75 j0 (.agg #[.int .u64 0, .int .i64 0, .int .u64 0, .int .u64 0, .int .u64 0, .slice none 0 0]) 6 64 (by kernel_rfl) HJ.out.1 HJ.out.2.1 HJ.out.2.2.1 HJ.out.2.2.2 rfl (by decide) none 0 (X.flatMap blkCells) rfl (RdC'.full (x2.ext hx8)) (by rw [flat_len blkCells_len, hxl] <;> rfl) ⟨u3.drew.heap.size, 0, none⟩ 1 1 [uv blk0.parent, .int .i64 blk0.height, uv blk0.miner, uv blk0.work, uv blk0.nonce, .slice ta blk0.txs.length tc] rfl rfl (fun j u hu => by
            rw [Addr.add_lit, Nat.zero_add, cell_of hbb]
            simpa using hu) (by intro u hu; simp only [List.mem_cons, List.not_mem_nil, or_false] at hu; rcases hu with rfl | rfl | rfl | rfl | rfl | rfl <;> rfl) (by omega) (by unfold maxLen; omega) (by omega) ?_
          intro v' w9 hown hx9 hb9
          have hx39 := hx8.trans hx9
          have HN : Hid (PlI w w9 W d s (playTo d os (i + 1)) v') := hid (by
            have hsu := HSU2.out
            simp only [if_true] at hsu g1
            rw [hsu]
            have hsn := RdBs.snoc (w := w) (u := u3) (tv := .slice ta blk0.txs.length tc) x3 HTX.out (by rw [hxl]; exact hown) hx39
            rw [x1] at hsn
            refine ⟨G', g1.ext hx39, g2, hsn, fun b hb => ⟨fun hG => ?_, ownsRow_lt hown hb⟩, g5.trans hx39⟩
            have h1 := hb9 b hb
            have h2 := g1.lt b hG
            have h3 := hx8.size
            omega)
          obtain ⟨va, vc, rfl, -⟩ := ownsRow_rd hown
          refine hK _ _ ⟨fun h => absurd h (by decide), ?_⟩
          clear hK K
          clear hown hx9 hb9 hx39 g1 g2 g4 g5 x1 x2 x3 hxl hbb hx8 HR0
          refine N_one (i := 10) (by rw [hops, List.getElem?_toArray]; rfl) (by rw [hops]; kernel_rfl) (by first | rfl | (rw [hops]; rfl)) ?_
          intro K hK
          go_wp2_with fail
          refine ⟨fun h => absurd h (by decide), ?_⟩
          try rw [← hops]
          refine N_done (by rw [hops]; kernel_rfl) ?_
          clear hops ops
          go_wp2_with fail
          go_roundw
          case rel => exact ⟨i + 1, by omega, by go_num, HN⟩
          case measure => simp [intOf]; omega
        | some ad =>
          go_wp2_with fail
          refine wp_region_N (fun u => (u.cell? ⟨N, 0, none⟩ = some (.bool false) ∧ u.cell? ⟨N, 1, none⟩ = some (uv blk0.parent) ∧ u.cell? ⟨N, 2, none⟩ = some (.int .i64 blk0.height) ∧ u.cell? ⟨N, 3, none⟩ = some (uv blk0.miner) ∧ u.cell? ⟨N, 4, none⟩ = some (uv blk0.work) ∧ u.cell? ⟨N, 5, none⟩ = some (uv blk0.nonce) ∧ u.cell? ⟨N, 6, none⟩ = some (.slice ta blk0.txs.length tc)) ∧ Ext u3 u) 9 11 (by kernel_rfl) (by kernel_rfl) ?_
          intro ops hops
          have HR0 := HC16.out _ (Ext.refl u3).drew
          refine N_take (i := 0) (v := ?_) (by rw [hops, List.getElem?_toArray]; rfl) (by rw [hops]; kernel_rfl) (by intro c a d v w h; cases d <;> exact h) (by first | rfl | (rw [hops]; rfl)) ?_ HR0 ?_
          rotate_left
          · intro v h; go_simp; with_reducible rfl
          simp only [Act.put, List.getElem_toArray, List.getElem_cons_zero, List.getElem_cons_succ, List.setIfInBounds_toArray, List.set_cons_zero, List.set_cons_succ]
          refine N_take (i := 1) (v := ?_) (by rw [hops, List.getElem?_toArray]; rfl) (by rw [hops]; kernel_rfl) (by intro c a d v w h; cases d <;> exact h) (by first | rfl | (rw [hops]; rfl)) ?_ HR0 ?_
          rotate_left
          · intro v h; go_simp; with_reducible rfl
          simp only [Act.put, List.getElem_toArray, List.getElem_cons_zero, List.getElem_cons_succ, List.setIfInBounds_toArray, List.set_cons_zero, List.set_cons_succ]
          refine N_take (i := 2) (v := ?_) (by rw [hops, List.getElem?_toArray]; rfl) (by rw [hops]; kernel_rfl) (by intro c a d v w h; cases d <;> exact h) (by first | rfl | (rw [hops]; rfl)) ?_ HR0 ?_
          rotate_left
          · intro v h; go_simp; with_reducible rfl
          simp only [Act.put, List.getElem_toArray, List.getElem_cons_zero, List.getElem_cons_succ, List.setIfInBounds_toArray, List.set_cons_zero, List.set_cons_succ]
          refine N_take (i := 3) (v := ?_) (by rw [hops, List.getElem?_toArray]; rfl) (by rw [hops]; kernel_rfl) (by intro c a d v w h; cases d <;> exact h) (by first | rfl | (rw [hops]; rfl)) ?_ HR0 ?_
          rotate_left
          · intro v h; go_simp; with_reducible rfl
          simp only [Act.put, List.getElem_toArray, List.getElem_cons_zero, List.getElem_cons_succ, List.setIfInBounds_toArray, List.set_cons_zero, List.set_cons_succ]
          refine N_take (i := 4) (v := ?_) (by rw [hops, List.getElem?_toArray]; rfl) (by rw [hops]; kernel_rfl) (by intro c a d v w h; cases d <;> exact h) (by first | rfl | (rw [hops]; rfl)) ?_ HR0 ?_
          rotate_left
          · intro v h; go_simp; with_reducible rfl
          simp only [Act.put, List.getElem_toArray, List.getElem_cons_zero, List.getElem_cons_succ, List.setIfInBounds_toArray, List.set_cons_zero, List.set_cons_succ]
          refine N_take (i := 6) (v := ?_) (by rw [hops, List.getElem?_toArray]; rfl) (by rw [hops]; kernel_rfl) (by intro c a d v w h; cases d <;> exact h) (by first | rfl | (rw [hops]; rfl)) ?_ HR0 ?_
          rotate_left
          · intro v h; go_simp; with_reducible rfl
          simp only [Act.put, List.getElem_toArray, List.getElem_cons_zero, List.getElem_cons_succ, List.setIfInBounds_toArray, List.set_cons_zero, List.set_cons_succ]
          refine N_take (i := 7) (v := ?_) (by rw [hops, List.getElem?_toArray]; rfl) (by rw [hops]; kernel_rfl) (by intro c a d v w h; cases d <;> exact h) (by first | rfl | (rw [hops]; rfl)) ?_ HR0 ?_
          rotate_left
          · intro v h; go_simp; with_reducible rfl
          simp only [Act.put, List.getElem_toArray, List.getElem_cons_zero, List.getElem_cons_succ, List.setIfInBounds_toArray, List.set_cons_zero, List.set_cons_succ]
          refine N_take (i := 5) (v := ?_) (by rw [hops, List.getElem?_toArray]; rfl) (by rw [hops]; kernel_rfl) (by intro c a d v w h; cases d <;> exact h) (by first | rfl | (rw [hops]; rfl)) ?_ HR0 ?_
          rotate_left
          · intro v h; go_simp; with_reducible rfl
          simp only [Act.put, List.getElem_toArray, List.getElem_cons_zero, List.getElem_cons_succ, List.setIfInBounds_toArray, List.set_cons_zero, List.set_cons_succ]
          have hx8 : Ext u3 (u3.alloc (.cells #[uv blk0.parent, .int .i64 blk0.height, uv blk0.miner, uv blk0.work, uv blk0.nonce, .slice ta blk0.txs.length tc] 75)).drew := ((Ext.refl u3).alloc _).drew
          have hbb : (u3.alloc (.cells #[uv blk0.parent, .int .i64 blk0.height, uv blk0.miner, uv blk0.work, uv blk0.nonce, .slice ta blk0.txs.length tc] 75)).drew.heap[u3.drew.heap.size]? = some (.cells #[uv blk0.parent, .int .i64 blk0.height, uv blk0.miner, uv blk0.work, uv blk0.nonce, .slice ta blk0.txs.length tc] 75 (0, 0)) := heap_new u3 _
          refine N_one (i := 8) (by rw [hops, List.getElem?_toArray]; rfl) (by rw [hops]; kernel_rfl) (by first | rfl | (rw [hops]; rfl)) ?_
          intro K hK
          go_wp2_with fail
          refine ⟨fun _ => HC16.out _ hx8, ?_⟩
          try rw [← hops]
          refine N_one (i := 9) (by rw [hops, List.getElem?_toArray]; rfl) (by rw [hops]; kernel_rfl) (by first | rfl | (rw [hops]; rfl)) ?_
          intro K hK
          obtain ⟨G', g1, g2, ⟨X, x1, x2, x3⟩, g4, g5⟩ := HT.out
          have hxl : X.length = l.length := by rw [← x1, List.length_map]
          refine wp_grow _ _ 31 rfl 75 j0 (.agg #[.int .u64 0, .int .i64 0, .int .u64 0, .int .u64 0, .int .u64 0, .slice none 0 0]) 6 64 (by kernel_rfl) HJ.out.1 HJ.out.2.1 HJ.out.2.2.1 HJ.out.2.2.2 rfl (by decide) (some ad) l.length (X.flatMap blkCells) rfl (RdC'.full (x2.ext hx8)) (by rw [flat_len blkCells_len, hxl] <;> rfl) ⟨u3.drew.heap.size, 0, none⟩ 1 1 [uv blk0.parent, .int .i64 blk0.height, uv blk0.miner, uv blk0.work, uv blk0.nonce, .slice ta blk0.txs.length tc] rfl rfl (fun j u hu => by
            rw [Addr.add_lit, Nat.zero_add, cell_of hbb]
            simpa using hu) (by intro u hu; simp only [List.mem_cons, List.not_mem_nil, or_false] at hu; rcases hu with rfl | rfl | rfl | rfl | rfl | rfl <;> rfl) (by omega) (by unfold maxLen; omega) (by omega) ?_
          intro v' w9 hown hx9 hb9
          have hx39 := hx8.trans hx9
          have HN : Hid (PlI w w9 W d s (playTo d os (i + 1)) v') := hid (by
            have hsu := HSU2.out
            simp only [if_true] at hsu g1
            rw [hsu]
            have hsn := RdBs.snoc (w := w) (u := u3) (tv := .slice ta blk0.txs.length tc) x3 HTX.out (by rw [hxl]; exact hown) hx39
            rw [x1] at hsn
            refine ⟨G', g1.ext hx39, g2, hsn, fun b hb => ⟨fun hG => ?_, ownsRow_lt hown hb⟩, g5.trans hx39⟩
            have h1 := hb9 b hb
            have h2 := g1.lt b hG
            have h3 := hx8.size
            omega)
          obtain ⟨va, vc, rfl, -⟩ := ownsRow_rd hown
          refine hK _ _ ⟨fun h => absurd h (by decide), ?_⟩
          clear hK K
          clear hown hx9 hb9 hx39 g1 g2 g4 g5 x1 x2 x3 hxl hbb hx8 HR0
          refine N_one (i := 10) (by rw [hops, List.getElem?_toArray]; rfl) (by rw [hops]; kernel_rfl) (by first | rfl | (rw [hops]; rfl)) ?_
          intro K hK
          go_wp2_with fail
          refine ⟨fun h => absurd h (by decide), ?_⟩
          try rw [← hops]
          refine N_done (by rw [hops]; kernel_rfl) ?_
          clear hops ops
          go_wp2_with fail
          go_roundw
          case rel => exact ⟨i + 1, by omega, by go_num, HN⟩
          case measure => simp [intOf]; omega
    · have hltB : decide ((i : Int) < (os.length : Int)) = false := decide_eq_false (by omega)
      obtain rfl : i = os.length := by omega
      rw [playTo_all] at HI
      clear hwal hgn hrd hng hxw hlc1 hlc2
      go_wp2_with fail
      refine bodyPost_ret (v := .tuple #[.pointer (some ⟨W, 0, none⟩), .slice la (playTo d os os.length).length lc, .bool true]) (by simp [results, Tryz.results22, go_sem]) rfl ⟨W, _, rfl, by rw [playTo_all]; exact HI.out⟩
end Go.Proofs.YtcikjcjfcanloaaGreat
namespace Go.Proofs.YtcikjcjfcanloaaGreat
open Go.RowKit
/-- Powers by squaring, from the lowest bit upwards. -/
def ePowB : Nat → E2 → E2 → Nat → E2
  | 0, r, _, _ => r
  | k + 1, r, a, y => ePowB k (if y % 2 = 1 then eMul r a else r) (eMul a a) (y / 2)
theorem ePowB_up {x : E2} {e : UInt64} : ∀ (k : Nat) {r a : E2} {y : Nat}, y < 2 ^ k → upInv x e r a y → ePowB k r a y = ePow x e
  | 0, r, a, y, hy, h => by
    obtain rfl : y = 0 := by omega
    exact up_end h
  | k + 1, r, a, y, hy, h => by
    unfold ePowB
    have hy2 : y / 2 < 2 ^ k := by rw [Nat.pow_succ] at hy; omega
    rcases Nat.mod_two_eq_zero_or_one y with h0 | h0
    · rw [if_neg (by omega)]
      exact ePowB_up k hy2 (up_even h h0)
    · rw [if_pos h0]
      exact ePowB_up k hy2 (up_odd h h0)
theorem ePow_bin {x : E2} (hx : x.red) (e : UInt64) : ePow x e = ePowB 64 eOne x e.toNat := (ePowB_up 64 e.toNat_lt (up_start hx e)).symm
def forceN {α : Type} (n : Nat) (f : Nat → α) : α := Nat.rec (motive := fun _ => α) (f 0) (fun m _ => f (m + 1)) n
theorem forceN_eq {α : Type} (n : Nat) (f : Nat → α) : forceN n f = f n := by cases n <;> rfl
def mA (a b c d : Nat) : Nat := (a * c + 7 * (b * d)) % 18446744069414584321
def mB (a b c d : Nat) : Nat := (a * d + b * c) % 18446744069414584321
def powN : Nat → Nat → Nat → Nat → Nat → Nat → Nat × Nat
  | 0, ra, rb, _, _, _ => (ra, rb)
  | k + 1, ra, rb, aa, ab, y => forceN (if y % 2 = 1 then mA ra rb aa ab else ra) fun ra' => forceN (if y % 2 = 1 then mB ra rb aa ab else rb) fun rb' => forceN (mA aa ab aa ab) fun aa' => forceN (mB aa ab aa ab) fun ab' => forceN (y / 2) fun y' => powN k ra' rb' aa' ab' y'
theorem eMul_N (x y : E2) : (eMul x y).a.toNat = mA x.a.toNat x.b.toNat y.a.toNat y.b.toNat ∧ (eMul x y).b.toNat = mB x.a.toNat x.b.toNat y.a.toNat y.b.toNat := by
  refine ⟨?_, ?_⟩
  · show (fAdd (fMul x.a y.a) (fMul 7 (fMul x.b y.b))).toNat = _
    rw [fAdd_toNat, fMul_toNat, fMul_toNat, fMul_toNat]
    unfold mA
    rw [show (7 : UInt64).toNat = 7 from rfl, Nat.mul_mod 7, Nat.mod_mod, ← Nat.mul_mod, ← Nat.add_mod]
  · show (fAdd (fMul x.a y.b) (fMul x.b y.a)).toNat = _
    rw [fAdd_toNat, fMul_toNat, fMul_toNat]
    unfold mB
    rw [← Nat.add_mod]
theorem ePowB_N : ∀ (k : Nat) (r a : E2) (y : Nat), ((ePowB k r a y).a.toNat, (ePowB k r a y).b.toNat) = powN k r.a.toNat r.b.toNat a.a.toNat a.b.toNat y
  | 0, r, a, y => rfl
  | k + 1, r, a, y => by
    unfold ePowB powN
    rw [forceN_eq, forceN_eq, forceN_eq, forceN_eq, forceN_eq, ePowB_N k, (eMul_N a a).1, (eMul_N a a).2]
    by_cases h : y % 2 = 1
    · rw [if_pos h, if_pos h, if_pos h, (eMul_N r a).1, (eMul_N r a).2]
    · rw [if_neg h, if_neg h, if_neg h]
theorem ePowB_lit {x : E2} {n : Nat} {a b : UInt64} (h : powN 64 1 0 x.a.toNat x.b.toNat n = (a.toNat, b.toNat)) : ePowB 64 eOne x n = ⟨a, b⟩ := by
  have h1 := ePowB_N 64 eOne x n
  rw [show eOne.a.toNat = 1 from rfl, show eOne.b.toNat = 0 from rfl, h] at h1
  injection h1 with e1 e2
  have e1 := UInt64.toNat_inj.1 e1
  have e2 := UInt64.toNat_inj.1 e2
  generalize ePowB 64 eOne x n = z at *
  obtain ⟨z1, z2⟩ := z
  simp only at e1 e2
  rw [e1, e2]
def xV0 : UInt64 := 17658695623988688326
def xV1 : UInt64 := 2633867341115112118
def xV2 : UInt64 := 9638245508207006314
def xSp : UInt64 := 6040367037375195897
def xOw : UInt64 := 4071272887869016430
def xRho : UInt64 := 10239556913083052028
def xP : E2 := ⟨10878914, 4111843⟩
def xA : E2 := ⟨11713955404755885367, 7658683721487212170⟩
def xS : E2 := ⟨12281203851179081228, 4442088135817794809⟩
def xS0 : E2 := ⟨6472688763884982878, 5243997503848243523⟩
def xS1 : E2 := ⟨14232996761771220660, 1023631873240386135⟩
def xK : UInt64 := 3570661342497388643
def xK0 : UInt64 := 13035951056285280405
def xK1 : UInt64 := 16614474413386181160
def xC : UInt64 := 4075432939398275170
def xCi : List UInt64 := [8899924785255627918, 4508957794888140967, 10731619562102774493]
def xMk : UInt64 := 16292707898289098009
def xN : Nt := ⟨5, xOw, xRho, 8⟩
def xO : OutT := ⟨xC, xP, xCi⟩
set_option maxRecDepth 100000 in
theorem x_sp : kSpend 7 = xSp := by decide +kernel
set_option maxRecDepth 100000 in
theorem x_v0 : kView 7 0 = xV0 := by decide +kernel
set_option maxRecDepth 100000 in
theorem x_v1 : kView 7 1 = xV1 := by decide +kernel
set_option maxRecDepth 100000 in
theorem x_v2 : kView 7 2 = xV2 := by decide +kernel
set_option maxRecDepth 100000 in
theorem x_ow : kOwner xSp 2 = xOw := by decide +kernel
set_option maxRecDepth 100000 in
theorem x_acc : hashU 5 [3, 0] = 80953228066492165 := by decide +kernel
set_option maxRecDepth 100000 in
theorem x_rho : hashU 4 [80953228066492165, 0] = xRho := by decide +kernel
set_option maxRecDepth 100000 in
theorem x_com : hashU 2 xN.list = xC := by decide +kernel
set_option maxRecDepth 100000 in
theorem x_key : envKey xS xP = xK := by decide +kernel
set_option maxRecDepth 100000 in
theorem x_key0 : envKey xS0 xP = xK0 := by decide +kernel
set_option maxRecDepth 100000 in
theorem x_key1 : envKey xS1 xP = xK1 := by decide +kernel
set_option maxRecDepth 100000 in
theorem x_ci : cipSeal xK 0 [5, 8] = xCi := by decide +kernel
set_option maxRecDepth 100000 in
theorem x_op0 : cipOpen xK0 0 xCi = ([], false) := by decide +kernel
set_option maxRecDepth 100000 in
theorem x_op1 : cipOpen xK1 0 xCi = ([], false) := by decide +kernel
set_option maxRecDepth 100000 in
theorem x_op2 : cipOpen xK 0 xCi = ([5, 8], true) := by decide +kernel
set_option maxRecDepth 100000 in
theorem x_mk : markW xSp xRho = xMk := by decide +kernel
set_option maxRecDepth 100000 in
theorem x_pub : pPublic 11 = xP := by
  unfold pPublic
  rw [ePow_bin pBase_red]
  exact ePowB_lit (by decide +kernel)
set_option maxRecDepth 100000 in
theorem x_adr : pPublic xV2 = xA := by
  unfold pPublic
  rw [ePow_bin pBase_red]
  exact ePowB_lit (by decide +kernel)
theorem xP_ok : validP xP = true := by decide +kernel
theorem xA_ok : validP xA = true := by decide +kernel
set_option maxRecDepth 100000 in
theorem x_sh : pShared xA 11 = xS := by
  unfold pShared
  rw [if_pos xA_ok, ePow_bin (validP_red xA_ok)]
  exact ePowB_lit (by decide +kernel)
set_option maxRecDepth 100000 in
theorem x_sh0 : pShared xP xV0 = xS0 := by
  unfold pShared
  rw [if_pos xP_ok, ePow_bin (validP_red xP_ok)]
  exact ePowB_lit (by decide +kernel)
set_option maxRecDepth 100000 in
theorem x_sh1 : pShared xP xV1 = xS1 := by
  unfold pShared
  rw [if_pos xP_ok, ePow_bin (validP_red xP_ok)]
  exact ePowB_lit (by decide +kernel)
set_option maxRecDepth 100000 in
theorem x_sh2 : pShared xP xV2 = xS := by
  unfold pShared
  rw [if_pos xP_ok, ePow_bin (validP_red xP_ok)]
  exact ePowB_lit (by decide +kernel)
def xT0 : TxT := ⟨0, [], [], 5, 0, 0, 3, 0, 9, []⟩
def xT1 : TxT := ⟨0, [], [xO], 5, 0, 0, 3, 0, 9, []⟩
def xB1 : BlkT := ⟨0, 1, 0, 0, 0, [xT1]⟩
def xT2 : TxT := ⟨0, [xMk], [], 0, 0, 0, 0, 0, 9, []⟩
def xB2 : BlkT := ⟨0, 2, 0, 0, 0, [xT2]⟩
theorem x_ok0 : txV xT0 = 0 := by decide +kernel
theorem x_ok1 : txV xT1 = 0 := by decide +kernel
theorem x_ok2 : txV xT2 = 0 := by decide +kernel
theorem x_rho0 : rhoT xT0 0 = xRho := by
  unfold rhoT originT
  rw [if_pos x_ok0]
  show hashU 4 [hashU 5 [3, 0], 0] = _
  rw [x_acc, x_rho]
theorem x_rho1 : rhoT xT1 0 = xRho := by
  unfold rhoT originT
  rw [if_pos x_ok1]
  show hashU 4 [hashU 5 [3, 0], 0] = _
  rw [x_acc, x_rho]
theorem x_env (v : UInt64) : realM.envOpen v xO.p xO.cipher = pick2 (cipOpen (envKey (pShared xP v) xP) 0 xCi) := by
  unfold Orc.envOpen Orc.openT
  rw [if_pos (show validP xO.p = true from xP_ok), show realM.ideal = false from rfl]
  simp only [Bool.false_eq_true, if_false]
  rfl
theorem x_try0 : (tryW 7 0 xO xRho).2 = false := by
  unfold tryW
  rw [x_env, show kView 7 ((0 : Nat) : Int) = xV0 from x_v0, x_sh0, x_key0, x_op0]
  show (tryR 7 0 xO.commit xRho (0, 0, false) (commitK realM)).2 = false
  rw [tryR_shut]
theorem x_try1 : (tryW 7 1 xO xRho).2 = false := by
  unfold tryW
  rw [x_env, show kView 7 ((1 : Nat) : Int) = xV1 from x_v1, x_sh1, x_key1, x_op1]
  show (tryR 7 1 xO.commit xRho (0, 0, false) (commitK realM)).2 = false
  rw [tryR_shut]
theorem x_pk : realM.peek 2 xN.list = (xC, true) := by
  unfold Orc.peek
  rw [if_pos (show allE xN.list = true by decide +kernel), show realM.qs = [] from rfl]
  show (if realM.ideal = true then (0, false) else (hashU 2 xN.list, true)) = _
  rw [show realM.ideal = false from rfl, x_com]
  rfl
theorem x_ck : commitK realM xN = (xC, true) := by
  unfold commitK
  rw [if_pos (show xN.ok = true by decide +kernel), x_pk]
theorem x_try2 : tryW 7 2 xO xRho = (xN, true) := by
  unfold tryW
  rw [x_env, show kView 7 ((2 : Nat) : Int) = xV2 from x_v2, x_sh2, x_key, x_op2]
  show tryR 7 2 xO.commit xRho (5, 8, true) (commitK realM) = _
  rw [tryR_open (own := xOw) (c := xC) (k := true) (by decide) (by rw [x_sp]; exact x_ow) x_ck]
  rfl
theorem find_two {seed : UInt64} {o : OutT} {rho : UInt64} {n : Nt} (h0 : (tryW seed 0 o rho).2 = false) (h1 : (tryW seed 1 o rho).2 = false) (h2 : tryW seed 2 o rho = (n, true)) : findW seed o rho = some (n, 2) := by
  unfold findW findTo findTo findTo findTo findTo
  simp only [h0, h1, h2]
  rfl
theorem x_find : findW 7 xO xRho = some (xN, 2) := find_two x_try0 x_try1 x_try2
theorem x_st1 : stW 7 [xB1] = ⟨[xC], [⟨xN, 2, 0, 1, 0⟩], []⟩ := by
  show txW 7 1 ⟨[], [], []⟩ xT1 = _
  unfold txW
  show recv1 7 1 xT1 ⟨[], [], []⟩ 0 xO = _
  unfold recv1
  rw [x_rho1, x_find]
  rfl
theorem x_hit : hitW (kSpend 7) xT2.marks ⟨xN, 2, 0, 1, 0⟩ = true := by
  unfold hitW
  show (decide ((0 : Nat) = 0) && [xMk].contains (markW (kSpend 7) xRho)) = true
  rw [x_sp, x_mk]
  simp
theorem x_st2 : stW 7 [xB1, xB2] = ⟨[xC], [⟨xN, 2, 0, 1, 2⟩], [0]⟩ := by
  show blkW 7 2 (stW 7 [xB1]).leaves (stW 7 [xB1]).notes xB2 = _
  rw [x_st1]
  show txW 7 2 ⟨[xC], [⟨xN, 2, 0, 1, 0⟩], []⟩ xT2 = _
  have h1 : spendW (kSpend 7) 2 xT2.marks ⟨[xC], [⟨xN, 2, 0, 1, 0⟩], []⟩ = ⟨[xC], [⟨xN, 2, 0, 1, 2⟩], [0]⟩ := by
    show spendTo (kSpend 7) 2 xT2.marks ⟨[xC], [⟨xN, 2, 0, 1, 0⟩], []⟩ (0 + 1) = _
    rw [spendTo_succ (n := ⟨xN, 2, 0, 1, 0⟩) rfl, x_hit]
    unfold outW
    rw [x_hit]
    rfl
  unfold txW
  rw [h1]
  rfl
end Go.Proofs.YtcikjcjfcanloaaGreat
