/- Texts of this claim, joined: RecE. -/
import Derived.Test.YtcikjcjfcanloaaGreatJr23
set_option linter.unusedSimpArgs false
namespace Go.Proofs.YtcikjcjfcanloaaGreat
open Go.RowKit
attribute [local irreducible] perm fAdd fMul fPow fSub fNeg fRed hashU drawOf nextState
set_option maxRecDepth 100000 in
set_option maxHeartbeats 1600000 in
theorem rules51_any (d : Int) (w : World) : Calls Tryz.prog 46 #[.int .i64 d] w fun e w' => e = .returned (rlVal (rl49 d)) ∧ Ext w w' := by
  have hb := heap_new w (.cells #[.int .i64 0, .int .i64 0, .int .i64 0, .int .i64 0, .int .i64 0, .int .u64 0, .int .i64 0, .int .i64 0, .int .u64 0] 45)
  obtain ⟨N, hN⟩ : ∃ N, N = w.heap.size := ⟨_, rfl⟩
  obtain ⟨w0, hw0⟩ : ∃ w0, w0 = w.alloc (.cells #[.int .i64 0, .int .i64 0, .int .i64 0, .int .i64 0, .int .i64 0, .int .u64 0, .int .i64 0, .int .i64 0, .int .u64 0] 45) := ⟨_, rfl⟩
  have hx0 : Ext w w0 := by rw [hw0]; exact (Ext.refl w).alloc _
  rw [← hw0, ← hN] at hb
  have HX0 := hid hx0
  have HNN : Hid (w.heap.size ≤ N) := hid (by omega)
  have HW := hid hw0
  obtain ⟨c0, c1, c2, c3, c4, c5, c6, c7, c8⟩ := nine_cells hb
  have fz := frozen_of hb
  have HB := hid hb
  clear hw0 hx0 hb
  go_enter Tryz.func46, Tryz.ntmps46
  go_upto_region 1 with fail
  rw [← HW.out, ← hN]
  clear hN HW
  go_wp2_with fail
  have hbz := (heap_setCell_same (heap_setCell_same (heap_setCell_same (heap_setCell_same (heap_setCell_same (heap_setCell_same (heap_setCell_same (heap_setCell_same (heap_setCell_same HB.out 0 (.int .i64 2)) 1 (.int .i64 d)) 2 (.int .i64 0)) 3 (.int .i64 0)) 4 (.int .i64 0)) 5 (.int .u64 50)) 6 (.int .i64 10)) 7 (.int .i64 10)) 8 (.int .u64 1))
  have hkz : Kp (fun j => j = N) w0 (((((((((w0.setCell ⟨N, 0, none⟩ (.int .i64 2)).setCell ⟨N, 1, none⟩ (.int .i64 d)).setCell ⟨N, 2, none⟩ (.int .i64 0)).setCell ⟨N, 3, none⟩ (.int .i64 0)).setCell ⟨N, 4, none⟩ (.int .i64 0)).setCell ⟨N, 5, none⟩ (.int .u64 50)).setCell ⟨N, 6, none⟩ (.int .i64 10)).setCell ⟨N, 7, none⟩ (.int .i64 10)).setCell ⟨N, 8, none⟩ (.int .u64 1)) := ((((((((((Kp.refl (fun j => j = N) w0).setCell (p := ⟨N, 0, none⟩) (.inl rfl) (.int .i64 2)).setCell (p := ⟨N, 1, none⟩) (.inl rfl) (.int .i64 d)).setCell (p := ⟨N, 2, none⟩) (.inl rfl) (.int .i64 0)).setCell (p := ⟨N, 3, none⟩) (.inl rfl) (.int .i64 0)).setCell (p := ⟨N, 4, none⟩) (.inl rfl) (.int .i64 0)).setCell (p := ⟨N, 5, none⟩) (.inl rfl) (.int .u64 50)).setCell (p := ⟨N, 6, none⟩) (.inl rfl) (.int .i64 10)).setCell (p := ⟨N, 7, none⟩) (.inl rfl) (.int .i64 10)).setCell (p := ⟨N, 8, none⟩) (.inl rfl) (.int .u64 1))
  have hxz : Ext w (((((((((w0.setCell ⟨N, 0, none⟩ (.int .i64 2)).setCell ⟨N, 1, none⟩ (.int .i64 d)).setCell ⟨N, 2, none⟩ (.int .i64 0)).setCell ⟨N, 3, none⟩ (.int .i64 0)).setCell ⟨N, 4, none⟩ (.int .i64 0)).setCell ⟨N, 5, none⟩ (.int .u64 50)).setCell ⟨N, 6, none⟩ (.int .i64 10)).setCell ⟨N, 7, none⟩ (.int .i64 10)).setCell ⟨N, 8, none⟩ (.int .u64 1)) := HX0.out.kp hkz fun j e => by have := HNN.out; omega
  generalize (((((((((w0.setCell ⟨N, 0, none⟩ (.int .i64 2)).setCell ⟨N, 1, none⟩ (.int .i64 d)).setCell ⟨N, 2, none⟩ (.int .i64 0)).setCell ⟨N, 3, none⟩ (.int .i64 0)).setCell ⟨N, 4, none⟩ (.int .i64 0)).setCell ⟨N, 5, none⟩ (.int .u64 50)).setCell ⟨N, 6, none⟩ (.int .i64 10)).setCell ⟨N, 7, none⟩ (.int .i64 10)).setCell ⟨N, 8, none⟩ (.int .u64 1)) = W at *
  obtain ⟨r0, r1, r2, r3, r4, r5, r6, r7, r8⟩ := nine_cells hbz
  exact bodyPost_ret (v := .agg #[.int .i64 2, .int .i64 d, .int .i64 0, .int .i64 0, .int .i64 0, .int .u64 50, .int .i64 10, .int .i64 10, .int .u64 1]) (by simp [results, Tryz.results46, go_sem, r0, r1, r2, r3, r4, r5, r6, r7, r8]) rfl ⟨rfl, hxz⟩
def mndB (h : Int) (m : UInt64) : BlkT := ⟨0, h, m, 0, 0, []⟩
set_option maxRecDepth 100000 in
theorem mined_any (h : Int) (m : UInt64) (w : World) : Calls Tryz.prog 91 #[.int .i64 h, uv m] w fun e w' => e = .returned (.agg #[.int .u64 0, .int .i64 h, uv m, .int .u64 0, .int .u64 0, .slice none 0 0]) ∧ Ext w w' := by
  have hb := heap_new w (.cells #[.int .u64 0, .int .i64 0, .int .u64 0, .int .u64 0, .int .u64 0, .slice none 0 0] 75)
  obtain ⟨N, hN⟩ : ∃ N, N = w.heap.size := ⟨_, rfl⟩
  obtain ⟨w0, hw0⟩ : ∃ w0, w0 = w.alloc (.cells #[.int .u64 0, .int .i64 0, .int .u64 0, .int .u64 0, .int .u64 0, .slice none 0 0] 75) := ⟨_, rfl⟩
  have hx0 : Ext w w0 := by rw [hw0]; exact (Ext.refl w).alloc _
  rw [← hw0, ← hN] at hb
  have HX0 := hid hx0
  have HNN : Hid (w.heap.size ≤ N) := hid (by omega)
  have HW := hid hw0
  obtain ⟨c0, c1, c2, c3, c4, c5⟩ := six_cellsB hb
  have fz := frozen_of hb
  have HB := hid hb
  clear hw0 hx0 hb
  go_enter Tryz.func91, Tryz.ntmps91
  go_upto_region 1 with fail
  rw [← HW.out, ← hN]
  clear hN HW
  go_wp2_with fail
  have hbz := (heap_setCell_same (heap_setCell_same (heap_setCell_same (heap_setCell_same (heap_setCell_same (heap_setCell_same HB.out 0 (.int .u64 0)) 1 (.int .i64 h)) 2 (.int .u64 m.toNat)) 3 (.int .u64 0)) 4 (.int .u64 0)) 5 (.slice none 0 0))
  have hkz : Kp (fun j => j = N) w0 ((((((w0.setCell ⟨N, 0, none⟩ (.int .u64 0)).setCell ⟨N, 1, none⟩ (.int .i64 h)).setCell ⟨N, 2, none⟩ (.int .u64 m.toNat)).setCell ⟨N, 3, none⟩ (.int .u64 0)).setCell ⟨N, 4, none⟩ (.int .u64 0)).setCell ⟨N, 5, none⟩ (.slice none 0 0)) := ((((((Kp.refl (fun j => j = N) w0).setCell (p := ⟨N, 0, none⟩) (.inl rfl) (.int .u64 0)).setCell (p := ⟨N, 1, none⟩) (.inl rfl) (.int .i64 h)).setCell (p := ⟨N, 2, none⟩) (.inl rfl) (.int .u64 m.toNat)).setCell (p := ⟨N, 3, none⟩) (.inl rfl) (.int .u64 0)).setCell (p := ⟨N, 4, none⟩) (.inl rfl) (.int .u64 0)).setCell (p := ⟨N, 5, none⟩) (.inl rfl) (.slice none 0 0)
  have hxz := HX0.out.kp hkz fun j e => by have := HNN.out; omega
  generalize (((((w0.setCell ⟨N, 0, none⟩ (.int .u64 0)).setCell ⟨N, 1, none⟩ (.int .i64 h)).setCell ⟨N, 2, none⟩ (.int .u64 m.toNat)).setCell ⟨N, 3, none⟩ (.int .u64 0)).setCell ⟨N, 4, none⟩ (.int .u64 0)).setCell ⟨N, 5, none⟩ (.slice none 0 0) = W at *
  obtain ⟨r0, r1, r2, r3, r4, r5⟩ := six_cellsB hbz
  exact bodyPost_ret (v := .agg #[.int .u64 0, .int .i64 h, uv m, .int .u64 0, .int .u64 0, .slice none 0 0]) (by simp [results, Tryz.results91, go_sem, r0, r1, r2, r3, r4, r5]) rfl ⟨rfl, hxz⟩
theorem txs_nil (w : World) : RdTs w (.slice none 0 0) [] := ⟨[], rfl, (RdC.nil w).weak, fun x h => by cases h⟩
theorem rd_mined {w : World} {g n : Nat} {L : List (Int × UInt64)} {cs : Array Value} {T : TypeId} (h : w.heap[g]? = some (.cells cs T (0, 0))) (hn : n = L.length) (hl : n ≤ 100) (hc : cs.toList = L.flatMap fun x => [.int .u64 0, .int .i64 x.1, uv x.2, .int .u64 0, .int .u64 0, .slice none 0 0]) : RdBs w w (.slice (some ⟨g, 0, none⟩) n n) (L.map fun x => mndB x.1 x.2) := by
  subst hn
  refine ⟨L.map fun x => (mndB x.1 x.2, .slice none 0 0), by simp, ?_, fun x hx => ?_⟩
  · rw [List.length_map]
    refine RdC.weak ⟨_, L.length, rfl, Nat.le_refl _, by unfold maxLen; omega, (fun e => by cases e), fun ad ha => ?_⟩
    obtain rfl := Option.some.inj ha
    refine ⟨rfl, fun j u hu => ?_⟩
    rw [cell_of h]
    have e : (L.map fun x => (mndB x.1 x.2, Value.slice none 0 0)).flatMap blkCells = cs.toList := by
      rw [hc, List.flatMap_map]
      rfl
    rw [e] at hu
    simpa using hu
  · obtain ⟨y, -, rfl⟩ := List.mem_map.1 hx
    exact txs_nil w
theorem std_mined {w : World} {G : Nat → Prop} {g n : Nat} {L : List (Int × UInt64)} {cs : Array Value} {T : TypeId} (h : w.heap[g]? = some (.cells cs T (0, 0))) (hG : ¬ G g) (hn : n = L.length) (hl : n ≤ 100) (hc : cs.toList = L.flatMap fun x => [.int .u64 0, .int .i64 x.1, uv x.2, .int .u64 0, .int .u64 0, .slice none 0 0]) : StD G w (.slice (some ⟨g, 0, none⟩) n n) (L.map fun x => mndB x.1 x.2) := fun _ ku => rd_mined (ku.heap_some hG h) hn hl hc
theorem mnd_sm (h : Int) (m : UInt64) : BSm (mndB h m) := ⟨by simp [mndB], fun t ht => by cases ht⟩
def lABC : List BlkT := [mndB 1 1, mndB 2 2, mndB 3 3]
def lAD : List BlkT := [mndB 1 1, mndB 2 4]
theorem mnd_check (l : List (Int × UInt64)) (h : Int) (m : UInt64) (hh : h = (l.length : Int) + 1) : checkW 2 (l.map fun x => mndB x.1 x.2) (mndB h m) = 0 := by
  have hlv : leavesW (l.map fun x => mndB x.1 x.2) = [] := by
    unfold leavesW
    rw [List.flatMap_map, List.flatMap_eq_nil_iff]
    intro x _
    rfl
  unfold checkW fitsW
  rw [hlv, List.length_map, if_pos (show (mndB h m).height = _ from hh), if_pos (show ((mndB h m).txs.all fun t => decide (txV t = 0)) = true from rfl), if_neg (by simp [mndB, outsN])]
theorem ok_ABC : okAll 2 lABC := okAll_snoc (l := [mndB 1 1, mndB 2 2]) (okAll_snoc (l := [mndB 1 1]) (okAll_snoc (l := []) (okAll_nil 2) (mnd_check [] 1 1 rfl)) (mnd_check [(1, 1)] 2 2 rfl)) (mnd_check [(1, 1), (2, 2)] 3 3 rfl)
theorem ok_AD : okAll 2 lAD := okAll_snoc (l := [mndB 1 1]) (okAll_snoc (l := []) (okAll_nil 2) (mnd_check [] 1 1 rfl)) (mnd_check [(1, 1)] 2 4 rfl)
theorem com_ABC : commonW lABC lABC = 3 := commonW_self lABC
theorem com_AD : commonW lABC lAD = 1 := by decide +kernel
set_option maxRecDepth 100000 in
set_option maxHeartbeats 51200000 in
theorem awake51_any (w : World) : Calls Tryz.prog 43 #[] w fun e w' => e = .returned (.bool true) ∧ Ext w w' := by
  have MN := hid mined_any
  have HRL := hid (rules51_any 2)
  have RST : Hid (∀ u ob FO (g : Nat), OrcAt u ob realM FO → u.heap[g]? = some (.cells #[.int .u64 0, .int .i64 1, .int .u64 1, .int .u64 0, .int .u64 0, .slice none 0 0, .int .u64 0, .int .i64 2, .int .u64 2, .int .u64 0, .int .u64 0, .slice none 0 0, .int .u64 0, .int .i64 3, .int .u64 3, .int .u64 0, .int .u64 0, .slice none 0 0] 75 (0, 0)) → Calls Tryz.prog 44 #[.pointer (some ⟨ob, 0, none⟩), rlVal (rl49 2), .int .u64 5, .slice (some ⟨g, 0, none⟩) 3 3] u fun e w' => ∃ W G, e = .returned (.tuple #[.pointer (some ⟨W, 0, none⟩), .int .i64 0]) ∧ WalAt w' W 2 (fRed 5) lABC G ∧ (∀ i, G i → u.heap.size ≤ i) ∧ Ext u w') := hid fun u ob FO g ho hg => by
    refine (restore_any ho 2 (by omega) (by omega) 5 _ lABC (rd_mined (L := [(1, 1), (2, 2), (3, 3)]) hg rfl (by decide) rfl) (by simp [lABC]) (fun b hb => by
      simp only [lABC, List.mem_cons, List.not_mem_nil, or_false] at hb
      rcases hb with rfl | rfl | rfl <;> exact mnd_sm _ _)).mono ?_
    intro e w' h
    rcases h with ⟨-, W, G, h1, h2, h3, h4⟩ | ⟨h1, -⟩
    · exact ⟨W, G, h1, h2, h3, h4⟩
    · exact absurd (errW_okAll.2 ok_ABC) h1
  have FO1 : Hid (∀ u W G (g1 g2 : Nat), WalAt u W 2 (fRed 5) lABC G → u.heap[g1]? = some (.cells #[.int .u64 0, .int .i64 1, .int .u64 1, .int .u64 0, .int .u64 0, .slice none 0 0, .int .u64 0, .int .i64 2, .int .u64 2, .int .u64 0, .int .u64 0, .slice none 0 0, .int .u64 0, .int .i64 3, .int .u64 3, .int .u64 0, .int .u64 0, .slice none 0 0] 75 (0, 0)) → u.heap[g2]? = some (.cells #[.int .u64 0, .int .i64 1, .int .u64 1, .int .u64 0, .int .u64 0, .slice none 0 0, .int .u64 0, .int .i64 2, .int .u64 2, .int .u64 0, .int .u64 0, .slice none 0 0, .int .u64 0, .int .i64 3, .int .u64 3, .int .u64 0, .int .u64 0, .slice none 0 0] 75 (0, 0)) → ¬ G g1 → ¬ G g2 → Calls Tryz.prog 49 #[.pointer (some ⟨W, 0, none⟩), .slice (some ⟨g1, 0, none⟩) 3 3, .slice (some ⟨g2, 0, none⟩) 3 3] u fun e w' => e = .returned (.tuple #[.int .i64 0, .int .i64 0, .int .i64 0]) ∧ WalTo u W 2 (fRed 5) lABC G w') := hid fun u W G g1 g2 hw h1 h2 hg1 hg2 => by
    have hs : ∀ b ∈ lABC, BSm b := fun b hb => by
      simp only [lABC, List.mem_cons, List.not_mem_nil, or_false] at hb
      rcases hb with rfl | rfl | rfl <;> exact mnd_sm _ _
    refine (follow_any hw ok_ABC _ _ (std_mined (L := [(1, 1), (2, 2), (3, 3)]) h1 hg1 rfl (by decide) rfl) (std_mined (L := [(1, 1), (2, 2), (3, 3)]) h2 hg2 rfl (by decide) rfl) hs hs (by simp [lABC]) (by simp [lABC])).mono ?_
    intro e w' h
    rcases h with ⟨-, h1, h2⟩ | ⟨h1, -⟩
    · refine ⟨?_, h2⟩
      change e = .returned (.tuple #[.int .i64 ((lABC.length : Int) - (commonW lABC lABC : Int)), .int .i64 ((lABC.length : Int) - (commonW lABC lABC : Int)), .int .i64 0]) at h1
      rw [com_ABC] at h1
      exact h1
    · exact absurd (errW_okAll.2 ok_ABC) h1
  have FO2 : Hid (∀ u W G (g1 g2 : Nat), WalAt u W 2 (fRed 5) lABC G → u.heap[g1]? = some (.cells #[.int .u64 0, .int .i64 1, .int .u64 1, .int .u64 0, .int .u64 0, .slice none 0 0, .int .u64 0, .int .i64 2, .int .u64 2, .int .u64 0, .int .u64 0, .slice none 0 0, .int .u64 0, .int .i64 3, .int .u64 3, .int .u64 0, .int .u64 0, .slice none 0 0] 75 (0, 0)) → u.heap[g2]? = some (.cells #[.int .u64 0, .int .i64 1, .int .u64 1, .int .u64 0, .int .u64 0, .slice none 0 0, .int .u64 0, .int .i64 2, .int .u64 4, .int .u64 0, .int .u64 0, .slice none 0 0] 75 (0, 0)) → ¬ G g1 → ¬ G g2 → Calls Tryz.prog 49 #[.pointer (some ⟨W, 0, none⟩), .slice (some ⟨g1, 0, none⟩) 3 3, .slice (some ⟨g2, 0, none⟩) 2 2] u fun e w' => e = .returned (.tuple #[.int .i64 2, .int .i64 1, .int .i64 0]) ∧ WalTo u W 2 (fRed 5) lAD G w') := hid fun u W G g1 g2 hw h1 h2 hg1 hg2 => by
    refine (follow_any hw ok_ABC _ _ (std_mined (L := [(1, 1), (2, 2), (3, 3)]) h1 hg1 rfl (by decide) rfl) (std_mined (L := [(1, 1), (2, 4)]) h2 hg2 rfl (by decide) rfl) (fun b hb => by
      change b ∈ lABC at hb
      simp only [lABC, List.mem_cons, List.not_mem_nil, or_false] at hb
      rcases hb with rfl | rfl | rfl <;> exact mnd_sm _ _) (fun b hb => by
      change b ∈ lAD at hb
      simp only [lAD, List.mem_cons, List.not_mem_nil, or_false] at hb
      rcases hb with rfl | rfl <;> exact mnd_sm _ _) (by simp [lABC]) (by simp)).mono ?_
    intro e w' h
    rcases h with ⟨-, h1, h2⟩ | ⟨h1, -⟩
    · refine ⟨?_, h2⟩
      change e = .returned (.tuple #[.int .i64 ((lABC.length : Int) - (commonW lABC lAD : Int)), .int .i64 ((lAD.length : Int) - (commonW lABC lAD : Int)), .int .i64 0]) at h1
      rw [com_AD] at h1
      exact h1
    · exact absurd (errW_okAll.2 ok_AD) h1
  have HGT : Hid (∀ u W G, WalAt u W 2 (fRed 5) lAD G → Calls Tryz.prog 29 #[.pointer (some ⟨W, 0, none⟩)] u fun e w' => e = .returned (.int .i64 2) ∧ Ext u w') := hid fun u W G h => wHeight_any h
  generalize fRed 5 = s5 at *
  go_enter Tryz.func43, Tryz.ntmps43
  go_wp2_with fail
  refine (MN.out 1 1 _).mono ?_
  rintro e m1 ⟨rfl, hx⟩
  have M1 := hid hx
  clear hx
  go_wp2_with fail
  refine (MN.out 2 2 _).mono ?_
  rintro e m2 ⟨rfl, hx⟩
  have M2 := hid (M1.out.trans hx)
  clear hx
  go_wp2_with fail
  refine (MN.out 3 3 _).mono ?_
  rintro e m3 ⟨rfl, hx⟩
  have M3 := hid (M2.out.trans hx)
  clear hx
  go_wp2_with fail
  refine (MN.out 2 4 _).mono ?_
  rintro e m4 ⟨rfl, hx⟩
  have M4 := hid (M3.out.trans hx)
  clear hx MN
  go_upto_region 2 with fail
  obtain ⟨N, hN⟩ : ∃ N, N = m4.heap.size := ⟨_, rfl⟩
  obtain ⟨w0, hw0⟩ : ∃ w0, w0 = (((m4.alloc (.cells #[.int .u64 0, .int .i64 1, .int .u64 1, .int .u64 0, .int .u64 0, .slice none 0 0] 75)).alloc (.cells #[.int .u64 0, .int .i64 2, .int .u64 2, .int .u64 0, .int .u64 0, .slice none 0 0] 75)).alloc (.cells #[.int .u64 0, .int .i64 3, .int .u64 3, .int .u64 0, .int .u64 0, .slice none 0 0] 75)).alloc (.cells #[.int .u64 0, .int .i64 2, .int .u64 4, .int .u64 0, .int .u64 0, .slice none 0 0] 75) := ⟨_, rfl⟩
  rw [← hw0, ← hN]
  have hb0 : w0.heap[N]? = some (.cells #[.int .u64 0, .int .i64 1, .int .u64 1, .int .u64 0, .int .u64 0, .slice none 0 0] 75 (0, 0)) := by rw [hw0, hN]; exact heap_alloc_some (heap_alloc_some (heap_alloc_some (heap_new _ _)))
  have hb1 : w0.heap[N + 1]? = some (.cells #[.int .u64 0, .int .i64 2, .int .u64 2, .int .u64 0, .int .u64 0, .slice none 0 0] 75 (0, 0)) := by
    rw [hw0, hN]
    refine heap_alloc_some (heap_alloc_some ?_)
    have := heap_new (m4.alloc (.cells #[.int .u64 0, .int .i64 1, .int .u64 1, .int .u64 0, .int .u64 0, .slice none 0 0] 75)) (.cells #[.int .u64 0, .int .i64 2, .int .u64 2, .int .u64 0, .int .u64 0, .slice none 0 0] 75)
    simpa using this
  have hb2 : w0.heap[N + 1 + 1]? = some (.cells #[.int .u64 0, .int .i64 3, .int .u64 3, .int .u64 0, .int .u64 0, .slice none 0 0] 75 (0, 0)) := by
    rw [hw0, hN]
    refine heap_alloc_some ?_
    have := heap_new ((m4.alloc (.cells #[.int .u64 0, .int .i64 1, .int .u64 1, .int .u64 0, .int .u64 0, .slice none 0 0] 75)).alloc (.cells #[.int .u64 0, .int .i64 2, .int .u64 2, .int .u64 0, .int .u64 0, .slice none 0 0] 75)) (.cells #[.int .u64 0, .int .i64 3, .int .u64 3, .int .u64 0, .int .u64 0, .slice none 0 0] 75)
    simpa using this
  have hb3 : w0.heap[N + 1 + 1 + 1]? = some (.cells #[.int .u64 0, .int .i64 2, .int .u64 4, .int .u64 0, .int .u64 0, .slice none 0 0] 75 (0, 0)) := by
    rw [hw0, hN]
    have := heap_new (((m4.alloc (.cells #[.int .u64 0, .int .i64 1, .int .u64 1, .int .u64 0, .int .u64 0, .slice none 0 0] 75)).alloc (.cells #[.int .u64 0, .int .i64 2, .int .u64 2, .int .u64 0, .int .u64 0, .slice none 0 0] 75)).alloc (.cells #[.int .u64 0, .int .i64 3, .int .u64 3, .int .u64 0, .int .u64 0, .slice none 0 0] 75)) (.cells #[.int .u64 0, .int .i64 2, .int .u64 4, .int .u64 0, .int .u64 0, .slice none 0 0] 75)
    simpa using this
  have HX0 : Hid (Ext w w0) := hid (by rw [hw0]; exact (((M4.out.alloc _).alloc _).alloc _).alloc _)
  have HSV : Hid (∀ u, Ext w0 u → ((u.cell? ⟨N, 0, none⟩ = some (.int .u64 0) ∧ u.cell? ⟨N, 1, none⟩ = some (.int .i64 1) ∧ u.cell? ⟨N, 2, none⟩ = some (.int .u64 1) ∧ u.cell? ⟨N, 3, none⟩ = some (.int .u64 0) ∧ u.cell? ⟨N, 4, none⟩ = some (.int .u64 0) ∧ u.cell? ⟨N, 5, none⟩ = some (.slice none 0 0)) ∧ (u.cell? ⟨N + 1, 0, none⟩ = some (.int .u64 0) ∧ u.cell? ⟨N + 1, 1, none⟩ = some (.int .i64 2) ∧ u.cell? ⟨N + 1, 2, none⟩ = some (.int .u64 2) ∧ u.cell? ⟨N + 1, 3, none⟩ = some (.int .u64 0) ∧ u.cell? ⟨N + 1, 4, none⟩ = some (.int .u64 0) ∧ u.cell? ⟨N + 1, 5, none⟩ = some (.slice none 0 0)) ∧ (u.cell? ⟨N + 1 + 1, 0, none⟩ = some (.int .u64 0) ∧ u.cell? ⟨N + 1 + 1, 1, none⟩ = some (.int .i64 3) ∧ u.cell? ⟨N + 1 + 1, 2, none⟩ = some (.int .u64 3) ∧ u.cell? ⟨N + 1 + 1, 3, none⟩ = some (.int .u64 0) ∧ u.cell? ⟨N + 1 + 1, 4, none⟩ = some (.int .u64 0) ∧ u.cell? ⟨N + 1 + 1, 5, none⟩ = some (.slice none 0 0)) ∧ (u.cell? ⟨N + 1 + 1 + 1, 0, none⟩ = some (.int .u64 0) ∧ u.cell? ⟨N + 1 + 1 + 1, 1, none⟩ = some (.int .i64 2) ∧ u.cell? ⟨N + 1 + 1 + 1, 2, none⟩ = some (.int .u64 4) ∧ u.cell? ⟨N + 1 + 1 + 1, 3, none⟩ = some (.int .u64 0) ∧ u.cell? ⟨N + 1 + 1 + 1, 4, none⟩ = some (.int .u64 0) ∧ u.cell? ⟨N + 1 + 1 + 1, 5, none⟩ = some (.slice none 0 0))) ∧ Ext w0 u) := hid fun u k => ⟨⟨six_cellsB (k.heap_some hb0), six_cellsB (k.heap_some hb1), six_cellsB (k.heap_some hb2), six_cellsB (k.heap_some hb3)⟩, k⟩
  clear hw0 hN hb0 hb1 hb2 hb3
  go_wp2_with fail
  refine wp_region_N (fun u => ((u.cell? ⟨N, 0, none⟩ = some (.int .u64 0) ∧ u.cell? ⟨N, 1, none⟩ = some (.int .i64 1) ∧ u.cell? ⟨N, 2, none⟩ = some (.int .u64 1) ∧ u.cell? ⟨N, 3, none⟩ = some (.int .u64 0) ∧ u.cell? ⟨N, 4, none⟩ = some (.int .u64 0) ∧ u.cell? ⟨N, 5, none⟩ = some (.slice none 0 0)) ∧ (u.cell? ⟨N + 1, 0, none⟩ = some (.int .u64 0) ∧ u.cell? ⟨N + 1, 1, none⟩ = some (.int .i64 2) ∧ u.cell? ⟨N + 1, 2, none⟩ = some (.int .u64 2) ∧ u.cell? ⟨N + 1, 3, none⟩ = some (.int .u64 0) ∧ u.cell? ⟨N + 1, 4, none⟩ = some (.int .u64 0) ∧ u.cell? ⟨N + 1, 5, none⟩ = some (.slice none 0 0)) ∧ (u.cell? ⟨N + 1 + 1, 0, none⟩ = some (.int .u64 0) ∧ u.cell? ⟨N + 1 + 1, 1, none⟩ = some (.int .i64 3) ∧ u.cell? ⟨N + 1 + 1, 2, none⟩ = some (.int .u64 3) ∧ u.cell? ⟨N + 1 + 1, 3, none⟩ = some (.int .u64 0) ∧ u.cell? ⟨N + 1 + 1, 4, none⟩ = some (.int .u64 0) ∧ u.cell? ⟨N + 1 + 1, 5, none⟩ = some (.slice none 0 0)) ∧ (u.cell? ⟨N + 1 + 1 + 1, 0, none⟩ = some (.int .u64 0) ∧ u.cell? ⟨N + 1 + 1 + 1, 1, none⟩ = some (.int .i64 2) ∧ u.cell? ⟨N + 1 + 1 + 1, 2, none⟩ = some (.int .u64 4) ∧ u.cell? ⟨N + 1 + 1 + 1, 3, none⟩ = some (.int .u64 0) ∧ u.cell? ⟨N + 1 + 1 + 1, 4, none⟩ = some (.int .u64 0) ∧ u.cell? ⟨N + 1 + 1 + 1, 5, none⟩ = some (.slice none 0 0))) ∧ Ext w0 u) 11 12 (by kernel_rfl) (by kernel_rfl) ?_
  intro ops hops
  have HS1 := HSV.out _ (Ext.refl w0).drew
  refine N_take (i := 2) (v := ?_) (by rw [hops, List.getElem?_toArray]; rfl) (by rw [hops]; kernel_rfl) (by intro c a d v w h; cases d <;> exact h) (by first | rfl | (rw [hops]; rfl)) ?_ HS1 ?_
  rotate_left
  · intro v h; go_simp; with_reducible rfl
  simp only [Act.put, List.getElem_toArray, List.getElem_cons_zero, List.getElem_cons_succ, List.setIfInBounds_toArray, List.set_cons_zero, List.set_cons_succ]
  refine N_take (i := 3) (v := ?_) (by rw [hops, List.getElem?_toArray]; rfl) (by rw [hops]; kernel_rfl) (by intro c a d v w h; cases d <;> exact h) (by first | rfl | (rw [hops]; rfl)) ?_ HS1 ?_
  rotate_left
  · intro v h; go_simp; with_reducible rfl
  simp only [Act.put, List.getElem_toArray, List.getElem_cons_zero, List.getElem_cons_succ, List.setIfInBounds_toArray, List.set_cons_zero, List.set_cons_succ]
  refine N_take (i := 4) (v := ?_) (by rw [hops, List.getElem?_toArray]; rfl) (by rw [hops]; kernel_rfl) (by intro c a d v w h; cases d <;> exact h) (by first | rfl | (rw [hops]; rfl)) ?_ HS1 ?_
  rotate_left
  · intro v h; go_simp; with_reducible rfl
  simp only [Act.put, List.getElem_toArray, List.getElem_cons_zero, List.getElem_cons_succ, List.setIfInBounds_toArray, List.set_cons_zero, List.set_cons_succ]
  generalize w0.drew = wd at *
  refine N_two (i := 0) (k := 5) (by rw [hops]; rfl) (by rw [hops, List.getElem?_toArray]; rfl) (by rw [hops]; kernel_rfl) (by first | rfl | (rw [hops]; rfl)) (by first | rfl | (rw [hops]; rfl)) ?_ ?_
  · intro K hK
    go_wp2_with fail
    refine (Real_any _).mono ?_
    rintro e u1 ⟨ob, FO, rfl, ho, hx, -⟩
    have HO := hid ho
    have HS1' := HSV.out u1 (HS1.2.trans hx)
    clear HS1 hx ho
    have HS1 := HS1'
    clear HS1'
    refine hK _ _ ⟨fun _ => HS1, ?_⟩
    clear hK K
    refine N_two (i := 1) (k := 5) (by rw [hops]; rfl) (by rw [hops, List.getElem?_toArray]; rfl) (by rw [hops]; kernel_rfl) (by first | rfl | (rw [hops]; rfl)) (by first | rfl | (rw [hops]; rfl)) ?_ ?_
    · intro K hK
      go_wp2_with fail
      refine (HRL.out _).mono ?_
      rintro e u2 ⟨rfl, hx⟩
      have HO' := hid (HO.out.ext hx)
      clear HO
      have HO := HO'
      have HS1' := HSV.out u2 (HS1.2.trans hx)
      clear HS1 hx HO'
      have HS1 := HS1'
      clear HS1'
      refine hK _ _ ⟨fun _ => HS1, ?_⟩
      clear hK K
      refine N_one (i := 5) (by rw [hops, List.getElem?_toArray]; rfl) (by rw [hops]; kernel_rfl) (by first | rfl | (rw [hops]; rfl)) ?_
      intro K hK
      go_wp2_with fail
      have hgb := heap_new u2 (.cells #[.int .u64 0, .int .i64 1, .int .u64 1, .int .u64 0, .int .u64 0, .slice none 0 0, .int .u64 0, .int .i64 2, .int .u64 2, .int .u64 0, .int .u64 0, .slice none 0 0, .int .u64 0, .int .i64 3, .int .u64 3, .int .u64 0, .int .u64 0, .slice none 0 0] 75)
      have hx5 := (Ext.refl u2).alloc (.cells #[.int .u64 0, .int .i64 1, .int .u64 1, .int .u64 0, .int .u64 0, .slice none 0 0, .int .u64 0, .int .i64 2, .int .u64 2, .int .u64 0, .int .u64 0, .slice none 0 0, .int .u64 0, .int .i64 3, .int .u64 3, .int .u64 0, .int .u64 0, .slice none 0 0] 75)
      obtain ⟨g, hge⟩ : ∃ g, g = u2.heap.size := ⟨_, rfl⟩
      rw [← hge] at hgb
      try rw [← hge]
      generalize u2.alloc (.cells #[.int .u64 0, .int .i64 1, .int .u64 1, .int .u64 0, .int .u64 0, .slice none 0 0, .int .u64 0, .int .i64 2, .int .u64 2, .int .u64 0, .int .u64 0, .slice none 0 0, .int .u64 0, .int .i64 3, .int .u64 3, .int .u64 0, .int .u64 0, .slice none 0 0] 75) = u3 at *
      have HO' := hid (HO.out.ext hx5)
      clear HO
      have HO := HO'
      clear HO'
      have HS1' := HSV.out u3 (HS1.2.trans hx5)
      clear HS1 hx5 hge
      have HS1 := HS1'
      clear HS1'
      refine ⟨fun _ => HS1, ?_⟩
      try rw [← hops]
      refine N_one (i := 6) (by rw [hops, List.getElem?_toArray]; rfl) (by rw [hops]; kernel_rfl) (by first | rfl | (rw [hops]; rfl)) ?_
      intro K hK
      go_wp2_with fail
      refine (RST.out _ ob FO g HO.out hgb).mono ?_
      rintro e u6 ⟨W, G, rfl, hw, hgn, hx⟩
      have HS6 := HSV.out u6 (HS1.2.trans hx)
      have HWG := hid (And.intro hw (fun i hi => Nat.le_trans HS1.2.size (hgn i hi)))
      clear hw hgn hx hgb HO
      refine hK _ _ ⟨fun _ => HS6, ?_⟩
      clear hK K
      refine N_take (i := 7) (v := ?_) (by rw [hops, List.getElem?_toArray]; rfl) (by rw [hops]; kernel_rfl) (by intro c a d v w h; cases d <;> exact h) (by first | rfl | (rw [hops]; rfl)) ?_ HS6 ?_
      rotate_left
      · intro v h; go_simp; with_reducible rfl
      simp only [Act.put, List.getElem_toArray, List.getElem_cons_zero, List.getElem_cons_succ, List.setIfInBounds_toArray, List.set_cons_zero, List.set_cons_succ]
      refine N_take (i := 8) (v := ?_) (by rw [hops, List.getElem?_toArray]; rfl) (by rw [hops]; kernel_rfl) (by intro c a d v w h; cases d <;> exact h) (by first | rfl | (rw [hops]; rfl)) ?_ HS6 ?_
      rotate_left
      · intro v h; go_simp; with_reducible rfl
      simp only [Act.put, List.getElem_toArray, List.getElem_cons_zero, List.getElem_cons_succ, List.setIfInBounds_toArray, List.set_cons_zero, List.set_cons_succ]
      refine N_take (i := 9) (v := ?_) (by rw [hops, List.getElem?_toArray]; rfl) (by rw [hops]; kernel_rfl) (by intro c a d v w h; cases d <;> exact h) (by first | rfl | (rw [hops]; rfl)) ?_ HS6 ?_
      rotate_left
      · intro v h; go_simp; with_reducible rfl
      simp only [Act.put, List.getElem_toArray, List.getElem_cons_zero, List.getElem_cons_succ, List.setIfInBounds_toArray, List.set_cons_zero, List.set_cons_succ]
      refine N_take (i := 10) (v := ?_) (by rw [hops, List.getElem?_toArray]; rfl) (by rw [hops]; kernel_rfl) (by intro c a d v w h; cases d <;> exact h) (by first | rfl | (rw [hops]; rfl)) ?_ HS6 ?_
      rotate_left
      · intro v h; go_simp; with_reducible rfl
      simp only [Act.put, List.getElem_toArray, List.getElem_cons_zero, List.getElem_cons_succ, List.setIfInBounds_toArray, List.set_cons_zero, List.set_cons_succ]
      refine N_one (i := 11) (by rw [hops, List.getElem?_toArray]; rfl) (by rw [hops]; kernel_rfl) (by first | rfl | (rw [hops]; rfl)) ?_
      intro K hK
      go_wp2_with fail
      refine ⟨fun h => absurd h (by decide), ?_⟩
      try rw [← hops]
      refine N_done (by rw [hops]; kernel_rfl) ?_
      clear hops ops
      have X6 := hid HS6.2
      clear HS6 HS1 RST
      obtain ⟨⟨⟨a0, a1, a2, a3, a4, a5⟩, ⟨b0, b1, b2, b3, b4, b5⟩, ⟨c0, c1, c2, c3, c4, c5⟩, d0, d1, d2, d3, d4, d5⟩, -⟩ := HSV.out u6 X6.out
      obtain ⟨⟨⟨p0, p1, p2, p3, p4, p5⟩, ⟨q0, q1, q2, q3, q4, q5⟩, ⟨r0, r1, r2, r3, r4, r5⟩, t0, t1, t2, t3, t4, t5⟩, -⟩ := HSV.out (u6.alloc (.cells #[.int .u64 0, .int .i64 1, .int .u64 1, .int .u64 0, .int .u64 0, .slice none 0 0, .int .u64 0, .int .i64 2, .int .u64 2, .int .u64 0, .int .u64 0, .slice none 0 0, .int .u64 0, .int .i64 3, .int .u64 3, .int .u64 0, .int .u64 0, .slice none 0 0] 75)) (X6.out.alloc _)
      have hx7 : Ext u6 ((u6.alloc (.cells #[.int .u64 0, .int .i64 1, .int .u64 1, .int .u64 0, .int .u64 0, .slice none 0 0, .int .u64 0, .int .i64 2, .int .u64 2, .int .u64 0, .int .u64 0, .slice none 0 0, .int .u64 0, .int .i64 3, .int .u64 3, .int .u64 0, .int .u64 0, .slice none 0 0] 75)).alloc (.cells #[.int .u64 0, .int .i64 1, .int .u64 1, .int .u64 0, .int .u64 0, .slice none 0 0, .int .u64 0, .int .i64 2, .int .u64 2, .int .u64 0, .int .u64 0, .slice none 0 0, .int .u64 0, .int .i64 3, .int .u64 3, .int .u64 0, .int .u64 0, .slice none 0 0] 75)) := ((Ext.refl u6).alloc _).alloc _
      have hg1 : ((u6.alloc (.cells #[.int .u64 0, .int .i64 1, .int .u64 1, .int .u64 0, .int .u64 0, .slice none 0 0, .int .u64 0, .int .i64 2, .int .u64 2, .int .u64 0, .int .u64 0, .slice none 0 0, .int .u64 0, .int .i64 3, .int .u64 3, .int .u64 0, .int .u64 0, .slice none 0 0] 75)).alloc (.cells #[.int .u64 0, .int .i64 1, .int .u64 1, .int .u64 0, .int .u64 0, .slice none 0 0, .int .u64 0, .int .i64 2, .int .u64 2, .int .u64 0, .int .u64 0, .slice none 0 0, .int .u64 0, .int .i64 3, .int .u64 3, .int .u64 0, .int .u64 0, .slice none 0 0] 75)).heap[u6.heap.size]? = some (.cells #[.int .u64 0, .int .i64 1, .int .u64 1, .int .u64 0, .int .u64 0, .slice none 0 0, .int .u64 0, .int .i64 2, .int .u64 2, .int .u64 0, .int .u64 0, .slice none 0 0, .int .u64 0, .int .i64 3, .int .u64 3, .int .u64 0, .int .u64 0, .slice none 0 0] 75 (0, 0)) := heap_alloc_some (heap_new _ _)
      have hg2 : ((u6.alloc (.cells #[.int .u64 0, .int .i64 1, .int .u64 1, .int .u64 0, .int .u64 0, .slice none 0 0, .int .u64 0, .int .i64 2, .int .u64 2, .int .u64 0, .int .u64 0, .slice none 0 0, .int .u64 0, .int .i64 3, .int .u64 3, .int .u64 0, .int .u64 0, .slice none 0 0] 75)).alloc (.cells #[.int .u64 0, .int .i64 1, .int .u64 1, .int .u64 0, .int .u64 0, .slice none 0 0, .int .u64 0, .int .i64 2, .int .u64 2, .int .u64 0, .int .u64 0, .slice none 0 0, .int .u64 0, .int .i64 3, .int .u64 3, .int .u64 0, .int .u64 0, .slice none 0 0] 75)).heap[u6.heap.size + 1]? = some (.cells #[.int .u64 0, .int .i64 1, .int .u64 1, .int .u64 0, .int .u64 0, .slice none 0 0, .int .u64 0, .int .i64 2, .int .u64 2, .int .u64 0, .int .u64 0, .slice none 0 0, .int .u64 0, .int .i64 3, .int .u64 3, .int .u64 0, .int .u64 0, .slice none 0 0] 75 (0, 0)) := by
        have := heap_new (u6.alloc (.cells #[.int .u64 0, .int .i64 1, .int .u64 1, .int .u64 0, .int .u64 0, .slice none 0 0, .int .u64 0, .int .i64 2, .int .u64 2, .int .u64 0, .int .u64 0, .slice none 0 0, .int .u64 0, .int .i64 3, .int .u64 3, .int .u64 0, .int .u64 0, .slice none 0 0] 75)) (.cells #[.int .u64 0, .int .i64 1, .int .u64 1, .int .u64 0, .int .u64 0, .slice none 0 0, .int .u64 0, .int .i64 2, .int .u64 2, .int .u64 0, .int .u64 0, .slice none 0 0, .int .u64 0, .int .i64 3, .int .u64 3, .int .u64 0, .int .u64 0, .slice none 0 0] 75)
        simpa using this
      have FC := hid (FO1.out _ W G _ _ (HWG.out.1.ext hx7) hg1 hg2 (fun e => by have := HWG.out.1.lt _ e; omega) (fun e => by have := HWG.out.1.lt _ e; omega))
      have X7 := hid (X6.out.trans hx7)
      clear hx7 hg1 hg2 FO1
      go_wp2_with fail
      refine FC.out.mono ?_
      rintro e u8 ⟨rfl, G8, hw8, hk8, hn8⟩
      have X8 : Hid (Ext w0 u8) := hid (X7.out.kp hk8 (fun i hi => HWG.out.2 i hi))
      have HW8 := hid (And.intro hw8 (fun i (hi : G8 i) => show w0.heap.size ≤ i from by
        rcases hn8 i hi with e | e
        · exact HWG.out.2 i e
        · have := X7.out.size
          omega))
      clear hw8 hk8 hn8 FC a0 a1 a2 a3 a4 a5 b0 b1 b2 b3 b4 b5 c0 c1 c2 c3 c4 c5 d0 d1 d2 d3 d4 d5 p0 p1 p2 p3 p4 p5 q0 q1 q2 q3 q4 q5 r0 r1 r2 r3 r4 r5 t0 t1 t2 t3 t4 t5
      obtain ⟨⟨⟨a0, a1, a2, a3, a4, a5⟩, ⟨b0, b1, b2, b3, b4, b5⟩, ⟨c0, c1, c2, c3, c4, c5⟩, d0, d1, d2, d3, d4, d5⟩, -⟩ := HSV.out u8 X8.out
      obtain ⟨⟨⟨p0, p1, p2, p3, p4, p5⟩, ⟨q0, q1, q2, q3, q4, q5⟩, ⟨r0, r1, r2, r3, r4, r5⟩, t0, t1, t2, t3, t4, t5⟩, -⟩ := HSV.out (u8.alloc (.cells #[.int .u64 0, .int .i64 1, .int .u64 1, .int .u64 0, .int .u64 0, .slice none 0 0, .int .u64 0, .int .i64 2, .int .u64 2, .int .u64 0, .int .u64 0, .slice none 0 0, .int .u64 0, .int .i64 3, .int .u64 3, .int .u64 0, .int .u64 0, .slice none 0 0] 75)) (X8.out.alloc _)
      have hx9 : Ext u8 ((u8.alloc (.cells #[.int .u64 0, .int .i64 1, .int .u64 1, .int .u64 0, .int .u64 0, .slice none 0 0, .int .u64 0, .int .i64 2, .int .u64 2, .int .u64 0, .int .u64 0, .slice none 0 0, .int .u64 0, .int .i64 3, .int .u64 3, .int .u64 0, .int .u64 0, .slice none 0 0] 75)).alloc (.cells #[.int .u64 0, .int .i64 1, .int .u64 1, .int .u64 0, .int .u64 0, .slice none 0 0, .int .u64 0, .int .i64 2, .int .u64 4, .int .u64 0, .int .u64 0, .slice none 0 0] 75)) := ((Ext.refl u8).alloc _).alloc _
      have hg1 : ((u8.alloc (.cells #[.int .u64 0, .int .i64 1, .int .u64 1, .int .u64 0, .int .u64 0, .slice none 0 0, .int .u64 0, .int .i64 2, .int .u64 2, .int .u64 0, .int .u64 0, .slice none 0 0, .int .u64 0, .int .i64 3, .int .u64 3, .int .u64 0, .int .u64 0, .slice none 0 0] 75)).alloc (.cells #[.int .u64 0, .int .i64 1, .int .u64 1, .int .u64 0, .int .u64 0, .slice none 0 0, .int .u64 0, .int .i64 2, .int .u64 4, .int .u64 0, .int .u64 0, .slice none 0 0] 75)).heap[u8.heap.size]? = some (.cells #[.int .u64 0, .int .i64 1, .int .u64 1, .int .u64 0, .int .u64 0, .slice none 0 0, .int .u64 0, .int .i64 2, .int .u64 2, .int .u64 0, .int .u64 0, .slice none 0 0, .int .u64 0, .int .i64 3, .int .u64 3, .int .u64 0, .int .u64 0, .slice none 0 0] 75 (0, 0)) := heap_alloc_some (heap_new _ _)
      have hg2 : ((u8.alloc (.cells #[.int .u64 0, .int .i64 1, .int .u64 1, .int .u64 0, .int .u64 0, .slice none 0 0, .int .u64 0, .int .i64 2, .int .u64 2, .int .u64 0, .int .u64 0, .slice none 0 0, .int .u64 0, .int .i64 3, .int .u64 3, .int .u64 0, .int .u64 0, .slice none 0 0] 75)).alloc (.cells #[.int .u64 0, .int .i64 1, .int .u64 1, .int .u64 0, .int .u64 0, .slice none 0 0, .int .u64 0, .int .i64 2, .int .u64 4, .int .u64 0, .int .u64 0, .slice none 0 0] 75)).heap[u8.heap.size + 1]? = some (.cells #[.int .u64 0, .int .i64 1, .int .u64 1, .int .u64 0, .int .u64 0, .slice none 0 0, .int .u64 0, .int .i64 2, .int .u64 4, .int .u64 0, .int .u64 0, .slice none 0 0] 75 (0, 0)) := by
        have := heap_new (u8.alloc (.cells #[.int .u64 0, .int .i64 1, .int .u64 1, .int .u64 0, .int .u64 0, .slice none 0 0, .int .u64 0, .int .i64 2, .int .u64 2, .int .u64 0, .int .u64 0, .slice none 0 0, .int .u64 0, .int .i64 3, .int .u64 3, .int .u64 0, .int .u64 0, .slice none 0 0] 75)) (.cells #[.int .u64 0, .int .i64 1, .int .u64 1, .int .u64 0, .int .u64 0, .slice none 0 0, .int .u64 0, .int .i64 2, .int .u64 4, .int .u64 0, .int .u64 0, .slice none 0 0] 75)
        simpa using this
      have FC := hid (FO2.out _ W G8 _ _ (HW8.out.1.ext hx9) hg1 hg2 (fun e => by have := HW8.out.1.lt _ e; omega) (fun e => by have := HW8.out.1.lt _ e; omega))
      have X9 := hid (X8.out.trans hx9)
      clear hx9 hg1 hg2 FO2
      go_wp2_with fail
      refine FC.out.mono ?_
      rintro e u10 ⟨rfl, G10, hw10, hk10, hn10⟩
      have X10 : Hid (Ext w0 u10) := hid (X9.out.kp hk10 (fun i hi => HW8.out.2 i hi))
      have HTC := hid (HGT.out u10 W G10 hw10)
      clear hw10 hk10 hn10 FC a0 a1 a2 a3 a4 a5 b0 b1 b2 b3 b4 b5 c0 c1 c2 c3 c4 c5 d0 d1 d2 d3 d4 d5 p0 p1 p2 p3 p4 p5 q0 q1 q2 q3 q4 q5 r0 r1 r2 r3 r4 r5 t0 t1 t2 t3 t4 t5
      go_wp2_with fail
      refine (HTC.out).mono ?_
      rintro e u11 ⟨rfl, hx⟩
      have X11 := hid (X10.out.trans hx)
      clear hx HTC
      go_wp2_with fail
      go_ret
      exact ⟨rfl, HX0.out.trans X11.out⟩
    · intro K hK
      go_wp2_with fail
      have hgb := heap_new u1 (.cells #[.int .u64 0, .int .i64 1, .int .u64 1, .int .u64 0, .int .u64 0, .slice none 0 0, .int .u64 0, .int .i64 2, .int .u64 2, .int .u64 0, .int .u64 0, .slice none 0 0, .int .u64 0, .int .i64 3, .int .u64 3, .int .u64 0, .int .u64 0, .slice none 0 0] 75)
      have hx5 := (Ext.refl u1).alloc (.cells #[.int .u64 0, .int .i64 1, .int .u64 1, .int .u64 0, .int .u64 0, .slice none 0 0, .int .u64 0, .int .i64 2, .int .u64 2, .int .u64 0, .int .u64 0, .slice none 0 0, .int .u64 0, .int .i64 3, .int .u64 3, .int .u64 0, .int .u64 0, .slice none 0 0] 75)
      obtain ⟨g, hge⟩ : ∃ g, g = u1.heap.size := ⟨_, rfl⟩
      rw [← hge] at hgb
      try rw [← hge]
      generalize u1.alloc (.cells #[.int .u64 0, .int .i64 1, .int .u64 1, .int .u64 0, .int .u64 0, .slice none 0 0, .int .u64 0, .int .i64 2, .int .u64 2, .int .u64 0, .int .u64 0, .slice none 0 0, .int .u64 0, .int .i64 3, .int .u64 3, .int .u64 0, .int .u64 0, .slice none 0 0] 75) = u2 at *
      have HO' := hid (HO.out.ext hx5)
      clear HO
      have HO := HO'
      clear HO'
      have HS1' := HSV.out u2 (HS1.2.trans hx5)
      clear HS1 hx5 hge
      have HS1 := HS1'
      clear HS1'
      refine ⟨fun _ => HS1, ?_⟩
      try rw [← hops]
      refine N_one (i := 1) (by rw [hops, List.getElem?_toArray]; rfl) (by rw [hops]; kernel_rfl) (by first | rfl | (rw [hops]; rfl)) ?_
      intro K hK
      go_wp2_with fail
      refine (HRL.out _).mono ?_
      rintro e u3 ⟨rfl, hx⟩
      have HO' := hid (HO.out.ext hx)
      clear HO
      have HO := HO'
      have hgb := hx.heap_some hgb
      have HS1' := HSV.out u3 (HS1.2.trans hx)
      clear HS1 hx HO'
      have HS1 := HS1'
      clear HS1'
      refine hK _ _ ⟨fun _ => HS1, ?_⟩
      clear hK K
      refine N_one (i := 6) (by rw [hops, List.getElem?_toArray]; rfl) (by rw [hops]; kernel_rfl) (by first | rfl | (rw [hops]; rfl)) ?_
      intro K hK
      go_wp2_with fail
      refine (RST.out _ ob FO g HO.out hgb).mono ?_
      rintro e u6 ⟨W, G, rfl, hw, hgn, hx⟩
      have HS6 := HSV.out u6 (HS1.2.trans hx)
      have HWG := hid (And.intro hw (fun i hi => Nat.le_trans HS1.2.size (hgn i hi)))
      clear hw hgn hx hgb HO
      refine hK _ _ ⟨fun _ => HS6, ?_⟩
      clear hK K
      refine N_take (i := 7) (v := ?_) (by rw [hops, List.getElem?_toArray]; rfl) (by rw [hops]; kernel_rfl) (by intro c a d v w h; cases d <;> exact h) (by first | rfl | (rw [hops]; rfl)) ?_ HS6 ?_
      rotate_left
      · intro v h; go_simp; with_reducible rfl
      simp only [Act.put, List.getElem_toArray, List.getElem_cons_zero, List.getElem_cons_succ, List.setIfInBounds_toArray, List.set_cons_zero, List.set_cons_succ]
      refine N_take (i := 8) (v := ?_) (by rw [hops, List.getElem?_toArray]; rfl) (by rw [hops]; kernel_rfl) (by intro c a d v w h; cases d <;> exact h) (by first | rfl | (rw [hops]; rfl)) ?_ HS6 ?_
      rotate_left
      · intro v h; go_simp; with_reducible rfl
      simp only [Act.put, List.getElem_toArray, List.getElem_cons_zero, List.getElem_cons_succ, List.setIfInBounds_toArray, List.set_cons_zero, List.set_cons_succ]
      refine N_take (i := 9) (v := ?_) (by rw [hops, List.getElem?_toArray]; rfl) (by rw [hops]; kernel_rfl) (by intro c a d v w h; cases d <;> exact h) (by first | rfl | (rw [hops]; rfl)) ?_ HS6 ?_
      rotate_left
      · intro v h; go_simp; with_reducible rfl
      simp only [Act.put, List.getElem_toArray, List.getElem_cons_zero, List.getElem_cons_succ, List.setIfInBounds_toArray, List.set_cons_zero, List.set_cons_succ]
      refine N_take (i := 10) (v := ?_) (by rw [hops, List.getElem?_toArray]; rfl) (by rw [hops]; kernel_rfl) (by intro c a d v w h; cases d <;> exact h) (by first | rfl | (rw [hops]; rfl)) ?_ HS6 ?_
      rotate_left
      · intro v h; go_simp; with_reducible rfl
      simp only [Act.put, List.getElem_toArray, List.getElem_cons_zero, List.getElem_cons_succ, List.setIfInBounds_toArray, List.set_cons_zero, List.set_cons_succ]
      refine N_one (i := 11) (by rw [hops, List.getElem?_toArray]; rfl) (by rw [hops]; kernel_rfl) (by first | rfl | (rw [hops]; rfl)) ?_
      intro K hK
      go_wp2_with fail
      refine ⟨fun h => absurd h (by decide), ?_⟩
      try rw [← hops]
      refine N_done (by rw [hops]; kernel_rfl) ?_
      clear hops ops
      have X6 := hid HS6.2
      clear HS6 HS1 RST
      obtain ⟨⟨⟨a0, a1, a2, a3, a4, a5⟩, ⟨b0, b1, b2, b3, b4, b5⟩, ⟨c0, c1, c2, c3, c4, c5⟩, d0, d1, d2, d3, d4, d5⟩, -⟩ := HSV.out u6 X6.out
      obtain ⟨⟨⟨p0, p1, p2, p3, p4, p5⟩, ⟨q0, q1, q2, q3, q4, q5⟩, ⟨r0, r1, r2, r3, r4, r5⟩, t0, t1, t2, t3, t4, t5⟩, -⟩ := HSV.out (u6.alloc (.cells #[.int .u64 0, .int .i64 1, .int .u64 1, .int .u64 0, .int .u64 0, .slice none 0 0, .int .u64 0, .int .i64 2, .int .u64 2, .int .u64 0, .int .u64 0, .slice none 0 0, .int .u64 0, .int .i64 3, .int .u64 3, .int .u64 0, .int .u64 0, .slice none 0 0] 75)) (X6.out.alloc _)
      have hx7 : Ext u6 ((u6.alloc (.cells #[.int .u64 0, .int .i64 1, .int .u64 1, .int .u64 0, .int .u64 0, .slice none 0 0, .int .u64 0, .int .i64 2, .int .u64 2, .int .u64 0, .int .u64 0, .slice none 0 0, .int .u64 0, .int .i64 3, .int .u64 3, .int .u64 0, .int .u64 0, .slice none 0 0] 75)).alloc (.cells #[.int .u64 0, .int .i64 1, .int .u64 1, .int .u64 0, .int .u64 0, .slice none 0 0, .int .u64 0, .int .i64 2, .int .u64 2, .int .u64 0, .int .u64 0, .slice none 0 0, .int .u64 0, .int .i64 3, .int .u64 3, .int .u64 0, .int .u64 0, .slice none 0 0] 75)) := ((Ext.refl u6).alloc _).alloc _
      have hg1 : ((u6.alloc (.cells #[.int .u64 0, .int .i64 1, .int .u64 1, .int .u64 0, .int .u64 0, .slice none 0 0, .int .u64 0, .int .i64 2, .int .u64 2, .int .u64 0, .int .u64 0, .slice none 0 0, .int .u64 0, .int .i64 3, .int .u64 3, .int .u64 0, .int .u64 0, .slice none 0 0] 75)).alloc (.cells #[.int .u64 0, .int .i64 1, .int .u64 1, .int .u64 0, .int .u64 0, .slice none 0 0, .int .u64 0, .int .i64 2, .int .u64 2, .int .u64 0, .int .u64 0, .slice none 0 0, .int .u64 0, .int .i64 3, .int .u64 3, .int .u64 0, .int .u64 0, .slice none 0 0] 75)).heap[u6.heap.size]? = some (.cells #[.int .u64 0, .int .i64 1, .int .u64 1, .int .u64 0, .int .u64 0, .slice none 0 0, .int .u64 0, .int .i64 2, .int .u64 2, .int .u64 0, .int .u64 0, .slice none 0 0, .int .u64 0, .int .i64 3, .int .u64 3, .int .u64 0, .int .u64 0, .slice none 0 0] 75 (0, 0)) := heap_alloc_some (heap_new _ _)
      have hg2 : ((u6.alloc (.cells #[.int .u64 0, .int .i64 1, .int .u64 1, .int .u64 0, .int .u64 0, .slice none 0 0, .int .u64 0, .int .i64 2, .int .u64 2, .int .u64 0, .int .u64 0, .slice none 0 0, .int .u64 0, .int .i64 3, .int .u64 3, .int .u64 0, .int .u64 0, .slice none 0 0] 75)).alloc (.cells #[.int .u64 0, .int .i64 1, .int .u64 1, .int .u64 0, .int .u64 0, .slice none 0 0, .int .u64 0, .int .i64 2, .int .u64 2, .int .u64 0, .int .u64 0, .slice none 0 0, .int .u64 0, .int .i64 3, .int .u64 3, .int .u64 0, .int .u64 0, .slice none 0 0] 75)).heap[u6.heap.size + 1]? = some (.cells #[.int .u64 0, .int .i64 1, .int .u64 1, .int .u64 0, .int .u64 0, .slice none 0 0, .int .u64 0, .int .i64 2, .int .u64 2, .int .u64 0, .int .u64 0, .slice none 0 0, .int .u64 0, .int .i64 3, .int .u64 3, .int .u64 0, .int .u64 0, .slice none 0 0] 75 (0, 0)) := by
        have := heap_new (u6.alloc (.cells #[.int .u64 0, .int .i64 1, .int .u64 1, .int .u64 0, .int .u64 0, .slice none 0 0, .int .u64 0, .int .i64 2, .int .u64 2, .int .u64 0, .int .u64 0, .slice none 0 0, .int .u64 0, .int .i64 3, .int .u64 3, .int .u64 0, .int .u64 0, .slice none 0 0] 75)) (.cells #[.int .u64 0, .int .i64 1, .int .u64 1, .int .u64 0, .int .u64 0, .slice none 0 0, .int .u64 0, .int .i64 2, .int .u64 2, .int .u64 0, .int .u64 0, .slice none 0 0, .int .u64 0, .int .i64 3, .int .u64 3, .int .u64 0, .int .u64 0, .slice none 0 0] 75)
        simpa using this
      have FC := hid (FO1.out _ W G _ _ (HWG.out.1.ext hx7) hg1 hg2 (fun e => by have := HWG.out.1.lt _ e; omega) (fun e => by have := HWG.out.1.lt _ e; omega))
      have X7 := hid (X6.out.trans hx7)
      clear hx7 hg1 hg2 FO1
      go_wp2_with fail
      refine FC.out.mono ?_
      rintro e u8 ⟨rfl, G8, hw8, hk8, hn8⟩
      have X8 : Hid (Ext w0 u8) := hid (X7.out.kp hk8 (fun i hi => HWG.out.2 i hi))
      have HW8 := hid (And.intro hw8 (fun i (hi : G8 i) => show w0.heap.size ≤ i from by
        rcases hn8 i hi with e | e
        · exact HWG.out.2 i e
        · have := X7.out.size
          omega))
      clear hw8 hk8 hn8 FC a0 a1 a2 a3 a4 a5 b0 b1 b2 b3 b4 b5 c0 c1 c2 c3 c4 c5 d0 d1 d2 d3 d4 d5 p0 p1 p2 p3 p4 p5 q0 q1 q2 q3 q4 q5 r0 r1 r2 r3 r4 r5 t0 t1 t2 t3 t4 t5
      obtain ⟨⟨⟨a0, a1, a2, a3, a4, a5⟩, ⟨b0, b1, b2, b3, b4, b5⟩, ⟨c0, c1, c2, c3, c4, c5⟩, d0, d1, d2, d3, d4, d5⟩, -⟩ := HSV.out u8 X8.out
      obtain ⟨⟨⟨p0, p1, p2, p3, p4, p5⟩, ⟨q0, q1, q2, q3, q4, q5⟩, ⟨r0, r1, r2, r3, r4, r5⟩, t0, t1, t2, t3, t4, t5⟩, -⟩ := HSV.out (u8.alloc (.cells #[.int .u64 0, .int .i64 1, .int .u64 1, .int .u64 0, .int .u64 0, .slice none 0 0, .int .u64 0, .int .i64 2, .int .u64 2, .int .u64 0, .int .u64 0, .slice none 0 0, .int .u64 0, .int .i64 3, .int .u64 3, .int .u64 0, .int .u64 0, .slice none 0 0] 75)) (X8.out.alloc _)
      have hx9 : Ext u8 ((u8.alloc (.cells #[.int .u64 0, .int .i64 1, .int .u64 1, .int .u64 0, .int .u64 0, .slice none 0 0, .int .u64 0, .int .i64 2, .int .u64 2, .int .u64 0, .int .u64 0, .slice none 0 0, .int .u64 0, .int .i64 3, .int .u64 3, .int .u64 0, .int .u64 0, .slice none 0 0] 75)).alloc (.cells #[.int .u64 0, .int .i64 1, .int .u64 1, .int .u64 0, .int .u64 0, .slice none 0 0, .int .u64 0, .int .i64 2, .int .u64 4, .int .u64 0, .int .u64 0, .slice none 0 0] 75)) := ((Ext.refl u8).alloc _).alloc _
      have hg1 : ((u8.alloc (.cells #[.int .u64 0, .int .i64 1, .int .u64 1, .int .u64 0, .int .u64 0, .slice none 0 0, .int .u64 0, .int .i64 2, .int .u64 2, .int .u64 0, .int .u64 0, .slice none 0 0, .int .u64 0, .int .i64 3, .int .u64 3, .int .u64 0, .int .u64 0, .slice none 0 0] 75)).alloc (.cells #[.int .u64 0, .int .i64 1, .int .u64 1, .int .u64 0, .int .u64 0, .slice none 0 0, .int .u64 0, .int .i64 2, .int .u64 4, .int .u64 0, .int .u64 0, .slice none 0 0] 75)).heap[u8.heap.size]? = some (.cells #[.int .u64 0, .int .i64 1, .int .u64 1, .int .u64 0, .int .u64 0, .slice none 0 0, .int .u64 0, .int .i64 2, .int .u64 2, .int .u64 0, .int .u64 0, .slice none 0 0, .int .u64 0, .int .i64 3, .int .u64 3, .int .u64 0, .int .u64 0, .slice none 0 0] 75 (0, 0)) := heap_alloc_some (heap_new _ _)
      have hg2 : ((u8.alloc (.cells #[.int .u64 0, .int .i64 1, .int .u64 1, .int .u64 0, .int .u64 0, .slice none 0 0, .int .u64 0, .int .i64 2, .int .u64 2, .int .u64 0, .int .u64 0, .slice none 0 0, .int .u64 0, .int .i64 3, .int .u64 3, .int .u64 0, .int .u64 0, .slice none 0 0] 75)).alloc (.cells #[.int .u64 0, .int .i64 1, .int .u64 1, .int .u64 0, .int .u64 0, .slice none 0 0, .int .u64 0, .int .i64 2, .int .u64 4, .int .u64 0, .int .u64 0, .slice none 0 0] 75)).heap[u8.heap.size + 1]? = some (.cells #[.int .u64 0, .int .i64 1, .int .u64 1, .int .u64 0, .int .u64 0, .slice none 0 0, .int .u64 0, .int .i64 2, .int .u64 4, .int .u64 0, .int .u64 0, .slice none 0 0] 75 (0, 0)) := by
        have := heap_new (u8.alloc (.cells #[.int .u64 0, .int .i64 1, .int .u64 1, .int .u64 0, .int .u64 0, .slice none 0 0, .int .u64 0, .int .i64 2, .int .u64 2, .int .u64 0, .int .u64 0, .slice none 0 0, .int .u64 0, .int .i64 3, .int .u64 3, .int .u64 0, .int .u64 0, .slice none 0 0] 75)) (.cells #[.int .u64 0, .int .i64 1, .int .u64 1, .int .u64 0, .int .u64 0, .slice none 0 0, .int .u64 0, .int .i64 2, .int .u64 4, .int .u64 0, .int .u64 0, .slice none 0 0] 75)
        simpa using this
      have FC := hid (FO2.out _ W G8 _ _ (HW8.out.1.ext hx9) hg1 hg2 (fun e => by have := HW8.out.1.lt _ e; omega) (fun e => by have := HW8.out.1.lt _ e; omega))
      have X9 := hid (X8.out.trans hx9)
      clear hx9 hg1 hg2 FO2
      go_wp2_with fail
      refine FC.out.mono ?_
      rintro e u10 ⟨rfl, G10, hw10, hk10, hn10⟩
      have X10 : Hid (Ext w0 u10) := hid (X9.out.kp hk10 (fun i hi => HW8.out.2 i hi))
      have HTC := hid (HGT.out u10 W G10 hw10)
      clear hw10 hk10 hn10 FC a0 a1 a2 a3 a4 a5 b0 b1 b2 b3 b4 b5 c0 c1 c2 c3 c4 c5 d0 d1 d2 d3 d4 d5 p0 p1 p2 p3 p4 p5 q0 q1 q2 q3 q4 q5 r0 r1 r2 r3 r4 r5 t0 t1 t2 t3 t4 t5
      go_wp2_with fail
      refine (HTC.out).mono ?_
      rintro e u11 ⟨rfl, hx⟩
      have X11 := hid (X10.out.trans hx)
      clear hx HTC
      go_wp2_with fail
      go_ret
      exact ⟨rfl, HX0.out.trans X11.out⟩
  · intro K hK
    go_wp2_with fail
    have hgb := heap_new wd (.cells #[.int .u64 0, .int .i64 1, .int .u64 1, .int .u64 0, .int .u64 0, .slice none 0 0, .int .u64 0, .int .i64 2, .int .u64 2, .int .u64 0, .int .u64 0, .slice none 0 0, .int .u64 0, .int .i64 3, .int .u64 3, .int .u64 0, .int .u64 0, .slice none 0 0] 75)
    have hx5 := (Ext.refl wd).alloc (.cells #[.int .u64 0, .int .i64 1, .int .u64 1, .int .u64 0, .int .u64 0, .slice none 0 0, .int .u64 0, .int .i64 2, .int .u64 2, .int .u64 0, .int .u64 0, .slice none 0 0, .int .u64 0, .int .i64 3, .int .u64 3, .int .u64 0, .int .u64 0, .slice none 0 0] 75)
    obtain ⟨g, hge⟩ : ∃ g, g = wd.heap.size := ⟨_, rfl⟩
    rw [← hge] at hgb
    try rw [← hge]
    generalize wd.alloc (.cells #[.int .u64 0, .int .i64 1, .int .u64 1, .int .u64 0, .int .u64 0, .slice none 0 0, .int .u64 0, .int .i64 2, .int .u64 2, .int .u64 0, .int .u64 0, .slice none 0 0, .int .u64 0, .int .i64 3, .int .u64 3, .int .u64 0, .int .u64 0, .slice none 0 0] 75) = u1 at *
    have HS1' := HSV.out u1 (HS1.2.trans hx5)
    clear HS1 hx5 hge
    have HS1 := HS1'
    clear HS1'
    refine ⟨fun _ => HS1, ?_⟩
    try rw [← hops]
    refine N_one (i := 0) (by rw [hops, List.getElem?_toArray]; rfl) (by rw [hops]; kernel_rfl) (by first | rfl | (rw [hops]; rfl)) ?_
    intro K hK
    go_wp2_with fail
    refine (Real_any _).mono ?_
    rintro e u2 ⟨ob, FO, rfl, ho, hx, -⟩
    have HO := hid ho
    have hgb := hx.heap_some hgb
    have HS1' := HSV.out u2 (HS1.2.trans hx)
    clear HS1 hx ho
    have HS1 := HS1'
    clear HS1'
    refine hK _ _ ⟨fun _ => HS1, ?_⟩
    clear hK K
    refine N_one (i := 1) (by rw [hops, List.getElem?_toArray]; rfl) (by rw [hops]; kernel_rfl) (by first | rfl | (rw [hops]; rfl)) ?_
    intro K hK
    go_wp2_with fail
    refine (HRL.out _).mono ?_
    rintro e u3 ⟨rfl, hx⟩
    have HO' := hid (HO.out.ext hx)
    clear HO
    have HO := HO'
    have hgb := hx.heap_some hgb
    have HS1' := HSV.out u3 (HS1.2.trans hx)
    clear HS1 hx HO'
    have HS1 := HS1'
    clear HS1'
    refine hK _ _ ⟨fun _ => HS1, ?_⟩
    clear hK K
    refine N_one (i := 6) (by rw [hops, List.getElem?_toArray]; rfl) (by rw [hops]; kernel_rfl) (by first | rfl | (rw [hops]; rfl)) ?_
    intro K hK
    go_wp2_with fail
    refine (RST.out _ ob FO g HO.out hgb).mono ?_
    rintro e u6 ⟨W, G, rfl, hw, hgn, hx⟩
    have HS6 := HSV.out u6 (HS1.2.trans hx)
    have HWG := hid (And.intro hw (fun i hi => Nat.le_trans HS1.2.size (hgn i hi)))
    clear hw hgn hx hgb HO
    refine hK _ _ ⟨fun _ => HS6, ?_⟩
    clear hK K
    refine N_take (i := 7) (v := ?_) (by rw [hops, List.getElem?_toArray]; rfl) (by rw [hops]; kernel_rfl) (by intro c a d v w h; cases d <;> exact h) (by first | rfl | (rw [hops]; rfl)) ?_ HS6 ?_
    rotate_left
    · intro v h; go_simp; with_reducible rfl
    simp only [Act.put, List.getElem_toArray, List.getElem_cons_zero, List.getElem_cons_succ, List.setIfInBounds_toArray, List.set_cons_zero, List.set_cons_succ]
    refine N_take (i := 8) (v := ?_) (by rw [hops, List.getElem?_toArray]; rfl) (by rw [hops]; kernel_rfl) (by intro c a d v w h; cases d <;> exact h) (by first | rfl | (rw [hops]; rfl)) ?_ HS6 ?_
    rotate_left
    · intro v h; go_simp; with_reducible rfl
    simp only [Act.put, List.getElem_toArray, List.getElem_cons_zero, List.getElem_cons_succ, List.setIfInBounds_toArray, List.set_cons_zero, List.set_cons_succ]
    refine N_take (i := 9) (v := ?_) (by rw [hops, List.getElem?_toArray]; rfl) (by rw [hops]; kernel_rfl) (by intro c a d v w h; cases d <;> exact h) (by first | rfl | (rw [hops]; rfl)) ?_ HS6 ?_
    rotate_left
    · intro v h; go_simp; with_reducible rfl
    simp only [Act.put, List.getElem_toArray, List.getElem_cons_zero, List.getElem_cons_succ, List.setIfInBounds_toArray, List.set_cons_zero, List.set_cons_succ]
    refine N_take (i := 10) (v := ?_) (by rw [hops, List.getElem?_toArray]; rfl) (by rw [hops]; kernel_rfl) (by intro c a d v w h; cases d <;> exact h) (by first | rfl | (rw [hops]; rfl)) ?_ HS6 ?_
    rotate_left
    · intro v h; go_simp; with_reducible rfl
    simp only [Act.put, List.getElem_toArray, List.getElem_cons_zero, List.getElem_cons_succ, List.setIfInBounds_toArray, List.set_cons_zero, List.set_cons_succ]
    refine N_one (i := 11) (by rw [hops, List.getElem?_toArray]; rfl) (by rw [hops]; kernel_rfl) (by first | rfl | (rw [hops]; rfl)) ?_
    intro K hK
    go_wp2_with fail
    refine ⟨fun h => absurd h (by decide), ?_⟩
    try rw [← hops]
    refine N_done (by rw [hops]; kernel_rfl) ?_
    clear hops ops
    have X6 := hid HS6.2
    clear HS6 HS1 RST
    obtain ⟨⟨⟨a0, a1, a2, a3, a4, a5⟩, ⟨b0, b1, b2, b3, b4, b5⟩, ⟨c0, c1, c2, c3, c4, c5⟩, d0, d1, d2, d3, d4, d5⟩, -⟩ := HSV.out u6 X6.out
    obtain ⟨⟨⟨p0, p1, p2, p3, p4, p5⟩, ⟨q0, q1, q2, q3, q4, q5⟩, ⟨r0, r1, r2, r3, r4, r5⟩, t0, t1, t2, t3, t4, t5⟩, -⟩ := HSV.out (u6.alloc (.cells #[.int .u64 0, .int .i64 1, .int .u64 1, .int .u64 0, .int .u64 0, .slice none 0 0, .int .u64 0, .int .i64 2, .int .u64 2, .int .u64 0, .int .u64 0, .slice none 0 0, .int .u64 0, .int .i64 3, .int .u64 3, .int .u64 0, .int .u64 0, .slice none 0 0] 75)) (X6.out.alloc _)
    have hx7 : Ext u6 ((u6.alloc (.cells #[.int .u64 0, .int .i64 1, .int .u64 1, .int .u64 0, .int .u64 0, .slice none 0 0, .int .u64 0, .int .i64 2, .int .u64 2, .int .u64 0, .int .u64 0, .slice none 0 0, .int .u64 0, .int .i64 3, .int .u64 3, .int .u64 0, .int .u64 0, .slice none 0 0] 75)).alloc (.cells #[.int .u64 0, .int .i64 1, .int .u64 1, .int .u64 0, .int .u64 0, .slice none 0 0, .int .u64 0, .int .i64 2, .int .u64 2, .int .u64 0, .int .u64 0, .slice none 0 0, .int .u64 0, .int .i64 3, .int .u64 3, .int .u64 0, .int .u64 0, .slice none 0 0] 75)) := ((Ext.refl u6).alloc _).alloc _
    have hg1 : ((u6.alloc (.cells #[.int .u64 0, .int .i64 1, .int .u64 1, .int .u64 0, .int .u64 0, .slice none 0 0, .int .u64 0, .int .i64 2, .int .u64 2, .int .u64 0, .int .u64 0, .slice none 0 0, .int .u64 0, .int .i64 3, .int .u64 3, .int .u64 0, .int .u64 0, .slice none 0 0] 75)).alloc (.cells #[.int .u64 0, .int .i64 1, .int .u64 1, .int .u64 0, .int .u64 0, .slice none 0 0, .int .u64 0, .int .i64 2, .int .u64 2, .int .u64 0, .int .u64 0, .slice none 0 0, .int .u64 0, .int .i64 3, .int .u64 3, .int .u64 0, .int .u64 0, .slice none 0 0] 75)).heap[u6.heap.size]? = some (.cells #[.int .u64 0, .int .i64 1, .int .u64 1, .int .u64 0, .int .u64 0, .slice none 0 0, .int .u64 0, .int .i64 2, .int .u64 2, .int .u64 0, .int .u64 0, .slice none 0 0, .int .u64 0, .int .i64 3, .int .u64 3, .int .u64 0, .int .u64 0, .slice none 0 0] 75 (0, 0)) := heap_alloc_some (heap_new _ _)
    have hg2 : ((u6.alloc (.cells #[.int .u64 0, .int .i64 1, .int .u64 1, .int .u64 0, .int .u64 0, .slice none 0 0, .int .u64 0, .int .i64 2, .int .u64 2, .int .u64 0, .int .u64 0, .slice none 0 0, .int .u64 0, .int .i64 3, .int .u64 3, .int .u64 0, .int .u64 0, .slice none 0 0] 75)).alloc (.cells #[.int .u64 0, .int .i64 1, .int .u64 1, .int .u64 0, .int .u64 0, .slice none 0 0, .int .u64 0, .int .i64 2, .int .u64 2, .int .u64 0, .int .u64 0, .slice none 0 0, .int .u64 0, .int .i64 3, .int .u64 3, .int .u64 0, .int .u64 0, .slice none 0 0] 75)).heap[u6.heap.size + 1]? = some (.cells #[.int .u64 0, .int .i64 1, .int .u64 1, .int .u64 0, .int .u64 0, .slice none 0 0, .int .u64 0, .int .i64 2, .int .u64 2, .int .u64 0, .int .u64 0, .slice none 0 0, .int .u64 0, .int .i64 3, .int .u64 3, .int .u64 0, .int .u64 0, .slice none 0 0] 75 (0, 0)) := by
      have := heap_new (u6.alloc (.cells #[.int .u64 0, .int .i64 1, .int .u64 1, .int .u64 0, .int .u64 0, .slice none 0 0, .int .u64 0, .int .i64 2, .int .u64 2, .int .u64 0, .int .u64 0, .slice none 0 0, .int .u64 0, .int .i64 3, .int .u64 3, .int .u64 0, .int .u64 0, .slice none 0 0] 75)) (.cells #[.int .u64 0, .int .i64 1, .int .u64 1, .int .u64 0, .int .u64 0, .slice none 0 0, .int .u64 0, .int .i64 2, .int .u64 2, .int .u64 0, .int .u64 0, .slice none 0 0, .int .u64 0, .int .i64 3, .int .u64 3, .int .u64 0, .int .u64 0, .slice none 0 0] 75)
      simpa using this
    have FC := hid (FO1.out _ W G _ _ (HWG.out.1.ext hx7) hg1 hg2 (fun e => by have := HWG.out.1.lt _ e; omega) (fun e => by have := HWG.out.1.lt _ e; omega))
    have X7 := hid (X6.out.trans hx7)
    clear hx7 hg1 hg2 FO1
    go_wp2_with fail
    refine FC.out.mono ?_
    rintro e u8 ⟨rfl, G8, hw8, hk8, hn8⟩
    have X8 : Hid (Ext w0 u8) := hid (X7.out.kp hk8 (fun i hi => HWG.out.2 i hi))
    have HW8 := hid (And.intro hw8 (fun i (hi : G8 i) => show w0.heap.size ≤ i from by
      rcases hn8 i hi with e | e
      · exact HWG.out.2 i e
      · have := X7.out.size
        omega))
    clear hw8 hk8 hn8 FC a0 a1 a2 a3 a4 a5 b0 b1 b2 b3 b4 b5 c0 c1 c2 c3 c4 c5 d0 d1 d2 d3 d4 d5 p0 p1 p2 p3 p4 p5 q0 q1 q2 q3 q4 q5 r0 r1 r2 r3 r4 r5 t0 t1 t2 t3 t4 t5
    obtain ⟨⟨⟨a0, a1, a2, a3, a4, a5⟩, ⟨b0, b1, b2, b3, b4, b5⟩, ⟨c0, c1, c2, c3, c4, c5⟩, d0, d1, d2, d3, d4, d5⟩, -⟩ := HSV.out u8 X8.out
    obtain ⟨⟨⟨p0, p1, p2, p3, p4, p5⟩, ⟨q0, q1, q2, q3, q4, q5⟩, ⟨r0, r1, r2, r3, r4, r5⟩, t0, t1, t2, t3, t4, t5⟩, -⟩ := HSV.out (u8.alloc (.cells #[.int .u64 0, .int .i64 1, .int .u64 1, .int .u64 0, .int .u64 0, .slice none 0 0, .int .u64 0, .int .i64 2, .int .u64 2, .int .u64 0, .int .u64 0, .slice none 0 0, .int .u64 0, .int .i64 3, .int .u64 3, .int .u64 0, .int .u64 0, .slice none 0 0] 75)) (X8.out.alloc _)
    have hx9 : Ext u8 ((u8.alloc (.cells #[.int .u64 0, .int .i64 1, .int .u64 1, .int .u64 0, .int .u64 0, .slice none 0 0, .int .u64 0, .int .i64 2, .int .u64 2, .int .u64 0, .int .u64 0, .slice none 0 0, .int .u64 0, .int .i64 3, .int .u64 3, .int .u64 0, .int .u64 0, .slice none 0 0] 75)).alloc (.cells #[.int .u64 0, .int .i64 1, .int .u64 1, .int .u64 0, .int .u64 0, .slice none 0 0, .int .u64 0, .int .i64 2, .int .u64 4, .int .u64 0, .int .u64 0, .slice none 0 0] 75)) := ((Ext.refl u8).alloc _).alloc _
    have hg1 : ((u8.alloc (.cells #[.int .u64 0, .int .i64 1, .int .u64 1, .int .u64 0, .int .u64 0, .slice none 0 0, .int .u64 0, .int .i64 2, .int .u64 2, .int .u64 0, .int .u64 0, .slice none 0 0, .int .u64 0, .int .i64 3, .int .u64 3, .int .u64 0, .int .u64 0, .slice none 0 0] 75)).alloc (.cells #[.int .u64 0, .int .i64 1, .int .u64 1, .int .u64 0, .int .u64 0, .slice none 0 0, .int .u64 0, .int .i64 2, .int .u64 4, .int .u64 0, .int .u64 0, .slice none 0 0] 75)).heap[u8.heap.size]? = some (.cells #[.int .u64 0, .int .i64 1, .int .u64 1, .int .u64 0, .int .u64 0, .slice none 0 0, .int .u64 0, .int .i64 2, .int .u64 2, .int .u64 0, .int .u64 0, .slice none 0 0, .int .u64 0, .int .i64 3, .int .u64 3, .int .u64 0, .int .u64 0, .slice none 0 0] 75 (0, 0)) := heap_alloc_some (heap_new _ _)
    have hg2 : ((u8.alloc (.cells #[.int .u64 0, .int .i64 1, .int .u64 1, .int .u64 0, .int .u64 0, .slice none 0 0, .int .u64 0, .int .i64 2, .int .u64 2, .int .u64 0, .int .u64 0, .slice none 0 0, .int .u64 0, .int .i64 3, .int .u64 3, .int .u64 0, .int .u64 0, .slice none 0 0] 75)).alloc (.cells #[.int .u64 0, .int .i64 1, .int .u64 1, .int .u64 0, .int .u64 0, .slice none 0 0, .int .u64 0, .int .i64 2, .int .u64 4, .int .u64 0, .int .u64 0, .slice none 0 0] 75)).heap[u8.heap.size + 1]? = some (.cells #[.int .u64 0, .int .i64 1, .int .u64 1, .int .u64 0, .int .u64 0, .slice none 0 0, .int .u64 0, .int .i64 2, .int .u64 4, .int .u64 0, .int .u64 0, .slice none 0 0] 75 (0, 0)) := by
      have := heap_new (u8.alloc (.cells #[.int .u64 0, .int .i64 1, .int .u64 1, .int .u64 0, .int .u64 0, .slice none 0 0, .int .u64 0, .int .i64 2, .int .u64 2, .int .u64 0, .int .u64 0, .slice none 0 0, .int .u64 0, .int .i64 3, .int .u64 3, .int .u64 0, .int .u64 0, .slice none 0 0] 75)) (.cells #[.int .u64 0, .int .i64 1, .int .u64 1, .int .u64 0, .int .u64 0, .slice none 0 0, .int .u64 0, .int .i64 2, .int .u64 4, .int .u64 0, .int .u64 0, .slice none 0 0] 75)
      simpa using this
    have FC := hid (FO2.out _ W G8 _ _ (HW8.out.1.ext hx9) hg1 hg2 (fun e => by have := HW8.out.1.lt _ e; omega) (fun e => by have := HW8.out.1.lt _ e; omega))
    have X9 := hid (X8.out.trans hx9)
    clear hx9 hg1 hg2 FO2
    go_wp2_with fail
    refine FC.out.mono ?_
    rintro e u10 ⟨rfl, G10, hw10, hk10, hn10⟩
    have X10 : Hid (Ext w0 u10) := hid (X9.out.kp hk10 (fun i hi => HW8.out.2 i hi))
    have HTC := hid (HGT.out u10 W G10 hw10)
    clear hw10 hk10 hn10 FC a0 a1 a2 a3 a4 a5 b0 b1 b2 b3 b4 b5 c0 c1 c2 c3 c4 c5 d0 d1 d2 d3 d4 d5 p0 p1 p2 p3 p4 p5 q0 q1 q2 q3 q4 q5 r0 r1 r2 r3 r4 r5 t0 t1 t2 t3 t4 t5
    go_wp2_with fail
    refine (HTC.out).mono ?_
    rintro e u11 ⟨rfl, hx⟩
    have X11 := hid (X10.out.trans hx)
    clear hx HTC
    go_wp2_with fail
    go_ret
    exact ⟨rfl, HX0.out.trans X11.out⟩
end Go.Proofs.YtcikjcjfcanloaaGreat
