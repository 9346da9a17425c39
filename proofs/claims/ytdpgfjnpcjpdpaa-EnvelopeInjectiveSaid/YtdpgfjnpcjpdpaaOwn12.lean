/- The law's short and own: openings copied. -/
import Derived.Test.YtdpgfjnpcjpdpaaCommitLaw
import Derived.Test.YtdpgfjnpcjpdpaaTree4
import Derived.Test.YtdpgfjnpcjpdpaaPeek
set_option linter.unusedSimpArgs false
namespace Go.Proofs.Ytdpgfjnpcjpdpaa
open Go.RowKit
attribute [local irreducible] perm fAdd fMul fPow fSub fNeg fRed hashU drawOf nextState

def Opn.short (x : Opn) : Bool := decide (x.leaf.length ≤ 10) && decide (x.path.length ≤ 12)
set_option maxHeartbeats 400000 in
theorem short_any (x : Opn) (la pa : Option Addr) (lc pc : Nat) (w : World) : Calls Try.prog 32 #[.agg #[.slice la x.leaf.length lc, uv x.salt, .slice pa x.path.length pc]] w fun e w' => e = .returned (.bool x.short) ∧ Ext w w' := by
  have H : Hid (x.short = (decide ((x.leaf.length : Int) ≤ 10) && decide ((x.path.length : Int) ≤ 12))) := hid (by unfold Opn.short; congr 1 <;> simp [decide_eq_decide] <;> omega)
  cases h1 : decide ((x.leaf.length : Int) ≤ 10)
  all_goals cases h2 : decide ((x.path.length : Int) ≤ 12)
  all_goals have HF := hid H.out
  all_goals rw [h1, h2] at HF
  all_goals go_enter Try.func32, Try.ntmps32
  all_goals go_wp2_with fail
  all_goals go_ret
  all_goals exact ⟨ret_bool (by rw [HF.out]; rfl), (Ext.refl _).alloc _⟩

theorem own_empty (v : World) : (v.alloc (.cells #[] 28)).ownsRow 0 28 1 (.slice (some ⟨v.heap.size, 0, none⟩) 0 0) 0 [] := ⟨rfl, .inr ⟨v.heap.size, 0, #[], rfl, Nat.zero_le _, heap_new v _, Nat.le_refl _, Nat.zero_le _, rfl, rfl⟩⟩
def NewOpn (w : World) (x : Opn) (e : Ending) (w' : World) : Prop :=
  ∃ lf pv, e = .returned (.agg #[lf, uv x.salt, pv]) ∧ OwnU w' lf x.leaf ∧ OwnU w' pv x.path ∧ Ext w w' ∧ (∀ k, blk lf = some k → w.heap.size ≤ k) ∧ ∀ k, blk pv = some k → w.heap.size ≤ k
def OwnRel (w w0 : World) (ob : Nat) (x : Opn) (wx : World) : Prop :=
  ∃ lf pv, wx.heap[ob]? = some (.cells #[lf, uv x.salt, pv] 59 (0, 0)) ∧ OwnU wx lf x.leaf ∧ OwnU wx pv x.path ∧ Ext w wx ∧ (∀ k, blk lf = some k → w0.heap.size ≤ k) ∧ ∀ k, blk pv = some k → w0.heap.size ≤ k
/-- What append to an empty slice of one's own leaves. -/
theorem app_new {w0 v w' : World} {g : Nat} {v' : Value} {l : List UInt64} (hx : Ext w0 v) (hg : w0.heap.size ≤ g) (_hgv : g < v.heap.size) (hown : w'.ownsRow 0 28 1 v' (0 + l.length) ([] ++ us l)) (hk : Kp (fun k => some k = some g) v w') (hb : blk v' = some g ∨ blk v' = some v.heap.size) :
    OwnU w' v' l ∧ Ext w0 w' ∧ (∀ k, blk v' = some k → k = g ∨ v.heap.size ≤ k) ∧ ∀ k, blk v' = some k → w0.heap.size ≤ k := by
  refine ⟨by simpa using hown, hx.kp hk (by intro k h; cases h; exact hg), fun k hk' => ?_, fun k hk' => ?_⟩
  · rcases hb with h | h <;> (rw [h] at hk'; cases hk')
    · exact .inl rfl
    · exact .inr (Nat.le_refl _)
  · have := hx.size
    rcases hb with h | h <;> (rw [h] at hk'; cases hk') <;> omega
theorem own_done {w w0 w3 : World} {ob : Nat} {x : Opn} {v1 v2 : Value} {cs : Array Value} (hw : Ext w w0) (hob : w.heap.size ≤ ob) (hx : Ext w0 w3) (hb : w0.heap[ob]? = some (.cells cs 59 (0, 0))) (hc : cs.size = 3) (h1 : OwnU w3 v1 x.leaf) (h2 : OwnU w3 v2 x.path)
    (f1 : ∀ k, blk v1 = some k → w0.heap.size ≤ k) (f2 : ∀ k, blk v2 = some k → w0.heap.size ≤ k) : OwnRel w w0 ob x (((w3.setCell ⟨ob, 0, none⟩ v1).setCell ⟨ob, 1, none⟩ (uv x.salt)).setCell ⟨ob, 2, none⟩ v2) := by
  have hs : Kp (fun k => k = ob) w3 (((w3.setCell ⟨ob, 0, none⟩ v1).setCell ⟨ob, 1, none⟩ (uv x.salt)).setCell ⟨ob, 2, none⟩ v2) :=
    (((Kp.refl (fun k => k = ob) w3).setCell (p := ⟨ob, 0, none⟩) (.inl rfl) _).setCell (p := ⟨ob, 1, none⟩) (.inl rfl) _).setCell (p := ⟨ob, 2, none⟩) (.inl rfl) _
  have hl := heap_lt hb
  refine ⟨v1, v2, ?_, ownsRow_kp h1 hs (by rintro k hk rfl; have := f1 _ hk; omega), ownsRow_kp h2 hs (by rintro k hk rfl; have := f2 _ hk; omega), (hw.trans hx).kp hs (by rintro k rfl; exact hob), f1, f2⟩
  rw [heap_setCell_same (heap_setCell_same (heap_setCell_same (hx.heap_some hb) 0 _) 1 _) 2 _]
  obtain ⟨cl⟩ := cs
  match cl, hc with
  | [a, b, c], _ => rfl
set_option maxRecDepth 100000 in
set_option maxHeartbeats 3200000 in
theorem own12_any {w : World} {x : Opn} {lf pv : Value} (hl : RdU' w lf x.leaf) (hp : RdU' w pv x.path) (hL : x.leaf.length ≤ 1000000000) (hP : x.path.length ≤ 1000000000) :
    Calls Try.prog 34 #[.agg #[lf, uv x.salt, pv]] w (NewOpn w x) := by
  obtain ⟨la, lc, rfl, -⟩ := id hl
  obtain ⟨pa, pc, rfl, -⟩ := id hp
  obtain ⟨i0, hi, hz0, hz1, hz2⟩ := info_parts Try.infoU
  obtain ⟨w0, hw0⟩ : ∃ w0, w0 = (w.alloc (.cells #[.slice la x.leaf.length lc, uv x.salt, .slice pa x.path.length pc] 53)).alloc (.cells #[.slice none 0 0, .int .u64 0, .slice none 0 0] 59) := ⟨_, rfl⟩
  have HW0 := hid hw0
  go_enter Try.func34, Try.ntmps34
  have hx0 : Ext w w0 := by rw [hw0]; exact ((Ext.refl w).alloc _).alloc _
  have hb0 : w0.heap[w.heap.size]? = some (.cells #[.slice la x.leaf.length lc, uv x.salt, .slice pa x.path.length pc] 53 (0, 0)) := by rw [hw0]; exact heap_alloc_some (heap_new _ _)
  have hb1 : w0.heap[w.heap.size + 1]? = some (.cells #[.slice none 0 0, .int .u64 0, .slice none 0 0] 59 (0, 0)) := by
    rw [hw0]
    have := heap_new (w.alloc (.cells #[.slice la x.leaf.length lc, uv x.salt, .slice pa x.path.length pc] 53)) (.cells #[.slice none 0 0, .int .u64 0, .slice none 0 0] 59)
    rwa [World.size_alloc] at this
  have HI := hid hi
  have HZ0 := hid hz0
  have HZ1 := hid hz1
  have HZ2 := hid hz2
  have HL0 := hid (hl.ext hx0)
  have HP0 := hid (hp.ext hx0)
  have HX0 := hid hx0
  have HB1 := hid hb1
  go_upto_region 1 with fail
  rw [← hw0]
  generalize hn : w.heap.size = n at *
  have HN := hid hn
  have hcs : ∀ v, Ext w0 v → v.cell? ⟨n, 0, none⟩ = some (.slice la x.leaf.length lc) ∧ v.cell? ⟨n, 1, none⟩ = some (uv x.salt) ∧ v.cell? ⟨n, 2, none⟩ = some (.slice pa x.path.length pc) := fun v k => ⟨k.cell_some (cell_of hb0 0), k.cell_some (cell_of hb0 1), k.cell_some (cell_of hb0 2)⟩
  have HCS := hid hcs
  clear hw0 hi hz0 hz1 hz2 hl hp hx0 hb0 hb1 hcs hn
  go_cut [] (fun wx => OwnRel w w0 (n + 1) x wx)
  case first =>
    go_wp2_with fail
    refine wp_region_N (fun v => (v.cell? ⟨n, 0, none⟩ = some (.slice la x.leaf.length lc) ∧ v.cell? ⟨n, 1, none⟩ = some (uv x.salt) ∧ v.cell? ⟨n, 2, none⟩ = some (.slice pa x.path.length pc)) ∧ Ext w0 v) 11 12 (by kernel_rfl) (by kernel_rfl) ?_
    intro ops hops
    have HS := keep0 HCS.out
    refine N_take (i := 1) (v := ?_) (by rw [hops, List.getElem?_toArray]; rfl) (by rw [hops]; kernel_rfl) (by intro c a d v w h; cases d <;> exact h) (by first | rfl | (rw [hops]; rfl)) ?_ HS ?_
    rotate_left
    · intro v h; go_simp; with_reducible rfl
    simp only [Act.put, List.getElem_toArray, List.getElem_cons_zero, List.getElem_cons_succ, List.setIfInBounds_toArray, List.set_cons_zero, List.set_cons_succ]
    refine N_take (i := 2) (v := ?_) (by rw [hops, List.getElem?_toArray]; rfl) (by rw [hops]; kernel_rfl) (by intro c a d v w h; cases d <;> exact h) (by first | rfl | (rw [hops]; rfl)) ?_ HS ?_
    rotate_left
    · intro v h; go_simp; with_reducible rfl
    simp only [Act.put, List.getElem_toArray, List.getElem_cons_zero, List.getElem_cons_succ, List.setIfInBounds_toArray, List.set_cons_zero, List.set_cons_succ]
    refine N_take (i := 4) (v := ?_) (by rw [hops, List.getElem?_toArray]; rfl) (by rw [hops]; kernel_rfl) (by intro c a d v w h; cases d <;> exact h) (by first | rfl | (rw [hops]; rfl)) ?_ HS ?_
    rotate_left
    · intro v h; go_simp; with_reducible rfl
    simp only [Act.put, List.getElem_toArray, List.getElem_cons_zero, List.getElem_cons_succ, List.setIfInBounds_toArray, List.set_cons_zero, List.set_cons_succ]
    refine N_take (i := 5) (v := ?_) (by rw [hops, List.getElem?_toArray]; rfl) (by rw [hops]; kernel_rfl) (by intro c a d v w h; cases d <;> exact h) (by first | rfl | (rw [hops]; rfl)) ?_ HS ?_
    rotate_left
    · intro v h; go_simp; with_reducible rfl
    simp only [Act.put, List.getElem_toArray, List.getElem_cons_zero, List.getElem_cons_succ, List.setIfInBounds_toArray, List.set_cons_zero, List.set_cons_succ]
    refine N_take (i := 7) (v := ?_) (by rw [hops, List.getElem?_toArray]; rfl) (by rw [hops]; kernel_rfl) (by intro c a d v w h; cases d <;> exact h) (by first | rfl | (rw [hops]; rfl)) ?_ HS ?_
    rotate_left
    · intro v h; go_simp; with_reducible rfl
    simp only [Act.put, List.getElem_toArray, List.getElem_cons_zero, List.getElem_cons_succ, List.setIfInBounds_toArray, List.set_cons_zero, List.set_cons_succ]
    refine N_take (i := 8) (v := ?_) (by rw [hops, List.getElem?_toArray]; rfl) (by rw [hops]; kernel_rfl) (by intro c a d v w h; cases d <;> exact h) (by first | rfl | (rw [hops]; rfl)) ?_ HS ?_
    rotate_left
    · intro v h; go_simp; with_reducible rfl
    simp only [Act.put, List.getElem_toArray, List.getElem_cons_zero, List.getElem_cons_succ, List.setIfInBounds_toArray, List.set_cons_zero, List.set_cons_succ]
    refine N_two (i := 0) (k := 6) (by rw [hops]; rfl) (by rw [hops, List.getElem?_toArray]; rfl) (by rw [hops]; kernel_rfl) (by first | rfl | (rw [hops]; rfl)) (by first | rfl | (rw [hops]; rfl)) ?_ ?_
    · intro K hK
      go_wp2_with fail
      have hx1 := (Ext.refl w0).drew.alloc (.cells #[] 28)
      have ho1 := own_empty w0.drew
      have HS1 := add_four HCS.out hx1
      refine ⟨fun _ => HS1, ?_⟩
      refine N_two (i := 3) (k := 6) (by rw [hops]; rfl) (by rw [hops, List.getElem?_toArray]; rfl) (by rw [hops]; kernel_rfl) (by first | rfl | (rw [hops]; rfl)) (by first | rfl | (rw [hops]; rfl)) ?_ ?_
      · intro K hK
        refine wp_app' _ _ 24 rfl 28 i0 (.int .u64 0) 1 8 Try.underlying24 HI.out HZ0.out HZ1.out HZ2.out rfl (by decide) (.slice (some ⟨w0.drew.heap.size, 0, none⟩) 0 0) 0 [] rfl ho1 (.slice la x.leaf.length lc) x.leaf.length (us x.leaf) rfl (HL0.out.ext hx1) (by simp) (us_one _) (by unfold maxLen; omega) (by omega) ?_
        intro v1 w2 hown1 hk1 hb1
        have h1 := app_new hx1 (Nat.le_refl _) (by simp) hown1 hk1 hb1
        have HS2 := add_four HCS.out h1.2.1
        obtain ⟨xa, xc, rfl, -⟩ := ownsRow_rd h1.1
        refine hK _ _ ⟨fun _ => HS2, ?_⟩
        clear hK K
        refine N_one (i := 6) (by rw [hops, List.getElem?_toArray]; rfl) (by rw [hops]; kernel_rfl) (by first | rfl | (rw [hops]; rfl)) ?_
        intro K hK
        go_wp2_with fail
        have hx2 := h1.2.1.alloc (.cells #[] 28)
        have ho2 := own_empty w2
        have HS3 := add_four HCS.out hx2
        refine ⟨fun _ => HS3, ?_⟩
        refine N_one (i := 9) (by rw [hops, List.getElem?_toArray]; rfl) (by rw [hops]; kernel_rfl) (by first | rfl | (rw [hops]; rfl)) ?_
        intro K hK
        refine wp_app' _ _ 24 rfl 28 i0 (.int .u64 0) 1 8 Try.underlying24 HI.out HZ0.out HZ1.out HZ2.out rfl (by decide) (.slice (some ⟨w2.heap.size, 0, none⟩) 0 0) 0 [] rfl ho2 (.slice pa x.path.length pc) x.path.length (us x.path) rfl (HP0.out.ext hx2) (by simp) (us_one _) (by unfold maxLen; omega) (by omega) ?_
        intro v2 w3 hown2 hk2 hb2
        have h2 := app_new hx2 h1.2.1.size (by simp) hown2 hk2 hb2
        have h1' : OwnU w3 (.slice xa x.leaf.length xc) x.leaf := ownsRow_kp (ownsRow_ext h1.1 ((Ext.refl w2).alloc (.cells #[] 28))) hk2 (by
          intro k hk hq
          have hlt := ownsRow_lt h1.1 hk
          have he : k = w2.heap.size := Option.some.inj hq
          omega)
        have HS4 := add_four HCS.out h2.2.1
        obtain ⟨ya, yc, rfl, -⟩ := ownsRow_rd h2.1
        refine hK _ _ ⟨fun _ => HS4, ?_⟩
        clear hK K
        refine N_take (i := 10) (v := ?_) (by rw [hops, List.getElem?_toArray]; rfl) (by rw [hops]; kernel_rfl) (by intro c a d v w h; cases d <;> exact h) (by first | rfl | (rw [hops]; rfl)) ?_ HS4 ?_
        rotate_left
        · intro v h; go_simp; with_reducible rfl
        simp only [Act.put, List.getElem_toArray, List.getElem_cons_zero, List.getElem_cons_succ, List.setIfInBounds_toArray, List.set_cons_zero, List.set_cons_succ]
        have hfin := own_done (ob := n + 1) (x := x) HX0.out (by have := HN.out; omega) h2.2.1 HB1.out rfl h1' h2.1 h1.2.2.2 h2.2.2.2
        have hb5 := (h2.2.1).heap_some HB1.out
        have k0 : w3.cell? ⟨n + 1, 0, none⟩ = some (.slice none 0 0) := cell_of hb5 0
        have k1 : w3.cell? ⟨n + 1, 1, none⟩ = some (.int .u64 0) := cell_of hb5 1
        have k2 : w3.cell? ⟨n + 1, 2, none⟩ = some (.slice none 0 0) := cell_of hb5 2
        have kf := frozen_of hb5
        have HFIN := hid hfin
        clear hfin hb5
        clear HS HS1 HS2 HS3 hown1 hown2 hk1 hk2 hb1 hb2 h1 h2 h1' hx1 hx2 ho1 ho2
        refine N_one (i := 11) (by rw [hops, List.getElem?_toArray]; rfl) (by rw [hops]; kernel_rfl) (by first | rfl | (rw [hops]; rfl)) ?_
        intro K hK
        go_wp2_with fail
        refine ⟨fun h => absurd h (by decide), ?_⟩
        refine N_done (by rw [hops]; kernel_rfl) ?_
        clear hops ops
        go_wp2_with fail
        go_meet
        exact HFIN.out
      · intro K hK
        go_wp2_with fail
        clear HS1 ho1 hx1
        have hx2 := ((Ext.refl w0).drew.alloc (.cells #[] 28)).alloc (.cells #[] 28)
        have HS2 := add_four HCS.out hx2
        have hoA : ((w0.drew.alloc (.cells #[] 28)).alloc (.cells #[] 28)).ownsRow 0 28 1 (.slice (some ⟨w0.drew.heap.size, 0, none⟩) 0 0) 0 [] := ownsRow_ext (own_empty w0.drew) ((Ext.refl _).alloc _)
        have hoB : ((w0.drew.alloc (.cells #[] 28)).alloc (.cells #[] 28)).ownsRow 0 28 1 (.slice (some ⟨(w0.heap.size + 1), 0, none⟩) 0 0) 0 [] := by
          have := own_empty (w0.drew.alloc (.cells #[] 28))
          rw [World.size_alloc] at this
          exact this
        refine ⟨fun _ => HS2, ?_⟩
        refine N_one (i := 3) (by rw [hops, List.getElem?_toArray]; rfl) (by rw [hops]; kernel_rfl) (by first | rfl | (rw [hops]; rfl)) ?_
        intro K hK
        refine wp_app' _ _ 24 rfl 28 i0 (.int .u64 0) 1 8 Try.underlying24 HI.out HZ0.out HZ1.out HZ2.out rfl (by decide) (.slice (some ⟨w0.heap.size, 0, none⟩) 0 0) 0 [] rfl hoA (.slice la x.leaf.length lc) x.leaf.length (us x.leaf) rfl (HL0.out.ext hx2) (by simp) (us_one _) (by unfold maxLen; omega) (by omega) ?_
        intro v1 w3 hown1 hk1 hb1
        have h1 := app_new hx2 (by simp) (by simp; try omega) hown1 hk1 hb1
        have HS3 := add_four HCS.out h1.2.1
        obtain ⟨xa, xc, rfl, -⟩ := ownsRow_rd h1.1
        have hoC := ownsRow_kp hoB hk1 (by
          intro k hk hq
          have he : k = w0.drew.heap.size := Option.some.inj hq
          have hf : (w0.heap.size + 1) = k := Option.some.inj hk
          simp at he hf; omega)
        have hz3 : w0.heap.size + 1 < w3.heap.size := by have := hk1.size; simp at this; omega
        refine hK _ _ ⟨fun _ => HS3, ?_⟩
        clear hK K
        refine N_one (i := 9) (by rw [hops, List.getElem?_toArray]; rfl) (by rw [hops]; kernel_rfl) (by first | rfl | (rw [hops]; rfl)) ?_
        intro K hK
        refine wp_app' _ _ 24 rfl 28 i0 (.int .u64 0) 1 8 Try.underlying24 HI.out HZ0.out HZ1.out HZ2.out rfl (by decide) (.slice (some ⟨(w0.heap.size + 1), 0, none⟩) 0 0) 0 [] rfl hoC (.slice pa x.path.length pc) x.path.length (us x.path) rfl (HP0.out.ext h1.2.1) (by simp) (us_one _) (by unfold maxLen; omega) (by omega) ?_
        intro v2 w4 hown2 hk2 hb2
        have h2 := app_new h1.2.1 (by simp) (by simp; omega) hown2 hk2 hb2
        have h1' : OwnU w4 (.slice xa x.leaf.length xc) x.leaf := ownsRow_kp h1.1 hk2 (by
          intro k hk hq
          have hlt := h1.2.2.1 k hk
          have he : k = (w0.heap.size + 1) := Option.some.inj hq
          simp at he hlt; omega)
        have HS4 := add_four HCS.out h2.2.1
        obtain ⟨ya, yc, rfl, -⟩ := ownsRow_rd h2.1
        refine hK _ _ ⟨fun _ => HS4, ?_⟩
        clear hK K
        refine N_take (i := 10) (v := ?_) (by rw [hops, List.getElem?_toArray]; rfl) (by rw [hops]; kernel_rfl) (by intro c a d v w h; cases d <;> exact h) (by first | rfl | (rw [hops]; rfl)) ?_ HS4 ?_
        rotate_left
        · intro v h; go_simp; with_reducible rfl
        simp only [Act.put, List.getElem_toArray, List.getElem_cons_zero, List.getElem_cons_succ, List.setIfInBounds_toArray, List.set_cons_zero, List.set_cons_succ]
        have hfin := own_done (ob := n + 1) (x := x) HX0.out (by have := HN.out; omega) h2.2.1 HB1.out rfl h1' h2.1 h1.2.2.2 h2.2.2.2
        have hb5 := (h2.2.1).heap_some HB1.out
        have k0 : w4.cell? ⟨n + 1, 0, none⟩ = some (.slice none 0 0) := cell_of hb5 0
        have k1 : w4.cell? ⟨n + 1, 1, none⟩ = some (.int .u64 0) := cell_of hb5 1
        have k2 : w4.cell? ⟨n + 1, 2, none⟩ = some (.slice none 0 0) := cell_of hb5 2
        have kf := frozen_of hb5
        have HFIN := hid hfin
        clear hfin hb5 HS2 HS3 hown1 hown2 hk1 hk2 hb1 hb2 h1 h2 h1' hx2 hoA hoB hoC hz3
        refine N_one (i := 11) (by rw [hops, List.getElem?_toArray]; rfl) (by rw [hops]; kernel_rfl) (by first | rfl | (rw [hops]; rfl)) ?_
        intro K hK
        go_wp2_with fail
        refine ⟨fun h => absurd h (by decide), ?_⟩
        refine N_done (by rw [hops]; kernel_rfl) ?_
        clear hops ops
        go_wp2_with fail
        go_meet
        exact HFIN.out
    · intro K hK
      go_wp2_with fail
      have HS1 := add_four HCS.out ((Ext.refl w0).drew.alloc (.cells #[] 28))
      refine ⟨fun _ => HS1, ?_⟩
      refine N_one (i := 0) (by rw [hops, List.getElem?_toArray]; rfl) (by rw [hops]; kernel_rfl) (by first | rfl | (rw [hops]; rfl)) ?_
      intro K hK
      go_wp2_with fail
      clear HS1
      have hx2 := ((Ext.refl w0).drew.alloc (.cells #[] 28)).alloc (.cells #[] 28)
      have HS2 := add_four HCS.out hx2
      have hoA : ((w0.drew.alloc (.cells #[] 28)).alloc (.cells #[] 28)).ownsRow 0 28 1 (.slice (some ⟨(w0.heap.size + 1), 0, none⟩) 0 0) 0 [] := by
          have := own_empty (w0.drew.alloc (.cells #[] 28))
          rw [World.size_alloc] at this
          exact this
      have hoB : ((w0.drew.alloc (.cells #[] 28)).alloc (.cells #[] 28)).ownsRow 0 28 1 (.slice (some ⟨w0.drew.heap.size, 0, none⟩) 0 0) 0 [] := ownsRow_ext (own_empty w0.drew) ((Ext.refl _).alloc _)
      refine ⟨fun _ => HS2, ?_⟩
      refine N_one (i := 3) (by rw [hops, List.getElem?_toArray]; rfl) (by rw [hops]; kernel_rfl) (by first | rfl | (rw [hops]; rfl)) ?_
      intro K hK
      refine wp_app' _ _ 24 rfl 28 i0 (.int .u64 0) 1 8 Try.underlying24 HI.out HZ0.out HZ1.out HZ2.out rfl (by decide) (.slice (some ⟨(w0.heap.size + 1), 0, none⟩) 0 0) 0 [] rfl hoA (.slice la x.leaf.length lc) x.leaf.length (us x.leaf) rfl (HL0.out.ext hx2) (by simp) (us_one _) (by unfold maxLen; omega) (by omega) ?_
      intro v1 w3 hown1 hk1 hb1
      have h1 := app_new hx2 (by simp) (by simp; try omega) hown1 hk1 hb1
      have HS3 := add_four HCS.out h1.2.1
      obtain ⟨xa, xc, rfl, -⟩ := ownsRow_rd h1.1
      have hoC := ownsRow_kp hoB hk1 (by
        intro k hk hq
        have he : k = (w0.heap.size + 1) := Option.some.inj hq
        have hf : w0.drew.heap.size = k := Option.some.inj hk
        simp at he hf; omega)
      have hz3 : w0.heap.size + 1 < w3.heap.size := by have := hk1.size; simp at this; omega
      refine hK _ _ ⟨fun _ => HS3, ?_⟩
      clear hK K
      refine N_one (i := 9) (by rw [hops, List.getElem?_toArray]; rfl) (by rw [hops]; kernel_rfl) (by first | rfl | (rw [hops]; rfl)) ?_
      intro K hK
      refine wp_app' _ _ 24 rfl 28 i0 (.int .u64 0) 1 8 Try.underlying24 HI.out HZ0.out HZ1.out HZ2.out rfl (by decide) (.slice (some ⟨w0.drew.heap.size, 0, none⟩) 0 0) 0 [] rfl hoC (.slice pa x.path.length pc) x.path.length (us x.path) rfl (HP0.out.ext h1.2.1) (by simp) (us_one _) (by unfold maxLen; omega) (by omega) ?_
      intro v2 w4 hown2 hk2 hb2
      have h2 := app_new h1.2.1 (by simp) (by simp; omega) hown2 hk2 hb2
      have h1' : OwnU w4 (.slice xa x.leaf.length xc) x.leaf := ownsRow_kp h1.1 hk2 (by
        intro k hk hq
        have hlt := h1.2.2.1 k hk
        have he : k = w0.drew.heap.size := Option.some.inj hq
        simp at he hlt; omega)
      have HS4 := add_four HCS.out h2.2.1
      obtain ⟨ya, yc, rfl, -⟩ := ownsRow_rd h2.1
      refine hK _ _ ⟨fun _ => HS4, ?_⟩
      clear hK K
      refine N_take (i := 10) (v := ?_) (by rw [hops, List.getElem?_toArray]; rfl) (by rw [hops]; kernel_rfl) (by intro c a d v w h; cases d <;> exact h) (by first | rfl | (rw [hops]; rfl)) ?_ HS4 ?_
      rotate_left
      · intro v h; go_simp; with_reducible rfl
      simp only [Act.put, List.getElem_toArray, List.getElem_cons_zero, List.getElem_cons_succ, List.setIfInBounds_toArray, List.set_cons_zero, List.set_cons_succ]
      have hfin := own_done (ob := n + 1) (x := x) HX0.out (by have := HN.out; omega) h2.2.1 HB1.out rfl h1' h2.1 h1.2.2.2 h2.2.2.2
      have hb5 := (h2.2.1).heap_some HB1.out
      have k0 : w4.cell? ⟨n + 1, 0, none⟩ = some (.slice none 0 0) := cell_of hb5 0
      have k1 : w4.cell? ⟨n + 1, 1, none⟩ = some (.int .u64 0) := cell_of hb5 1
      have k2 : w4.cell? ⟨n + 1, 2, none⟩ = some (.slice none 0 0) := cell_of hb5 2
      have kf := frozen_of hb5
      have HFIN := hid hfin
      clear hfin hb5 HS2 HS3 hown1 hown2 hk1 hk2 hb1 hb2 h1 h2 h1' hx2 hoA hoB hoC hz3
      refine N_one (i := 11) (by rw [hops, List.getElem?_toArray]; rfl) (by rw [hops]; kernel_rfl) (by first | rfl | (rw [hops]; rfl)) ?_
      intro K hK
      go_wp2_with fail
      refine ⟨fun h => absurd h (by decide), ?_⟩
      refine N_done (by rw [hops]; kernel_rfl) ?_
      clear hops ops
      go_wp2_with fail
      go_meet
      exact HFIN.out
  case rest =>
    obtain ⟨lf, pv, hg, h1, h2, hx, f1, f2⟩ := hcut
    have c0 := cell_of hg 0
    have c1 := cell_of hg 1
    have c2 := cell_of hg 2
    simp at c0 c1 c2
    go_wp2_with fail
    have hsz := HX0.out.size
    exact bodyPost_ret (v := .agg #[lf, uv x.salt, pv]) (by simp [results, Try.results34, go_sem, c0, c1, c2]) rfl ⟨lf, pv, rfl, h1, h2, hx, fun k hk => Nat.le_trans hsz (f1 k hk), fun k hk => Nat.le_trans hsz (f2 k hk)⟩
end Go.Proofs.Ytdpgfjnpcjpdpaa
