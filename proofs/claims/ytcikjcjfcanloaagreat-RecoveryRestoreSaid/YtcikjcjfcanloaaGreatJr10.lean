/- Texts of this claim, joined: Log3, Log4, Log5, Log6, Wal2, Wal3, Mark. -/
import Derived.Test.YtcikjcjfcanloaaGreatJr8
import Derived.Test.YtcikjcjfcanloaaGreatJr9
set_option linter.unusedSimpArgs false
namespace Go.Proofs.YtcikjcjfcanloaaGreat
open Go.RowKit
attribute [local irreducible] perm fAdd fMul fPow fSub fNeg fRed hashU
def TreeAt (w : World) (B d : Nat) (l : List UInt64) (F : Nat → Prop) : Prop := ∃ LV vs ls, LogIn w B LV d vs ls F ∧ ∀ k, k ≤ d → ls[k]? = some (lvl k l)
def TreeTo (w : World) (B d : Nat) (F : Nat → Prop) (l : List UInt64) (w' : World) : Prop := ∃ F', TreeAt w' B d l F' ∧ Kp F w w' ∧ ∀ i, F' i → F i ∨ w.heap.size ≤ i
/-- The levels up to K are right, those above but for their last digests. -/
structure UpS (w u : World) (B LV d : Nat) (F : Nat → Prop) (l : List UInt64) (K : Nat) (vs : List Value) (ls : List (List UInt64)) (F' : Nat → Prop) : Prop where
  i : LogIn u B LV d vs ls F'
  kp : Kp F w u
  f : ∀ i, F' i → F i ∨ w.heap.size ≤ i
  lo : ∀ k, k < K → ls[k]? = some (lvl k l)
  hi : ∀ k, K ≤ k → k ≤ d → ∃ v, ls[k]? = some v ∧ Near k v l
theorem sizeU_self (n : Nat) : ∀ k, sizeU n k ≤ n
  | 0 => Nat.le_refl _
  | k + 1 => by have := sizeU_self n k; show (sizeU n k + 1) / 2 ≤ n; omega
theorem lvl_le (l : List UInt64) (k : Nat) : (lvl k l).length ≤ l.length := by rw [lvl_size]; exact sizeU_self _ _
/-- One level more. -/
theorem UpS.next {w u u' : World} {B LV d : Nat} {F : Nat → Prop} {l : List UInt64} {K : Nat} {vs vs' : List Value} {ls : List (List UInt64)} {F' F'' : Nat → Prop} (h : UpS w u B LV d F l K vs ls F') (hK : K ≤ d)
    (hi : LogIn u' B LV d vs' (ls.set K (lvl K l)) F'') (hk : Kp F' u u') (hf : ∀ i, F'' i → F' i ∨ u.heap.size ≤ i) : UpS w u' B LV d F l (K + 1) vs' (ls.set K (lvl K l)) F'' := by
  have hsz := h.kp.size
  have hkl : K < ls.length := by rw [h.i.ll]; omega
  refine ⟨hi, ?_, fun i h1 => ?_, fun k h1 => ?_, fun k h1 h2 => ?_⟩
  · refine ⟨hk.os.trans h.kp.os, hk.tape.trans h.kp.tape, hk.output.trans h.kp.output, Nat.le_trans h.kp.size hk.size, fun j hj hF => ?_⟩
    rw [hk.block j (by omega) (fun hF' => by
      rcases h.f j hF' with e | e
      · exact hF e
      · omega)]
    exact h.kp.block j hj hF
  · rcases hf i h1 with e | e
    · exact h.f i e
    · exact .inr (by omega)
  · by_cases hj : k = K
    · subst hj
      rw [List.getElem?_set_self hkl]
    · rw [List.getElem?_set_ne (fun e => hj e.symm)]
      exact h.lo k (by omega)
  · rw [List.getElem?_set_ne (by omega)]
    exact h.hi k (by omega) h2
theorem UpS.done {w u : World} {B LV d : Nat} {F : Nat → Prop} {l : List UInt64} {vs : List Value} {ls : List (List UInt64)} {F' : Nat → Prop} (h : UpS w u B LV d F l (d + 1) vs ls F') : TreeTo w B d F l u :=
  ⟨F', ⟨LV, vs, ls, h.i, fun k hk => h.lo k (by omega)⟩, h.kp, h.f⟩
theorem UpS.ext {w u u' : World} {B LV d : Nat} {F : Nat → Prop} {l : List UInt64} {K : Nat} {vs : List Value} {ls : List (List UInt64)} {F' : Nat → Prop} (h : UpS w u B LV d F l K vs ls F') (k : Ext u u') : UpS w u' B LV d F l K vs ls F' :=
  { h with i := h.i.ext k, kp := h.kp.ext k }
/-- An empty tree is right as it is. -/
theorem UpS.nil {w u : World} {B LV d : Nat} {F : Nat → Prop} {vs : List Value} {ls : List (List UInt64)} {F' : Nat → Prop} (h : UpS w u B LV d F [] 1 vs ls F') : TreeTo w B d F [] u := by
  refine ⟨F', ⟨LV, vs, ls, h.i, fun k hk => ?_⟩, h.kp, h.f⟩
  by_cases h0 : k = 0
  · subst h0
    exact h.lo 0 (by omega)
  · obtain ⟨v, h1, h2⟩ := h.hi k (by omega) hk
    have h3 := h2.n
    rw [lvl_nil] at h3 ⊢
    rw [h1]
    congr 1
    exact List.eq_nil_of_length_eq_zero (by simpa using h3)
set_option maxRecDepth 100000 in
set_option maxHeartbeats 12800000 in
theorem logUpdate_any {w : World} {B LV d : Nat} {l : List UInt64} {vs : List Value} {ls : List (List UInt64)} {F F0 : Nat → Prop} {w00 : World} (h : UpS w00 w B LV d F0 l 1 vs ls F) (h1 : 1 ≤ d) (hd : d ≤ 12) (hn : l.length ≤ 100000) :
    Calls Tryz.prog 107 #[.pointer (some ⟨B, 0, none⟩)] w fun e w' => e = .returned (.tuple #[]) ∧ TreeTo w00 B d F0 l w' := by
  have HC : Hid (∀ v, Ext w v → Calls Tryz.prog 88 #[.pointer (some ⟨B, 0, none⟩)] v fun e w' => e = .returned (.int .i64 (l.length : Int)) ∧ Ext v w') := hid fun v k => logCount_any (h.i.ext k) h1 (h.lo 0 (by omega))
  have HH := hid h
  have hdI : (d : Int) ≤ 12 := by omega
  have hd0 : 1 ≤ (d : Int) := by omega
  have hnI : (l.length : Int) ≤ 100000 := by omega
  have HN := hid hn
  have HD := hid hd
  clear h hn hd
  cases l with
  | nil =>
    go_enter Tryz.func107, Tryz.ntmps107
    go_wp2_with fail
    refine (HC.out _ (Ext.refl w)).mono ?_
    rintro e w1 ⟨rfl, hx⟩
    have HX1 := hid hx
    clear hx HC
    go_wp2_with fail
    exact bodyPost_ret (v := .tuple #[]) (by simp [results, Tryz.results107, go_sem]) rfl ⟨rfl, (HH.out.ext HX1.out).nil⟩
  | cons x0 r0 =>
  obtain ⟨l, hl⟩ : ∃ l, l = x0 :: r0 := ⟨_, rfl⟩
  have hl0 : 1 ≤ l.length := by rw [hl]; simp
  rw [← hl] at HC HH hnI HN ⊢
  clear hl
  have hl1 : 1 ≤ (l.length : Int) := by omega
  have hlz : decide ((l.length : Int) = 0) = false := decide_eq_false (by omega)
  have hlz2 : ((l.length : Int) == 0) = false := by rw [beq_eq_false_iff_ne]; omega
  go_enter Tryz.func107, Tryz.ntmps107
  go_wp2_with fail
  refine (HC.out _ (Ext.refl w)).mono ?_
  rintro e w1 ⟨rfl, hx⟩
  have HX1 := hid hx
  clear hx
  go_wp2_with fail
  refine (HC.out _ HX1.out).mono ?_
  rintro e w2 ⟨rfl, hx⟩
  have HX2 := hid (HX1.out.trans hx)
  clear hx HC HX1
  go_wp2_with fail
  have H2 := hid (HH.out.ext HX2.out)
  clear HH HX2
  have hst : IntKind.i64.wrap ((l.length : Int) - 1) = ((l.length - 1 : Nat) : Int) := by rw [IntKind.wrap_i64]; omega
  go_loopw [2, 3] (fun pv kv wr => ∃ (k : Nat) (vs : List Value) (ls : List (List UInt64)) (F' : Nat → Prop), k ≤ d ∧ pv = .int .i64 (((lvl k l).length - 1 : Nat) : Int) ∧ kv = .int .i64 ((k + 1 : Nat) : Int) ∧ Hid (UpS w00 wr B LV d F0 l (k + 1) vs ls F')) (fun _ kv _ => d + 1 - (intOf kv).toNat)
  case atStart => exact ⟨0, vs, ls, F, by omega, (by show _ = Value.int .i64 ((l.length - 1 : Nat) : Int); go_num), rfl, H2⟩
  case round =>
    clear H2 hst
    obtain ⟨k, vs, ls, F', hk, rfl, rfl, HU⟩ := hrel
    have hk0 : 0 ≤ (k : Int) := Int.natCast_nonneg _
    obtain ⟨c0, c1⟩ := HU.out.i.cells
    by_cases hkd : k + 1 ≤ d
    · have hkB : decide (((k + 1 : Nat) : Int) ≤ (d : Int)) = true := by simp; omega
      have hkI : ((k + 1 : Nat) : Int) ≤ (d : Int) := by omega
      obtain ⟨v, hv, hnear⟩ := HU.out.hi (k + 1) (by omega) hkd
      have hlk := HU.out.lo k (by omega)
      have hn1 : (lvl (k + 1) l).length = ((lvl k l).length + 1) / 2 := upU_length _ _
      have hp0 := lvl_pos (l := l) (by omega) k
      have hle := lvl_le l k
      have hvn := hnear.n
      obtain ⟨q, hq⟩ : ∃ q, q = (lvl k l).length - 1 := ⟨_, rfl⟩
      obtain ⟨p, hp⟩ : ∃ p, p = (lvl (k + 1) l).length - 1 := ⟨_, rfl⟩
      have hvp : p = v.length ∨ p + 1 = v.length := by omega
      have hpq : ((q : Nat) : Int).tdiv 2 = (p : Int) := by rw [Int.tdiv_eq_ediv_of_nonneg (by omega)]; omega
      have HNX : Hid (fixU v p (valU k (lvl k l) p) = lvl (k + 1) l) := hid (by rw [hp]; exact fix_ok hnear (by omega))
      have HP := hid hp
      have hpI : (p : Int) ≤ 100000 := by have := HN.out; omega
      have hpI0 : 0 ≤ (p : Int) := Int.natCast_nonneg _
      have HDL : Hid (∀ u, Ext wr u → Calls Tryz.prog 109 #[.pointer (some ⟨B, 0, none⟩), .int .i64 (k : Int), .int .i64 (2 * (p : Int))] u fun e w' => e = .returned (uv (digU k (lvl k l) (2 * p))) ∧ Ext u w') := hid fun u ku => by
        have := logDigest_any (HU.out.i.ext ku) HD.out (by omega) hlk (2 * p)
        rwa [show ((2 * p : Nat) : Int) = 2 * (p : Int) by omega] at this
      have HDR : Hid (∀ u, Ext wr u → Calls Tryz.prog 109 #[.pointer (some ⟨B, 0, none⟩), .int .i64 (k : Int), .int .i64 (2 * (p : Int) + 1)] u fun e w' => e = .returned (uv (digU k (lvl k l) (2 * p + 1))) ∧ Ext u w') := hid fun u ku => by
        have := logDigest_any (HU.out.i.ext ku) HD.out (by omega) hlk (2 * p + 1)
        rwa [show ((2 * p + 1 : Nat) : Int) = 2 * (p : Int) + 1 by omega] at this
      have HHA : Hid (∀ u : World, Calls Tryz.prog 133 #[.int .u64 18446744069414584321, .int .u64 6, .slice (some ⟨u.heap.size, 0, none⟩) 2 2] (u.alloc (.cells #[uv (digU k (lvl k l) (2 * p)), uv (digU k (lvl k l) (2 * p + 1))] 22)) fun e w' => e = .returned (uv (valU k (lvl k l) p)) ∧ Ext u w') := hid fun u => hash2_any 6 _ _ u
      generalize valU k (lvl k l) p = x at *
      generalize digU k (lvl k l) (2 * p) = da at *
      generalize digU k (lvl k l) (2 * p + 1) = db at *
      rw [← hq]
      have hk1 : IntKind.i64.wrap (((k + 1 : Nat) : Int) - 1) = (k : Int) := by rw [IntKind.wrap_i64]; omega
      have HQ := hid hq
      have HVP := hid hvp
      clear hp hq hvp hn1 hp0 hle hvn hnear hlk
      go_wp2_with fail
      refine (HDL.out _ (Ext.refl wr)).mono ?_
      rintro e u1 ⟨rfl, hx⟩
      have X1 := hid hx
      clear hx HDL
      go_wp2_with fail
      refine (HDR.out _ X1.out).mono ?_
      rintro e u2 ⟨rfl, hx⟩
      have X2 := hid (X1.out.trans hx)
      clear hx HDR X1
      go_wp2_with fail
      refine (HHA.out _).mono ?_
      rintro e u3 ⟨rfl, hx⟩
      have X3 := hid (X2.out.trans hx)
      clear hx HHA X2
      have U3 := hid (HU.out.ext X3.out)
      clear c0 c1
      obtain ⟨va, vc, hvs, c2, hown⟩ := U3.out.i.at hkd hv
      obtain ⟨c0, c1⟩ := U3.out.i.cells
      have hkd1 : ((k + 1 : Nat) : Int) < ((d + 1 : Nat) : Int) := by omega
      have hk10 : 0 ≤ ((k + 1 : Nat) : Int) := by omega
      have hk11 : 0 ≤ (k : Int) + 1 := by omega
      have hkd2 : k < d := by omega
      have HVS := hid hvs
      have HOW := hid hown
      have HVL := hid hv
      clear hvs hown hv
      by_cases hpv : p < v.length
      · have hpB : decide ((p : Int) < (v.length : Int)) = true := by simp; omega
        have hpvI : (p : Int) < (v.length : Int) := by omega
        obtain ⟨g, rfl, c3⟩ := own_at HOW.out (List.getElem?_eq_getElem hpv)
        obtain ⟨cur, hcur⟩ : ∃ cur, u3.heap[g]? = some (.cells cur 22 (0, 0)) := by
          rcases HOW.out.2 with ⟨h, -⟩ | ⟨g', cap, cur, h1, h2, h3, -⟩
          · cases h
          · injection h1 with e1
            injection e1 with e1
            injection e1 with e1
            subst e1
            exact ⟨cur, h3⟩
        have fz := frozen_of hcur
        clear hcur
        go_wp2_with fail
        have hW := U3.out.i.write HVS.out HVL.out p x
        have hfx := HNX.out
        unfold fixU at hfx
        rw [if_pos hpv] at hfx
        rw [hfx] at hW
        have HNW := hid (U3.out.next hkd hW.1 hW.2 (fun i hi => .inl hi))
        clear hW hfx
        go_roundw
        case rel => exact ⟨k + 1, _, _, _, hkd, by rw [← HP.out], by go_num, HNW⟩
        case measure => simp [intOf]; omega
      · have hpe : p = v.length := by have := HVP.out; omega
        have hpB : decide ((p : Int) < (v.length : Int)) = false := by simp; omega
        go_wp2_with fail
        obtain ⟨j0, hj, hjz0, hjz1, hjz2⟩ := info_parts Tryz.infoU
        have HJ := hid (And.intro hj (And.intro hjz0 (And.intro hjz1 hjz2)))
        clear hj hjz0 hjz1 hjz2
        have HCY : Hid (∀ u, Ext u3 u → u.cell? ⟨B, 1, none⟩ = some (.slice (some ⟨LV, 0, none⟩) (d + 1) (d + 1)) ∧ u.cell? ⟨LV, k + 1, none⟩ = some (.slice va v.length vc)) := hid fun u ku => ⟨ku.cell_some c1, ku.cell_some c2⟩
        clear c0 c1 c2
        refine wp_region_T (fun u => (u.cell? ⟨B, 1, none⟩ = some (.slice (some ⟨LV, 0, none⟩) (d + 1) (d + 1)) ∧ u.cell? ⟨LV, k + 1, none⟩ = some (.slice va v.length vc))) 15 [(0, true), (1, true), (2, true), (3, true), (4, true), (5, true), (6, true), (7, true), (8, true), (9, true), (10, true), (11, true), (12, true), (13, false), (14, false), (15, false), (16, false)] (by kernel_rfl) (by kernel_rfl) (by intro c a d v w h; cases d <;> exact h) ?_
        intro ops hops
        have HSS := HCY.out _ (Ext.refl u3).drew
        iterate 13
          refine wpT_take (v := ?_) (by rw [hops, List.getElem?_toArray]; rfl) (by first | rfl | (rw [hops]; rfl)) ?_ HSS ?_
          rotate_left
          · intro v h; go_simp; with_reducible rfl
          simp only [Act.put, List.getElem_toArray, List.getElem_cons_zero, List.getElem_cons_succ, List.setIfInBounds_toArray, List.set_cons_zero, List.set_cons_succ]
        clear HSS
        refine wpT_step (by rw [hops, List.getElem?_toArray]; rfl) (by first | rfl | (rw [hops]; rfl)) ?_
        intro K hK
        go_wp2_with fail
        refine ⟨fun _ => HCY.out _ ((Ext.refl u3).alloc _).drew, ?_⟩
        try rw [← hops]
        refine wpT_step (by rw [hops, List.getElem?_toArray]; rfl) (by first | rfl | (rw [hops]; rfl)) ?_
        intro K hK
        have hx4 : Ext u3 (u3.alloc (.cells #[uv x] 22)).drew := ((Ext.refl u3).alloc _).drew
        have O4 := ownsRow_ext HOW.out hx4
        have hrd : RdC' (u3.alloc (.cells #[uv x] 22)).drew (.slice (some ⟨u3.heap.size, 0, none⟩) 1 1) 1 [uv x] := (RdC.new1 u3 _ _).weak.ext (Ext.refl _).drew
        have hvl : v.length ≤ 100000 := by omega
        refine wp_app' _ _ 57 rfl 22 j0 (.int .u64 0) 1 8 Tryz.underlying57 HJ.out.1 HJ.out.2.1 HJ.out.2.2.1 HJ.out.2.2.2 rfl (by decide) (.slice va v.length vc) v.length (us v) rfl O4 (.slice (some ⟨u3.heap.size, 0, none⟩) 1 1) 1 [uv x] rfl hrd (by simp) (us_one [x]) (by unfold maxLen; omega) (by omega) ?_
        intro v7 w7 own7 hk7 hb7
        have k37 : Kp (fun i => blk (.slice va v.length vc) = some i) u3 w7 := (Kp.of_ext hx4).trans (hk7.mono fun _ _ e => e.symm)
        refine hK _ _ ⟨fun _ => ⟨k37.cell_some (fun e => (U3.out.i.nb (k + 1) _ _ HVS.out e).1 rfl) (HCY.out _ (Ext.refl u3)).1, k37.cell_some (fun e => (U3.out.i.nb (k + 1) _ _ HVS.out e).2 rfl) (HCY.out _ (Ext.refl u3)).2⟩, ?_⟩
        clear hK K
        have hsz4 := hx4.size
        have hb7' : ∀ i, blk v7 = some i → blk (.slice va v.length vc) = some i ∨ u3.heap.size ≤ i := fun i hi => by
          rcases hb7 with e | e
          · exact .inl (e ▸ hi)
          · rw [e] at hi; exact .inr (by have := Option.some.inj hi; omega)
        obtain ⟨sa7, sc7, rfl, -⟩ := ownsRow_rd own7
        have ho7 : OwnU w7 (.slice sa7 (v.length + 1) sc7) (v ++ [x]) := by
          show w7.ownsRow 0 22 1 (.slice sa7 (v.length + 1) sc7) (v ++ [x]).length (us (v ++ [x]))
          rw [List.length_append, show us (v ++ [x]) = us v ++ [uv x] by simp [us]]
          exact own7
        have hW := U3.out.i.put hkd HVS.out k37 ho7 hb7'
        have hlv := (k37.heap_some (fun e => (U3.out.i.nb (k + 1) _ _ HVS.out e).2 rfl) U3.out.i.lv)
        have hfx := HNX.out
        unfold fixU at hfx
        rw [if_neg (by omega)] at hfx
        rw [hfx] at hW
        have HNW := hid (U3.out.next hkd hW.1 hW.2 (fun i hi => by
          rcases hi with hi | hi
          · exact .inl hi
          · rcases hb7' i hi with e | e
            · exact .inl (U3.out.i.foot.2.2.1 (k + 1) _ i HVS.out e)
            · exact .inr e))
        have fz := frozen_of hlv
        have hcl := cell_of hlv (k + 1)
        rw [List.getElem?_toArray, HVS.out] at hcl
        clear hW hfx hlv own7 hk7 hb7 hb7' k37 ho7 O4 hrd hx4 HCY
        refine wpT_step (by rw [hops, List.getElem?_toArray]; rfl) (by first | rfl | (rw [hops]; rfl)) ?_
        intro K hK
        go_wp2_with fail
        try (with_reducible refine ⟨fun h => absurd h (by decide), ?_⟩)
        try rw [← hops]
        refine wpT_step (by rw [hops, List.getElem?_toArray]; rfl) (by first | rfl | (rw [hops]; rfl)) ?_
        intro K hK
        go_wp2_with fail
        try (with_reducible refine ⟨fun h => absurd h (by decide), ?_⟩)
        try rw [wpT_nil]
        try clear hops ops
        go_wp2_with fail
        go_roundw
        case rel => exact ⟨k + 1, _, _, _, hkd, by rw [← HP.out, hpe], by go_num, HNW⟩
        case measure => simp [intOf]; omega
    · have hkB : decide (((k + 1 : Nat) : Int) ≤ (d : Int)) = false := by simp; omega
      have hke : k = d := by omega
      subst hke
      go_wp2_with fail
      exact bodyPost_end (v := .tuple #[]) (by simp [results, Tryz.results107, go_sem]) rfl ⟨rfl, HU.out.done⟩
end Go.Proofs.YtcikjcjfcanloaaGreat
namespace Go.Proofs.YtcikjcjfcanloaaGreat
open Go.RowKit
attribute [local irreducible] perm fAdd fMul fPow fSub fNeg fRed hashU
theorem TreeAt.ext {w w' : World} {B d : Nat} {l : List UInt64} {F : Nat → Prop} (h : TreeAt w B d l F) (k : Ext w w') : TreeAt w' B d l F := by
  obtain ⟨LV, vs, ls, h1, h2⟩ := h
  exact ⟨LV, vs, ls, h1.ext k, h2⟩
theorem treeCount_any {w : World} {B d : Nat} {l : List UInt64} {F : Nat → Prop} (h : TreeAt w B d l F) (h1 : 1 ≤ d) :
    Calls Tryz.prog 88 #[.pointer (some ⟨B, 0, none⟩)] w fun e w' => e = .returned (.int .i64 (l.length : Int)) ∧ Ext w w' := by
  obtain ⟨LV, vs, ls, h2, h3⟩ := h
  exact logCount_any h2 h1 (h3 0 (by omega))
theorem treeLeaf_any {w : World} {B d : Nat} {l : List UInt64} {F : Nat → Prop} (h : TreeAt w B d l F) (h1 : 1 ≤ d) {p : Nat} {x : UInt64} (hx : l[p]? = some x) :
    Calls Tryz.prog 114 #[.pointer (some ⟨B, 0, none⟩), .int .i64 (p : Int)] w fun e w' => e = .returned (.tuple #[uv x, .bool true]) ∧ Ext w w' := by
  obtain ⟨LV, vs, ls, h2, h3⟩ := h
  exact logLeaf_any h2 h1 (h3 0 (by omega)) hx
set_option maxRecDepth 100000 in
set_option maxHeartbeats 12800000 in
theorem treeAppend_any {w : World} {B d : Nat} {l : List UInt64} {F : Nat → Prop} (h : TreeAt w B d l F) (h1 : 1 ≤ d) (hd : d ≤ 12) (hn : l.length < 2 ^ d) (x : UInt64) (hx : x < big) :
    Calls Tryz.prog 119 #[.pointer (some ⟨B, 0, none⟩), uv x] w fun e w' => e = .returned (.int .i64 0) ∧ TreeTo w B d F (l ++ [x]) w' := by
  have HC : Hid (∀ v, Ext w v → Calls Tryz.prog 88 #[.pointer (some ⟨B, 0, none⟩)] v fun e w' => e = .returned (.int .i64 (l.length : Int)) ∧ Ext v w') := hid fun v k => treeCount_any (h.ext k) h1
  have h2d : 2 ^ d ≤ 2 ^ 12 := Nat.pow_le_pow_right (by omega) hd
  have hnI : (l.length : Int) ≤ 4096 := by omega
  have HN := hid hn
  obtain ⟨LV, vs, ls, hin, hls⟩ := h
  have HI := hid hin
  have HLS := hid hls
  obtain ⟨c0, c1⟩ := hin.cells
  obtain ⟨va, vc, hvs, c2, hown⟩ := hin.at (Nat.zero_le d) (hls 0 (by omega))
  change vs[0]? = some (.slice va l.length vc) at hvs
  change w.cell? ⟨LV, 0, none⟩ = some (.slice va l.length vc) at c2
  change OwnU w (.slice va l.length vc) l at hown
  have HVS := hid hvs
  have HOW := hid hown
  have hxI : decide ((18446744069414584321 : Int) ≤ (x.toNat : Int)) = false := by have := (lt_big_iff x).1 hx; simp; omega
  have hd1 : decide ((d : Int) < 1) = false := by simp; omega
  have hd0 : 0 ≤ (d : Int) := Int.natCast_nonneg _
  have HD := hid hd
  have HCY : Hid (∀ u, Ext w u → u.cell? ⟨B, 0, none⟩ = some (.int .i64 (d : Int)) ∧ u.cell? ⟨B, 1, none⟩ = some (.slice (some ⟨LV, 0, none⟩) (d + 1) (d + 1)) ∧ u.cell? ⟨LV, 0, none⟩ = some (.slice va l.length vc)) := hid fun u ku => ⟨ku.cell_some c0, ku.cell_some c1, ku.cell_some c2⟩
  have hp2 : (2 : Int) ^ d = ((2 ^ d : Nat) : Int) := by push_cast; rfl
  have HWR : Hid (IntKind.i64.wrap (2 ^ min d 64) = 2 ^ d) := hid (by rw [Nat.min_eq_left (by omega), hp2, IntKind.wrap_i64]; omega)
  obtain ⟨T, hT⟩ : ∃ T : Int, T = 2 ^ d := ⟨_, rfl⟩
  have HT := hid hT
  have hne : ¬ ((l.length : Int) = T) := by rw [hT, hp2]; omega
  have hneB : ((l.length : Int) == T) = false := by rw [beq_eq_false_iff_ne]; exact hne
  have hneD : decide ((l.length : Int) = T) = false := decide_eq_false hne
  clear hT hp2
  clear hin hls hvs hown hx hd
  go_enter Tryz.func119, Tryz.ntmps119
  go_wp2_with fail
  clear c0 c1 c2
  refine wp_region_T (fun u => (u.cell? ⟨B, 0, none⟩ = some (.int .i64 (d : Int)) ∧ u.cell? ⟨B, 1, none⟩ = some (.slice (some ⟨LV, 0, none⟩) (d + 1) (d + 1)) ∧ u.cell? ⟨LV, 0, none⟩ = some (.slice va l.length vc)) ∧ Ext w u) 7 [(0, true), (2, true), (3, true), (4, true), (5, true), (6, true), (1, false), (7, false)] (by kernel_rfl) (by kernel_rfl) (by intro c a d v w h; cases d <;> exact h) ?_
  intro ops hops
  have HSS := keep0 HCY.out
  iterate 5
    refine wpT_take (v := ?_) (by rw [hops, List.getElem?_toArray]; rfl) (by first | rfl | (rw [hops]; rfl)) ?_ HSS ?_
    rotate_left
    · intro v h; go_simp; with_reducible rfl
    simp only [Act.put, List.getElem_toArray, List.getElem_cons_zero, List.getElem_cons_succ, List.setIfInBounds_toArray, List.set_cons_zero, List.set_cons_succ]
  refine wpT_take (v := .int .i64 T) (by rw [hops, List.getElem?_toArray]; rfl) (by first | rfl | (rw [hops]; rfl)) ?_ HSS ?_
  · intro v h; go_simp; (rw [HT.out]; exact HWR.out)
  simp only [Act.put, List.getElem_toArray, List.getElem_cons_zero, List.getElem_cons_succ, List.setIfInBounds_toArray, List.set_cons_zero, List.set_cons_succ]
  refine wpT_step (by rw [hops, List.getElem?_toArray]; rfl) (by first | rfl | (rw [hops]; rfl)) ?_
  intro K hK
  go_wp2_with fail
  refine (HC.out _ HSS.2).mono ?_
  rintro e w1 ⟨rfl, hx⟩
  have HS1 := keepE HCY.out HSS hx
  have X1 := hid HS1.2
  clear hx HSS
  refine hK _ _ ⟨fun _ => HS1, ?_⟩
  clear hK K
  clear HS1
  refine wpT_step (by rw [hops, List.getElem?_toArray]; rfl) (by first | rfl | (rw [hops]; rfl)) ?_
  intro K hK
  go_wp2_with fail
  try (with_reducible refine ⟨fun h => absurd h (by decide), ?_⟩)
  try rw [wpT_nil]
  try clear hops ops
  clear HC
  go_wp2_with fail
  obtain ⟨j0, hj, hjz0, hjz1, hjz2⟩ := info_parts Tryz.infoU
  have HJ := hid (And.intro hj (And.intro hjz0 (And.intro hjz1 hjz2)))
  clear hj hjz0 hjz1 hjz2 hne hneB hneD
  have HC1 : Hid (∀ u, Ext w1 u → (u.cell? ⟨B, 0, none⟩ = some (.int .i64 (d : Int)) ∧ u.cell? ⟨B, 1, none⟩ = some (.slice (some ⟨LV, 0, none⟩) (d + 1) (d + 1)) ∧ u.cell? ⟨LV, 0, none⟩ = some (.slice va l.length vc))) := hid fun u ku => HCY.out u (X1.out.trans ku)
  refine wp_region_T (fun u => (u.cell? ⟨B, 0, none⟩ = some (.int .i64 (d : Int)) ∧ u.cell? ⟨B, 1, none⟩ = some (.slice (some ⟨LV, 0, none⟩) (d + 1) (d + 1)) ∧ u.cell? ⟨LV, 0, none⟩ = some (.slice va l.length vc))) 13 [(0, true), (1, true), (2, true), (3, true), (4, true), (5, true), (6, true), (7, true), (8, true), (9, true), (10, true), (11, false), (12, false), (13, false), (14, false)] (by kernel_rfl) (by kernel_rfl) (by intro c a d v w h; cases d <;> exact h) ?_
  intro ops hops
  have HSS := HC1.out _ (Ext.refl w1).drew
  iterate 11
    refine wpT_take (v := ?_) (by rw [hops, List.getElem?_toArray]; rfl) (by first | rfl | (rw [hops]; rfl)) ?_ HSS ?_
    rotate_left
    · intro v h; go_simp; with_reducible rfl
    simp only [Act.put, List.getElem_toArray, List.getElem_cons_zero, List.getElem_cons_succ, List.setIfInBounds_toArray, List.set_cons_zero, List.set_cons_succ]
  clear HSS
  refine wpT_step (by rw [hops, List.getElem?_toArray]; rfl) (by first | rfl | (rw [hops]; rfl)) ?_
  intro K hK
  go_wp2_with fail
  refine ⟨fun _ => HC1.out _ ((Ext.refl w1).alloc _).drew, ?_⟩
  try rw [← hops]
  refine wpT_step (by rw [hops, List.getElem?_toArray]; rfl) (by first | rfl | (rw [hops]; rfl)) ?_
  intro K hK
  have hx4 : Ext w1 (w1.alloc (.cells #[uv x] 22)).drew := ((Ext.refl w1).alloc _).drew
  have HO1 := ownsRow_ext HOW.out X1.out
  have O4 := ownsRow_ext HO1 hx4
  have hrd : RdC' (w1.alloc (.cells #[uv x] 22)).drew (.slice (some ⟨w1.heap.size, 0, none⟩) 1 1) 1 [uv x] := (RdC.new1 w1 _ _).weak.ext (Ext.refl _).drew
  refine wp_app' _ _ 57 rfl 22 j0 (.int .u64 0) 1 8 Tryz.underlying57 HJ.out.1 HJ.out.2.1 HJ.out.2.2.1 HJ.out.2.2.2 rfl (by decide) (.slice va l.length vc) l.length (us l) rfl O4 (.slice (some ⟨w1.heap.size, 0, none⟩) 1 1) 1 [uv x] rfl hrd (by simp) (us_one [x]) (by unfold maxLen; omega) (by omega) ?_
  intro v7 w7 own7 hk7 hb7
  obtain ⟨sa7, sc7, rfl, -⟩ := ownsRow_rd own7
  have I1 := HI.out.ext X1.out
  have k37 : Kp (fun i => blk (.slice va l.length vc) = some i) w1 w7 := (Kp.of_ext hx4).trans (hk7.mono fun _ _ e => e.symm)
  have hsz4 := hx4.size
  have hsz1 := X1.out.size
  have hb7' : ∀ i, blk (.slice sa7 (l.length + 1) sc7) = some i → blk (.slice va l.length vc) = some i ∨ w1.heap.size ≤ i := fun i hi => by
    rcases hb7 with e | e
    · exact .inl (e ▸ hi)
    · rw [e] at hi; exact .inr (by have := Option.some.inj hi; omega)
  have ho7 : OwnU w7 (.slice sa7 (l.length + 1) sc7) (l ++ [x]) := by
    show w7.ownsRow 0 22 1 (.slice sa7 (l.length + 1) sc7) (l ++ [x]).length (us (l ++ [x]))
    rw [List.length_append, show us (l ++ [x]) = us l ++ [uv x] by simp [us]]
    exact own7
  have hW := I1.put (Nat.zero_le d) HVS.out k37 ho7 hb7'
  have hlv := (k37.heap_some (fun e => (I1.nb 0 _ _ HVS.out e).2 rfl) I1.lv)
  have hUP : UpS w (w7.setCell ⟨LV, 0, none⟩ (.slice sa7 (l.length + 1) sc7)) B LV d F (l ++ [x]) 1 (vs.set 0 (.slice sa7 (l.length + 1) sc7)) (ls.set 0 (l ++ [x])) (fun i => F i ∨ blk (.slice sa7 (l.length + 1) sc7) = some i) := by
    have hll := I1.ll
    refine ⟨hW.1, (Kp.of_ext X1.out).trans hW.2, fun i hi => ?_, fun k hk => ?_, fun k h1k h2k => ?_⟩
    · rcases hi with hi | hi
      · exact .inl hi
      · rcases hb7' i hi with e | e
        · exact .inl (I1.foot.2.2.1 0 _ i HVS.out e)
        · exact .inr (by omega)
    · obtain rfl : k = 0 := by omega
      rw [List.getElem?_set_self (by omega)]
      rfl
    · rw [List.getElem?_set_ne (by omega), HLS.out k h2k]
      have := (near_append l x k).1
      rw [if_neg (by omega)] at this
      exact ⟨_, rfl, this⟩
  have fz := frozen_of hlv
  have hcl := cell_of hlv 0
  rw [List.getElem?_toArray, HVS.out] at hcl
  refine hK _ _ ⟨fun _ => ⟨k37.cell_some (fun e => (I1.nb 0 _ _ HVS.out e).1 rfl) (HC1.out _ (Ext.refl w1)).1, k37.cell_some (fun e => (I1.nb 0 _ _ HVS.out e).1 rfl) (HC1.out _ (Ext.refl w1)).2.1, k37.cell_some (fun e => (I1.nb 0 _ _ HVS.out e).2 rfl) (HC1.out _ (Ext.refl w1)).2.2⟩, ?_⟩
  clear hK K
  have UPD := hid (logUpdate_any hUP h1 HD.out (by rw [List.length_append, List.length_singleton]; omega))
  clear hW hlv own7 hk7 hb7 hb7' k37 ho7 O4 hrd hx4 hUP HO1 I1 HC1
  refine wpT_step (by rw [hops, List.getElem?_toArray]; rfl) (by first | rfl | (rw [hops]; rfl)) ?_
  intro K hK
  go_wp2_with fail
  try (with_reducible refine ⟨fun h => absurd h (by decide), ?_⟩)
  try rw [← hops]
  refine wpT_step (by rw [hops, List.getElem?_toArray]; rfl) (by first | rfl | (rw [hops]; rfl)) ?_
  intro K hK
  go_wp2_with fail
  try (with_reducible refine ⟨fun h => absurd h (by decide), ?_⟩)
  try rw [wpT_nil]
  try clear hops ops
  go_wp2_with fail
  refine (UPD.out).mono ?_
  rintro e w8 ⟨rfl, hto⟩
  have HTO := hid hto
  clear hto UPD
  go_wp2_with fail
  go_ret
  exact ⟨rfl, HTO.out⟩
end Go.Proofs.YtcikjcjfcanloaaGreat
namespace Go.Proofs.YtcikjcjfcanloaaGreat
open Go.RowKit
attribute [local irreducible] perm fAdd fMul fPow fSub fNeg fRed hashU
theorem own_takeU {w : World} {a : Option Addr} {n c : Nat} {l : List UInt64} (h : OwnU w (.slice a n c) l) {i : Nat} (hi : i ≤ l.length) : OwnU w (.slice a i c) (l.take i) := by
  have hl : (l.take i).length = i := by rw [List.length_take]; omega
  refine ⟨by show (us (l.take i)).length = (l.take i).length * 1; simp [us], ?_⟩
  rcases h.2 with ⟨h1, h2⟩ | ⟨g, cap, cur, h1, h2, h3, h4, h5, h6, h7⟩
  · injection h1 with e1 e2 e3
    subst e1 e3
    have : i = 0 := by omega
    subst this
    exact .inl ⟨rfl, by rw [hl]⟩
  · injection h1 with e1 e2 e3
    subst e1 e3
    refine .inr ⟨g, c, cur, by rw [hl], h2, h3, by rw [hl]; omega, h5, h6, ?_⟩
    rw [Nat.mul_one] at h7 ⊢
    rw [hl, show us (l.take i) = (us l).take i from by unfold us; rw [List.map_take], ← h7, List.take_take, Nat.min_eq_left hi]
theorem blk_len (a : Option Addr) (n m c c' : Nat) : blk (.slice a n c) = blk (.slice a m c') := by cases a <;> rfl
structure CutS (w u : World) (B LV d : Nat) (F : Nat → Prop) (l : List UInt64) (c k : Nat) (vs : List Value) (ls : List (List UInt64)) : Prop where
  i : LogIn u B LV d vs ls F
  kp : Kp F w u
  lo : ∀ j, j < k → ls[j]? = some ((lvl j l).take (sizeU c j))
  hi : ∀ j, k ≤ j → j ≤ d → ls[j]? = some (lvl j l)
theorem CutS.done {w u : World} {B LV d : Nat} {F : Nat → Prop} {l : List UInt64} {c : Nat} {vs : List Value} {ls : List (List UInt64)} (h : CutS w u B LV d F l c (d + 1) vs ls) (hc : c ≤ l.length) : UpS w u B LV d F (l.take c) 1 vs ls F := by
  refine ⟨h.i, h.kp, fun i hi => .inl hi, fun k hk => ?_, fun k h1 h2 => ⟨_, h.lo k (by omega), (near_take l hc k).1⟩⟩
  obtain rfl : k = 0 := by omega
  exact h.lo 0 (by omega)
theorem CutS.next {w u : World} {B LV d : Nat} {F : Nat → Prop} {l : List UInt64} {c k : Nat} {vs : List Value} {ls : List (List UInt64)} {a : Option Addr} {n cc : Nat} (h : CutS w u B LV d F l c k vs ls) (hk : k ≤ d) (hc : c ≤ l.length) (hv : vs[k]? = some (.slice a n cc)) :
    CutS w (u.drew.setCell ⟨LV, k, none⟩ (.slice a (sizeU c k) cc)) B LV d F l c (k + 1) (vs.set k (.slice a (sizeU c k) cc)) (ls.set k ((lvl k l).take (sizeU c k))) := by
  have hkl : k < ls.length := by rw [h.i.ll]; omega
  have hd := h.i.ext (Ext.refl u).drew
  have ho := own_takeU (hd.own k _ _ hv (h.hi k (Nat.le_refl k) hk)) (i := sizeU c k) (by rw [lvl_size]; exact sizeU_le hc k)
  have hp := hd.put hk hv (Kp.refl _ _) ho (fun i hi => .inl (by rw [← hi]; exact blk_len _ _ _ _ _))
  refine ⟨?_, (h.kp.drew).trans hp.2, fun j hj => ?_, fun j h1 h2 => ?_⟩
  · refine { hp.1 with foot := ⟨hd.foot.1, hd.foot.2.1, fun j v i hv' hi => ?_, fun i hi => ?_⟩ }
    · rcases hp.1.foot.2.2.1 j v i hv' hi with e | e
      · exact e
      · exact hd.foot.2.2.1 k _ i hv (by rw [← e]; exact blk_len _ _ _ _ _)
    · exact hp.1.foot.2.2.2 i (.inl hi)
  · by_cases hjk : j = k
    · subst hjk
      rw [List.getElem?_set_self hkl]
    · rw [List.getElem?_set_ne (fun e => hjk e.symm)]
      exact h.lo j (by omega)
  · rw [List.getElem?_set_ne (by omega)]
    exact h.hi j (by omega) h2
set_option maxRecDepth 100000 in
set_option maxHeartbeats 12800000 in
theorem treeTruncate_any {w : World} {B d : Nat} {l : List UInt64} {F : Nat → Prop} (h : TreeAt w B d l F) (h1 : 1 ≤ d) (hd : d ≤ 12) (hn : l.length ≤ 100000) (c : Nat) (hc : c ≤ l.length) :
    Calls Tryz.prog 71 #[.pointer (some ⟨B, 0, none⟩), .int .i64 (c : Int)] w fun e w' => e = .returned (.int .i64 0) ∧ TreeTo w B d F (l.take c) w' := by
  have HC : Hid (∀ v, Ext w v → Calls Tryz.prog 88 #[.pointer (some ⟨B, 0, none⟩)] v fun e w' => e = .returned (.int .i64 (l.length : Int)) ∧ Ext v w') := hid fun v k => treeCount_any (h.ext k) h1
  obtain ⟨LV, vs, ls, hin, hls⟩ := h
  have HH := hid (And.intro hin hls)
  have hc0 : 0 ≤ (c : Int) := Int.natCast_nonneg _
  have hcB : decide ((c : Int) < 0) = false := by simp
  have hcD : decide ((l.length : Int) < (c : Int)) = false := by simp; omega
  have hcD2 : decide (l.length < c) = false := by simp; omega
  have hcD3 : ¬ l.length < c := by omega
  have HCC := hid hc
  have HD := hid hd
  have HN := hid hn
  have hd0 : 0 ≤ (d : Int) := Int.natCast_nonneg _
  have hdI : (d : Int) ≤ 12 := by omega
  clear hin hls hc hd hn
  go_enter Tryz.func71, Tryz.ntmps71
  go_wp2_with fail
  refine (HC.out _ (Ext.refl w)).mono ?_
  rintro e w1 ⟨rfl, hx⟩
  have X1 := hid hx
  have S1 : Hid (CutS w w1 B LV d F l c 0 vs ls) := hid ⟨HH.out.1.ext hx, .of_ext hx, fun j hj => by omega, fun j _ hj => HH.out.2 j hj⟩
  clear hx HC
  obtain ⟨b0, b1⟩ := S1.out.i.cells
  go_wp2_with fail
  clear b0 b1
  go_loopw [5, 21] (fun zv kv wr => ∃ (k : Nat) (vs : List Value) (ls : List (List UInt64)), k ≤ d + 1 ∧ zv = .int .i64 ((sizeU c k : Nat) : Int) ∧ kv = .int .i64 (k : Int) ∧ Hid (CutS w wr B LV d F l c k vs ls)) (fun _ kv _ => d + 1 - (intOf kv).toNat)
  case atStart => exact ⟨0, vs, ls, by omega, rfl, rfl, S1⟩
  case round =>
    clear S1 X1 HH
    obtain ⟨k, vs, ls, hk, rfl, rfl, HT⟩ := hrel
    have hk0 : 0 ≤ (k : Int) := Int.natCast_nonneg _
    obtain ⟨b0, b1⟩ := HT.out.i.cells
    by_cases hkd : k ≤ d
    · have hkB : decide ((k : Int) < ((d + 1 : Nat) : Int)) = true := by simp; omega
      have hkI : (k : Int) < ((d + 1 : Nat) : Int) := by omega
      have hkI2 : (k : Int) < (d : Int) + 1 := by omega
      have hkN : k < d + 1 := by omega
      have hlk := HT.out.hi k (Nat.le_refl k) hkd
      obtain ⟨va, vc, hvs, c2, hown⟩ := HT.out.i.at hkd hlk
      have hzl : sizeU c k ≤ (lvl k l).length := by rw [lvl_size]; exact sizeU_le HCC.out k
      have hle := lvl_le l k
      have hcc : (lvl k l).length ≤ vc := by
        obtain ⟨a', c', e, h2, -⟩ := ownsRow_rd hown
        injection e with e1 e2 e3
        omega
      have HNX := hid (HT.out.next hkd HCC.out hvs)
      have hz : sizeU c (k + 1) = (sizeU c k + 1) / 2 := rfl
      have hlv := HT.out.i.lv
      have HVS := hid hvs
      clear hvs hlk
      have hzs := Nat.le_trans hzl hle
      obtain ⟨z, hze⟩ : ∃ z, z = sizeU c k := ⟨_, rfl⟩
      have hnz : va = none → vc = 0 := fun e => by
        obtain ⟨a', c', e2, -, -, h5, -⟩ := ownsRow_rd hown
        injection e2 with e3 e4 e5
        subst e3 e5
        exact h5 e
      rw [← hze] at HNX hzl hz hzs ⊢
      generalize (lvl k l).length = m at *
      have hcI : (z : Int) ≤ (vc : Int) := by omega
      have hcN : z ≤ vc := by omega
      have hz0 : 0 ≤ (z : Int) := Int.natCast_nonneg _
      have hzI : (z : Int) ≤ 100000 := by have := HN.out; omega
      have hst : ((z : Int) + 1).tdiv 2 = ((sizeU c (k + 1) : Nat) : Int) := by rw [Int.tdiv_eq_ediv_of_nonneg (by omega)]; omega
      have HST := hid hst
      clear hst hz hze hle hown
      have HCY : Hid (∀ u, Ext wr u → u.cell? ⟨B, 1, none⟩ = some (.slice (some ⟨LV, 0, none⟩) (d + 1) (d + 1)) ∧ u.cell? ⟨LV, k, none⟩ = some (.slice va m vc)) := hid fun u ku => ⟨ku.cell_some b1, ku.cell_some c2⟩
      have hlvd : wr.drew.heap[LV]? = some (.cells vs.toArray 57 (0, 0)) := (Ext.refl wr).drew.heap_some hlv
      have fz := frozen_of hlvd
      clear b0 b1 c2 hlv hlvd
      go_wp2_with fail
      cases va with
      | none =>
        have hvz := hnz rfl
        subst hvz
        obtain rfl : z = 0 := by omega
        obtain rfl : m = 0 := by omega
        refine wp_region_T (fun u => u.cell? ⟨B, 1, none⟩ = some (.slice (some ⟨LV, 0, none⟩) (d + 1) (d + 1)) ∧ u.cell? ⟨LV, k, none⟩ = some (.slice none 0 0)) 14 [(0, true), (1, true), (2, true), (3, true), (4, true), (5, true), (6, true), (7, true), (8, true), (9, true), (10, true), (11, true), (12, true), (13, false), (14, false), (15, false)] (by kernel_rfl) (by kernel_rfl) (by intro c a d v w h; cases d <;> exact h) ?_
        intro ops hops
        have HSS := HCY.out _ (Ext.refl wr).drew
        iterate 13
          refine wpT_take (v := ?_) (by rw [hops, List.getElem?_toArray]; rfl) (by first | rfl | (rw [hops]; rfl)) ?_ HSS ?_
          rotate_left
          · intro v h; go_simp; with_reducible rfl
          simp only [Act.put, List.getElem_toArray, List.getElem_cons_zero, List.getElem_cons_succ, List.setIfInBounds_toArray, List.set_cons_zero, List.set_cons_succ]
        have HS2 := hid HSS
        clear HSS
        refine wpT_step (by rw [hops, List.getElem?_toArray]; rfl) (by first | rfl | (rw [hops]; rfl)) ?_
        intro K hK
        go_wp2_with fail
        refine ⟨by first | exact fun _ => HS2.out | exact fun _ => HCY.out _ (Ext.refl wr) | exact HCY.out _ (Ext.refl wr) | exact HS2.out, ?_⟩
        try rw [← hops]
        have hcl := HS2.out.2
        clear HS2
        refine wpT_step (by rw [hops, List.getElem?_toArray]; rfl) (by first | rfl | (rw [hops]; rfl)) ?_
        intro K hK
        go_wp2_with fail
        try (with_reducible refine ⟨fun h => absurd h (by decide), ?_⟩)
        try rw [← hops]
        refine wpT_step (by rw [hops, List.getElem?_toArray]; rfl) (by first | rfl | (rw [hops]; rfl)) ?_
        intro K hK
        go_wp2_with fail
        try (with_reducible refine ⟨fun h => absurd h (by decide), ?_⟩)
        try rw [wpT_nil]
        try clear hops ops
        go_wp2_with fail
        go_roundw
        case rel => exact ⟨k + 1, _, _, by omega, by rw [← HST.out]; go_num, by go_num, HNX⟩
        case measure => simp [intOf]; omega
      | some ad =>
        obtain ⟨g, rfl⟩ : ∃ g, ad = ⟨g, 0, none⟩ := by
          rcases (HT.out.i.own k _ _ HVS.out (HT.out.hi k (Nat.le_refl k) hkd)).2 with ⟨e, -⟩ | ⟨g, cap, cur, e, -⟩
          · cases e
          · injection e with e1
            exact ⟨g, Option.some.inj e1⟩
        refine wp_region_T (fun u => u.cell? ⟨B, 1, none⟩ = some (.slice (some ⟨LV, 0, none⟩) (d + 1) (d + 1)) ∧ u.cell? ⟨LV, k, none⟩ = some (.slice (some ⟨g, 0, none⟩) m vc)) 14 [(0, true), (1, true), (2, true), (3, true), (4, true), (5, true), (6, true), (7, true), (8, true), (9, true), (10, true), (11, true), (12, true), (13, false), (14, false), (15, false)] (by kernel_rfl) (by kernel_rfl) (by intro c a d v w h; cases d <;> exact h) ?_
        intro ops hops
        have HSS := HCY.out _ (Ext.refl wr).drew
        iterate 13
          refine wpT_take (v := ?_) (by rw [hops, List.getElem?_toArray]; rfl) (by first | rfl | (rw [hops]; rfl)) ?_ HSS ?_
          rotate_left
          · intro v h; go_simp; with_reducible rfl
          simp only [Act.put, List.getElem_toArray, List.getElem_cons_zero, List.getElem_cons_succ, List.setIfInBounds_toArray, List.set_cons_zero, List.set_cons_succ]
        have HS2 := hid HSS
        clear HSS
        refine wpT_step (by rw [hops, List.getElem?_toArray]; rfl) (by first | rfl | (rw [hops]; rfl)) ?_
        intro K hK
        go_wp2_with fail
        refine ⟨by first | exact fun _ => HS2.out | exact fun _ => HCY.out _ (Ext.refl wr) | exact HCY.out _ (Ext.refl wr) | exact HS2.out, ?_⟩
        try rw [← hops]
        have hcl := HS2.out.2
        clear HS2
        refine wpT_step (by rw [hops, List.getElem?_toArray]; rfl) (by first | rfl | (rw [hops]; rfl)) ?_
        intro K hK
        go_wp2_with fail
        try (with_reducible refine ⟨fun h => absurd h (by decide), ?_⟩)
        try rw [← hops]
        refine wpT_step (by rw [hops, List.getElem?_toArray]; rfl) (by first | rfl | (rw [hops]; rfl)) ?_
        intro K hK
        go_wp2_with fail
        try (with_reducible refine ⟨fun h => absurd h (by decide), ?_⟩)
        try rw [wpT_nil]
        try clear hops ops
        go_wp2_with fail
        go_roundw
        case rel => exact ⟨k + 1, _, _, by omega, by rw [← HST.out]; go_num, by go_num, HNX⟩
        case measure => simp [intOf]; omega
    · have hkB : decide ((k : Int) < ((d + 1 : Nat) : Int)) = false := by simp; omega
      obtain rfl : k = d + 1 := by omega
      have UPD := hid (logUpdate_any (HT.out.done HCC.out) h1 HD.out (by have := HN.out; rw [List.length_take]; omega))
      clear b0 b1
      go_wp2_with fail
      refine (UPD.out).mono ?_
      rintro e w8 ⟨rfl, hto⟩
      have HTO := hid hto
      clear hto UPD
      go_wp2_with fail
      go_ret
      exact ⟨rfl, HTO.out⟩
end Go.Proofs.YtcikjcjfcanloaaGreat
namespace Go.Proofs.YtcikjcjfcanloaaGreat
open Go.RowKit
attribute [local irreducible] perm fAdd fMul fPow fSub fNeg fRed hashU
theorem Tryz.infoUs : (Tryz.prog.info? 57).map (fun i => (i.zero, i.size, i.bytes)) = some (some (.slice none 0 0), 1, 24) := by kernel_rfl
theorem log_new {w : World} {B LV d : Nat} (h1 : w.heap[B]? = some (.cells #[.int .i64 (d : Int), .slice (some ⟨LV, 0, none⟩) (d + 1) (d + 1)] 164 (0, 0)))
    (h2 : w.heap[LV]? = some (.cells (List.replicate (d + 1) (Value.slice none 0 0)).toArray 57 (0, 0))) (hne : B ≠ LV) : TreeAt w B d [] (fun i => i = B ∨ i = LV) := by
  have hr : ∀ (k : Nat) (v : Value), (List.replicate (d + 1) (Value.slice none 0 0))[k]? = some v → v = .slice none 0 0 := fun k v h => by
    have := List.mem_of_getElem? h
    exact List.eq_of_mem_replicate this
  have hl : ∀ (k : Nat) (v : List UInt64), (List.replicate (d + 1) ([] : List UInt64))[k]? = some v → v = [] := fun k v h => List.eq_of_mem_replicate (List.mem_of_getElem? h)
  refine ⟨LV, List.replicate (d + 1) (.slice none 0 0), List.replicate (d + 1) [], ⟨h1, h2, by simp, by simp, fun k v l hv hl' => ?_, hne, fun k v i hv hi => ?_, fun j k v v' i _ hv _ hi => ?_, .inl rfl, .inr rfl, fun k v i hv hi => ?_, fun i hi => ?_⟩, fun k hk => ?_⟩
  · rw [hr k v hv, hl k l hl']
    exact World.ownsRow_nil _ _ _ _
  · rw [hr k v hv] at hi; cases hi
  · rw [hr j v hv] at hi; cases hi
  · rw [hr k v hv] at hi; cases hi
  · rcases hi with rfl | rfl
    · exact heap_lt h1
    · exact heap_lt h2
  · rw [lvl_nil, List.getElem?_replicate, if_pos (by omega)]
set_option maxRecDepth 100000 in
set_option maxHeartbeats 3200000 in
theorem treeNew_any (d : Nat) (h1 : 1 ≤ d) (hd : d ≤ 12) (w : World) : Calls Tryz.prog 68 #[.int .i64 (d : Int)] w fun e w' => ∃ B F, e = .returned (.tuple #[.pointer (some ⟨B, 0, none⟩), .int .i64 0]) ∧ Ext w w' ∧ TreeAt w' B d [] F ∧ ∀ i, F i → w.heap.size ≤ i := by
  have hd0 : 0 ≤ (d : Int) := Int.natCast_nonneg _
  have hd1 : decide ((d : Int) < 1) = false := by simp; omega
  have hd2 : decide (12 < (d : Int)) = false := by simp; omega
  have hdI : (d : Int) ≤ 12 := by omega
  obtain ⟨j0, hj, hjz0, hjz1, hjz2⟩ := info_parts Tryz.infoUs
  have hm : madeCells #[Value.slice none 0 0] (d + 1) = (List.replicate (d + 1) (Value.slice none 0 0)).toArray := by
    apply Array.toList_inj.1
    rw [toList_madeCells_one]
  have HM := hid hm
  clear hm
  go_enter Tryz.func68, Tryz.ntmps68
  go_wp2_with (at_make; refine wpList_make_cap w rfl _ _ 162 rfl 57 j0 (.slice none 0 0) 24 Tryz.underlying162 hj hjz0 hjz1 hjz2 .i64 .i64 _ _ (d + 1) (d + 1) rfl rfl (by omega) (by omega) (by omega) (by omega) (by unfold maxLen; omega) ?_)
  go_ret2
  refine ⟨w.heap.size + 1, fun i => i = w.heap.size + 1 ∨ i = w.heap.size, rfl, ((Ext.refl w).alloc _).alloc _, log_new (LV := w.heap.size) ?_ ?_ (by omega), fun i hi => by omega⟩
  · have := heap_new (w.alloc (.cells (madeCells #[Value.slice none 0 0] (d + 1)) 57)) (.cells #[.int .i64 (d : Int), .slice (some ⟨w.heap.size, 0, none⟩) (d + 1) (d + 1)] 164)
    simpa using this
  · rw [← HM.out]
    exact heap_alloc_some (heap_new _ _)
end Go.Proofs.YtcikjcjfcanloaaGreat
namespace Go.Proofs.YtcikjcjfcanloaaGreat
open Go.RowKit
attribute [local irreducible] perm fAdd fMul fPow fSub fNeg fRed hashU
/-- C holds as long as only blocks of A turn. -/
def StaW (A : Nat → Prop) (w : World) (C : World → Prop) : Prop := ∀ u, Kp A w u → C u
theorem StaW.now {A : Nat → Prop} {w : World} {C : World → Prop} (h : StaW A w C) : C w := h w (Kp.refl _ _)
theorem StaW.to {A B : Nat → Prop} {w w' : World} {C : World → Prop} (h : StaW A w C) (k : Kp A w w') (hB : ∀ i, B i → A i ∨ w.heap.size ≤ i) : StaW B w' C := fun u ku => h u (by
  refine ⟨ku.os.trans k.os, ku.tape.trans k.tape, ku.output.trans k.output, Nat.le_trans k.size ku.size, fun j hj hF => ?_⟩
  have := k.size
  rw [ku.block j (by omega) (fun e => by
    rcases hB j e with e | e
    · exact hF e
    · omega)]
  exact k.block j hj hF)
structure Rl where
  mode : Int
  depth : Int
  pb : Int
  pu : Int
  pq : Int
  reward : UInt64
  window : Int
  finality : Int
  work : UInt64
structure ScT where
  leaves : Nat
  notes : Nat
  sp : List Nat
def owCells (x : OwT) : List Value := [uv x.note.value, uv x.note.owner, uv x.note.rho, uv x.note.blind, .int .i64 (x.number : Int), .int .i64 (x.pos : Int), .int .i64 (x.height : Int), .int .i64 (x.spent : Int)]
theorem owCells_len (x : OwT) : (owCells x).length = 8 := rfl
def scCells (x : ScT × Value) : List Value := [.int .i64 (x.1.leaves : Int), .int .i64 (x.1.notes : Int), x.2]
theorem scCells_len (x : ScT × Value) : (scCells x).length = 3 := rfl
def is (l : List Nat) : List Value := l.map fun (i : Nat) => Value.int .i64 (i : Int)
abbrev RdI' (w : World) (v : Value) (l : List Nat) : Prop := RdC' w v l.length (is l)
abbrev OwnI (w : World) (v : Value) (l : List Nat) : Prop := w.ownsRow 0 3 1 v l.length (is l)
abbrev walCells (ob : Nat) (r : Rl) (seed key : UInt64) (LB : Nat) (nv pv : Value) : Array Value :=
  #[.pointer (some ⟨ob, 0, none⟩), .int .i64 r.mode, .int .i64 r.depth, .int .i64 r.pb, .int .i64 r.pu, .int .i64 r.pq, uv r.reward, .int .i64 r.window, .int .i64 r.finality, uv r.work, uv seed, uv key, .pointer (some ⟨LB, 0, none⟩), nv, pv]
/-- The blocks of a wallet that may turn. -/
def WF (W : Nat) (FT : Nat → Prop) (nv pv : Value) (i : Nat) : Prop := i = W ∨ FT i ∨ blk nv = some i ∨ blk pv = some i
structure WalIn (w : World) (W d : Nat) (r : Rl) (seed : UInt64) (L : List UInt64) (ns : List OwT) (ps : List (ScT × Value)) (ob LB : Nat) (nv pv : Value) (FO FT A : Nat → Prop) : Prop where
  self : w.heap[W]? = some (.cells (walCells ob r seed (kSpend seed) LB nv pv) 115 (0, 0))
  dep : r.depth = (d : Int) ∧ 1 ≤ d ∧ d ≤ 12
  sub : ∀ i, WF W FT nv pv i → A i
  orc : StaW A w fun u => OrcAt u ob realM FO
  tree : TreeAt w LB d L FT
  notes : w.ownsRow 0 39 8 nv ns.length (ns.flatMap owCells)
  past : w.ownsRow 0 128 3 pv ps.length (ps.flatMap scCells)
  sps : ∀ x ∈ ps, StaW A w fun u => RdI' u x.2 x.1.sp
  wt : ¬ FT W
  wn : blk nv ≠ some W
  wp : blk pv ≠ some W
  tn : ∀ i, blk nv = some i → ¬ FT i
  tp : ∀ i, blk pv = some i → ¬ FT i
  np : ∀ i, blk nv = some i → blk pv ≠ some i
  tl : ∀ i, FT i → i < w.heap.size
theorem WalIn.ext {w w' : World} {W d : Nat} {r : Rl} {seed : UInt64} {L : List UInt64} {ns : List OwT} {ps : List (ScT × Value)} {ob LB : Nat} {nv pv : Value} {FO FT A : Nat → Prop} (h : WalIn w W d r seed L ns ps ob LB nv pv FO FT A) (k : Ext w w') : WalIn w' W d r seed L ns ps ob LB nv pv FO FT A :=
  { h with
    self := k.heap_some h.self
    orc := h.orc.to (.of_ext k) fun _ e => .inl e
    tree := h.tree.ext k
    notes := ownsRow_ext h.notes k
    past := ownsRow_ext h.past k
    sps := fun x hx => (h.sps x hx).to (.of_ext k) fun _ e => .inl e
    tl := fun i hi => Nat.lt_of_lt_of_le (h.tl i hi) k.size }
theorem WalIn.cells {w : World} {W d : Nat} {r : Rl} {seed : UInt64} {L : List UInt64} {ns : List OwT} {ps : List (ScT × Value)} {ob LB : Nat} {nv pv : Value} {FO FT A : Nat → Prop} (h : WalIn w W d r seed L ns ps ob LB nv pv FO FT A) :
    w.cell? ⟨W, 0, none⟩ = some (.pointer (some ⟨ob, 0, none⟩)) ∧ w.cell? ⟨W, 2, none⟩ = some (.int .i64 (d : Int)) ∧ w.cell? ⟨W, 10, none⟩ = some (uv seed) ∧ w.cell? ⟨W, 11, none⟩ = some (uv (kSpend seed)) ∧ w.cell? ⟨W, 12, none⟩ = some (.pointer (some ⟨LB, 0, none⟩)) ∧ w.cell? ⟨W, 13, none⟩ = some nv ∧ w.cell? ⟨W, 14, none⟩ = some pv :=
  ⟨cell_of h.self 0, by rw [← h.dep.1]; exact cell_of h.self 2, cell_of h.self 10, cell_of h.self 11, cell_of h.self 12, cell_of h.self 13, cell_of h.self 14⟩
def outsN (l : List TxT) : Nat := (l.map fun t => t.outs.length).sum
/-- What fits answers. -/
def fitsW (d : Nat) (n L : Nat) (b : BlkT) : Int :=
  if b.height = (n : Int) + 1 then (if b.txs.all fun t => decide (txV t = 0) then (if 2 ^ d < L + outsN b.txs then 16 else 0) else 1) else 18
end Go.Proofs.YtcikjcjfcanloaaGreat
namespace Go.Proofs.YtcikjcjfcanloaaGreat
open Go.RowKit
attribute [local irreducible] perm fAdd fMul fPow fSub fNeg fRed hashU
theorem outsN_snoc {l : List TxT} {i : Nat} {t : TxT} (h : l[i]? = some t) : outsN (l.take (i + 1)) = outsN (l.take i) + t.outs.length := by
  unfold outsN
  rw [List.take_add_one, h]; simp
theorem outsN_le {l : List TxT} (h : ∀ t ∈ l, TSm t) : outsN l ≤ 1000 * l.length := by
  induction l with
  | nil => simp [outsN]
  | cons t r ih =>
    have h1 := ih (fun t ht => h t (by simp [ht]))
    have h2 := (h t (by simp)).o
    unfold outsN at h1 ⊢
    simp only [List.map_cons, List.sum_cons, List.length_cons]
    omega
theorem fitsW_18 {d n L : Nat} {b : BlkT} (h : ¬ b.height = (n : Int) + 1) : fitsW d n L b = 18 := by unfold fitsW; rw [if_neg h]
theorem fitsW_1 {d n L : Nat} {b : BlkT} (h : b.height = (n : Int) + 1) {i : Nat} {t : TxT} (ht : b.txs[i]? = some t) (hv : ¬ txV t = 0) : fitsW d n L b = 1 := by
  unfold fitsW
  rw [if_pos h, if_neg]
  intro ha
  have := List.all_eq_true.1 ha t (List.mem_of_getElem? ht)
  exact hv (by simpa using this)
theorem fitsW_end {d n L : Nat} {b : BlkT} (h : b.height = (n : Int) + 1) (hv : ∀ (j : Nat) (t : TxT), j < b.txs.length → b.txs[j]? = some t → txV t = 0) : fitsW d n L b = if 2 ^ d < L + outsN b.txs then 16 else 0 := by
  unfold fitsW
  rw [if_pos h, if_pos]
  rw [List.all_eq_true]
  intro t ht
  obtain ⟨j, hj, rfl⟩ := List.getElem_of_mem ht
  simpa using hv j _ hj (List.getElem?_eq_getElem hj)
set_option maxRecDepth 100000 in
set_option maxHeartbeats 12800000 in
theorem walFits_any {w : World} {W d : Nat} {r : Rl} {seed : UInt64} {L : List UInt64} {ns : List OwT} {ps : List (ScT × Value)} {ob LB : Nat} {nv pv : Value} {FO FT A : Nat → Prop} (h : WalIn w W d r seed L ns ps ob LB nv pv FO FT A)
    (hL : L.length ≤ 100000) (hp : ps.length ≤ 1000) (b : BlkT) (tv : Value) (hb : RdTs w tv b.txs) (hn : b.txs.length ≤ 100) (hs : ∀ t ∈ b.txs, TSm t) :
    Calls Tryz.prog 87 #[.pointer (some ⟨W, 0, none⟩), blkVal b tv] w fun e w' => e = .returned (.int .i64 (fitsW d ps.length L.length b)) ∧ Ext w w' := by
  obtain ⟨ta, tc, rfl, -⟩ := hb.shape
  obtain ⟨pa, pc, rfl, -⟩ := ownsRow_rd h.past
  have HB := hid hb
  have HS := hid hs
  have HH := hid h
  have hd := h.dep
  have hnI : (b.txs.length : Int) ≤ 100 := by omega
  have hpI : (ps.length : Int) ≤ 1000 := by omega
  have hLI : (L.length : Int) ≤ 100000 := by omega
  have HON := hid (outsN_le hs)
  have hp2 : (2 : Int) ^ d = ((2 ^ d : Nat) : Int) := by push_cast; rfl
  have h2d : 2 ^ d ≤ 2 ^ 12 := Nat.pow_le_pow_right (by omega) hd.2.2
  obtain ⟨T, hT⟩ : ∃ T : Nat, T = 2 ^ d := ⟨_, rfl⟩
  have hWR : IntKind.i64.wrap (2 ^ min d 64) = (T : Int) := by rw [hT, Nat.min_eq_left (by omega), hp2, IntKind.wrap_i64]; omega
  have HWR := hid hWR
  have HT := hid hT
  have HCT : Hid (∀ v, Ext w v → Calls Tryz.prog 88 #[.pointer (some ⟨LB, 0, none⟩)] v fun e w' => e = .returned (.int .i64 (L.length : Int)) ∧ Ext v w') := hid fun v k => treeCount_any (h.tree.ext k) hd.2.1
  have hd0 : 0 ≤ (d : Int) := Int.natCast_nonneg _
  have h18 := hid (fun (h : ¬ b.height = (ps.length : Int) + 1) => fitsW_18 (d := d) (L := L.length) h)
  have h1 := hid (fun (h : b.height = (ps.length : Int) + 1) (i : Nat) (t : TxT) (ht : b.txs[i]? = some t) (hv : ¬ txV t = 0) => fitsW_1 (d := d) (L := L.length) h ht hv)
  have h0 := hid (fun (h : b.height = (ps.length : Int) + 1) (hv : ∀ (j : Nat) (t : TxT), j < b.txs.length → b.txs[j]? = some t → txV t = 0) => fitsW_end (d := d) (L := L.length) h hv)
  obtain ⟨R, hR⟩ : ∃ R, R = fitsW d ps.length L.length b := ⟨_, rfl⟩
  rw [← hR] at h18 h1 h0 ⊢
  obtain ⟨N, hN⟩ : ∃ N, N = w.heap.size := ⟨_, rfl⟩
  obtain ⟨w0, hw0⟩ : ∃ w0, w0 = w.alloc (.cells #[uv b.parent, .int .i64 b.height, uv b.miner, uv b.work, uv b.nonce, .slice ta b.txs.length tc] 75) := ⟨_, rfl⟩
  have hx0 : Ext w w0 := by rw [hw0]; exact (Ext.refl w).alloc _
  have hb0 : w0.heap[N]? = some (.cells #[uv b.parent, .int .i64 b.height, uv b.miner, uv b.work, uv b.nonce, .slice ta b.txs.length tc] 75 (0, 0)) := by rw [hw0, hN]; exact heap_new _ _
  have HX0 := hid hx0
  have HW := hid hw0
  have HC : Hid (∀ v, Ext w0 v → (v.cell? ⟨N, 1, none⟩ = some (.int .i64 b.height) ∧ v.cell? ⟨N, 5, none⟩ = some (.slice ta b.txs.length tc)) ∧ v.cell? ⟨W, 2, none⟩ = some (.int .i64 (d : Int)) ∧ v.cell? ⟨W, 12, none⟩ = some (.pointer (some ⟨LB, 0, none⟩)) ∧ v.cell? ⟨W, 14, none⟩ = some (.slice pa ps.length pc)) := hid fun v k => by
    obtain ⟨-, e1, -, -, e2, -, e3⟩ := (HH.out.ext (hx0.trans k)).cells
    exact ⟨⟨cell_of (k.heap_some hb0) 1, cell_of (k.heap_some hb0) 5⟩, e1, e2, e3⟩
  clear h hb hs hd hn hp hL hp2 h2d hT hWR hR hx0 hb0 hw0 HH
  go_enter Tryz.func87, Tryz.ntmps87
  go_upto_region 1 with fail
  rw [← HW.out, ← hN]
  clear hN HW
  refine wp_region_T (fun v => ((v.cell? ⟨N, 1, none⟩ = some (.int .i64 b.height) ∧ v.cell? ⟨N, 5, none⟩ = some (.slice ta b.txs.length tc)) ∧ v.cell? ⟨W, 2, none⟩ = some (.int .i64 (d : Int)) ∧ v.cell? ⟨W, 12, none⟩ = some (.pointer (some ⟨LB, 0, none⟩)) ∧ v.cell? ⟨W, 14, none⟩ = some (.slice pa ps.length pc)) ∧ Ext w0 v) 8 [(0, true), (1, true), (2, true), (3, true), (4, true), (5, true), (6, true), (7, true), (8, false)] (by kernel_rfl) (by kernel_rfl) (by intro c a d v w h; cases d <;> exact h) ?_
  intro ops hops
  have HSS := keep0 HC.out
  iterate 8
    refine wpT_take (v := ?_) (by rw [hops, List.getElem?_toArray]; rfl) (by first | rfl | (rw [hops]; rfl)) ?_ HSS ?_
    rotate_left
    · intro v h; go_simp; with_reducible rfl
    simp only [Act.put, List.getElem_toArray, List.getElem_cons_zero, List.getElem_cons_succ, List.setIfInBounds_toArray, List.set_cons_zero, List.set_cons_succ]
  have X1 := hid HSS.2
  clear HSS
  generalize w0.drew = w1 at *
  refine wpT_step (by rw [hops, List.getElem?_toArray]; rfl) (by first | rfl | (rw [hops]; rfl)) ?_
  intro K hK
  go_wp2_with fail
  try (with_reducible refine ⟨fun h => absurd h (by decide), ?_⟩)
  try rw [wpT_nil]
  try clear hops ops
  by_cases hh : b.height = (ps.length : Int) + 1
  case neg =>
    have hhB : decide (b.height = (ps.length : Int) + 1) = false := decide_eq_false hh
    have hr := h18.out hh
    subst hr
    go_wp2_with fail
    go_ret
    exact ⟨rfl, HX0.out.trans X1.out⟩
  have HHH := hid hh
  have hhB : decide (b.height = (ps.length : Int) + 1) = true := decide_eq_true hh
  obtain ⟨⟨c1, c2⟩, c3, c4, c5⟩ := HC.out _ X1.out
  go_wp2_with fail
  refine (HCT.out _ (HX0.out.trans X1.out)).mono ?_
  rintro e w2 ⟨rfl, hx⟩
  have X2 := hid (X1.out.trans hx)
  clear hx HCT c1 c2 c3 c4 c5 X1
  obtain ⟨⟨c1, c2⟩, c3, c4, c5⟩ := HC.out _ X2.out
  go_wp2_with fail
  go_loopw [5, 30] (fun sv iv wr => ∃ i : Nat, i ≤ b.txs.length ∧ sv = .int .i64 ((L.length + outsN (b.txs.take i) : Nat) : Int) ∧ iv = .int .i64 i ∧ Hid ((∀ (j : Nat) (t : TxT), j < i → b.txs[j]? = some t → txV t = 0) ∧ Ext w0 wr)) (fun _ iv _ => b.txs.length - (intOf iv).toNat)
  case atStart => exact ⟨0, by omega, by simp [outsN], rfl, hid ⟨fun j t hj => by omega, X2.out⟩⟩
  case round =>
    clear c1 c2 c3 c4 c5
    obtain ⟨i, hi, rfl, rfl, HI⟩ := hrel
    obtain ⟨⟨c1, c2⟩, c3, c4, c5⟩ := HC.out _ HI.out.2
    have hi0 : (0 : Int) ≤ (i : Int) := Int.natCast_nonneg _
    by_cases hlt : i < b.txs.length
    · have hltB : decide ((i : Int) < (b.txs.length : Int)) = true := by simp; omega
      have hil : (i : Int) < (b.txs.length : Int) := by omega
      obtain ⟨x, hxi⟩ : ∃ x, b.txs[i]? = some x := ⟨_, List.getElem?_eq_getElem hlt⟩
      obtain ⟨q, o, ma, mc, oa, oc, pa', pc', rfl, hrx, e0, e1, e2, e3, e4, e5, e6, e7, e8, e9⟩ := (HB.out.ext (HX0.out.trans HI.out.2)).at hxi
      have HSX := hid (HS.out x (List.mem_of_getElem? hxi))
      have HXI := hid hxi
      have HSN := hid (outsN_snoc hxi)
      have hol : (x.outs.length : Int) ≤ 1000 := by have := HSX.out.o; omega
      have hsum : ((L.length + outsN (b.txs.take i) : Nat) : Int) ≤ 300000 := by
        have h1 : outsN (b.txs.take i) ≤ 1000 * (b.txs.take i).length := outsN_le fun t ht => HS.out t (List.mem_of_mem_take ht)
        rw [List.length_take] at h1
        omega
      have hsum0 : 0 ≤ ((L.length + outsN (b.txs.take i) : Nat) : Int) := Int.natCast_nonneg _
      obtain ⟨S, hS⟩ : ∃ S, S = L.length + outsN (b.txs.take i) := ⟨_, rfl⟩
      have HSS := hid hS
      rw [← hS] at hsum hsum0 ⊢
      have TV : Hid (∀ v, Ext wr v → Calls Tryz.prog 115 #[txVal x (.slice ma x.marks.length mc) (.slice oa x.outs.length oc) (.slice pa' x.proof.length pc')] v fun e w' => e = .returned (.int .i64 (txV x)) ∧ Ext v w') := hid fun v k => txValid_any x _ _ _ v (hrx.ext k) HSX.out
      obtain ⟨V, hV⟩ : ∃ V, V = txV x := ⟨_, rfl⟩
      rw [← hV] at TV
      have HV := hid hV
      clear hxi hrx hS hV
      go_upto_region 9 with fail
      obtain ⟨Q, hQ⟩ : ∃ Q, Q = wr.heap.size := ⟨_, rfl⟩
      obtain ⟨u1, hu1⟩ : ∃ u1, u1 = wr.alloc (.cells #[uv x.anchor, .slice ma x.marks.length mc, .slice oa x.outs.length oc, uv x.deposit, uv x.withdraw, uv x.fee, uv x.account, uv x.nonce, .int .i64 x.expiry, .slice pa' x.proof.length pc'] 101) := ⟨_, rfl⟩
      rw [← hu1, ← hQ]
      have G1 : Hid (Ext wr u1) := hid (by rw [hu1]; exact (Ext.refl _).alloc _)
      have QB : Hid (u1.heap[Q]? = some (.cells #[uv x.anchor, .slice ma x.marks.length mc, .slice oa x.outs.length oc, uv x.deposit, uv x.withdraw, uv x.fee, uv x.account, uv x.nonce, .int .i64 x.expiry, .slice pa' x.proof.length pc'] 101 (0, 0))) := hid (by rw [hu1, hQ]; exact heap_new _ _)
      clear hu1 hQ c1 c2 c3 c4 c5 e0 e1 e2 e3 e4 e5 e6 e7 e8 e9
      obtain ⟨c0, c1, c2, c3, c4, c5, c6, c7, c8, c9⟩ := ten_cells QB.out
      go_wp2_with fail
      refine (TV.out _ G1.out).mono ?_
      rintro e u2 ⟨rfl, hx⟩
      have G2 := hid (HI.out.2.trans (G1.out.trans hx))
      clear c0 c1 c2 c3 c4 c5 c6 c7 c8 c9
      obtain ⟨c0, c1, c2, c3, c4, c5, c6, c7, c8, c9⟩ := ten_cells (hx.heap_some QB.out)
      clear hx TV
      by_cases hv : V = 0
      · subst hv
        have HN := hid (And.intro (fun (j : Nat) (t : TxT) (hj : j < i + 1) (ht : b.txs[j]? = some t) => show txV t = 0 from by
          by_cases hji : j = i
          · subst hji
            rw [HXI.out] at ht
            obtain rfl := Option.some.inj ht
            exact HV.out.symm
          · exact HI.out.1 j t (by omega) ht) G2.out)
        go_wp2_with fail
        go_roundw
        case rel => exact ⟨i + 1, by omega, by rw [HSN.out, ← Nat.add_assoc, ← HSS.out]; go_num, by go_num, HN⟩
        case measure => simp [intOf]; omega
      · have hvB : decide (V = 0) = false := decide_eq_false hv
        have hr := h1.out HHH.out i x HXI.out (by rw [← HV.out]; exact hv)
        subst hr
        go_wp2_with fail
        go_ret
        exact ⟨rfl, HX0.out.trans G2.out⟩
    · have hltB : decide ((i : Int) < (b.txs.length : Int)) = false := by simp; omega
      obtain rfl : i = b.txs.length := by omega
      rw [List.take_length]
      have hr := h0.out HHH.out (fun j t hj ht => HI.out.1 j t hj ht)
      rw [← HT.out] at hr
      have hWR := HWR.out
      have hON := HON.out
      by_cases hfull : T < L.length + outsN b.txs
      · rw [if_pos hfull] at hr
        subst hr
        have hfB : decide ((T : Int) < ((L.length + outsN b.txs : Nat) : Int)) = true := by simp; omega
        have hfB2 : decide (T < L.length + outsN b.txs) = true := by simp; omega
        go_wp2_with fail
        go_ret
        exact ⟨rfl, HX0.out.trans HI.out.2⟩
      · rw [if_neg hfull] at hr
        subst hr
        have hfB : decide ((T : Int) < ((L.length + outsN b.txs : Nat) : Int)) = false := by simp; omega
        have hfB2 : decide (T < L.length + outsN b.txs) = false := by simp; omega
        go_wp2_with fail
        go_ret
        exact ⟨rfl, HX0.out.trans HI.out.2⟩
end Go.Proofs.YtcikjcjfcanloaaGreat
namespace Go.Proofs.YtcikjcjfcanloaaGreat
open Go.RowKit
attribute [local irreducible] perm fAdd fMul fPow fSub fNeg fRed
def Orc.mark (M : Orc) (k r : UInt64) : UInt64 × Orc := if allE [k, r] then M.hash 3 [k, r] else (0, M)
end Go.Proofs.YtcikjcjfcanloaaGreat
