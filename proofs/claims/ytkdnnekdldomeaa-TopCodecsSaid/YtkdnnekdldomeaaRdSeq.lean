/- The wire's reader: Bytes, List. -/
import Derived.Test.YtkdnnekdldomeaaRdLaw
set_option linter.unusedSimpArgs false
namespace Go.Proofs.Ytkdnnekdldomeaa
open Go.RowKit
theorem rdB_sub {w : World} {b o c lo n : Nat} {l : List UInt8} (h : RdB' w (.slice (some ⟨b, o, none⟩) l.length c) l) (hn : lo + n ≤ l.length) {ad : Addr} (ha : n ≠ 0 → ad = ⟨b, o + lo, none⟩) :
    RdB' w (.slice (some ad) n (c - lo)) ((l.drop lo).take n) := by
  have hlen : ((l.drop lo).take n).length = n := by rw [List.length_take, List.length_drop]; omega
  obtain ⟨a', c', he, h2, h3, -, h5⟩ := h
  injection he with e1 e2 e3
  subst e1 e3
  unfold RdB'
  rw [hlen]
  refine ⟨some ad, c - lo, rfl, by omega, by omega, (fun h => by cases h), fun ad' ha' j u hu => ?_⟩
  injection ha' with ha'
  subst ha'
  have hj : j < n := by
    have := (List.getElem?_eq_some_iff.1 hu).1
    rwa [List.length_map, hlen] at this
  rw [ha (by omega), Addr.add_lit]
  have h6 := h5 _ rfl (lo + j) u (by
    rw [List.getElem?_map] at hu ⊢
    rw [List.getElem?_take_of_lt hj, List.getElem?_drop] at hu
    exact hu)
  rw [Addr.add_lit] at h6
  rw [Nat.add_assoc]
  exact h6
/-- A list read: a slice of its own, new; and the reader moved on. -/
def BytesO (w : World) (g : Nat) (v : Value) (l : List UInt8) (s : Nat × Bool) (most : Nat) (e : Ending) (w' : World) : Prop :=
  ∃ (y : Value) (c : List UInt8) (s' : Nat × Bool), e = .returned y ∧ Rdr w' g v l s' ∧ Kp (fun k => k = g) w w' ∧ RdB' w' y c ∧ (∀ k, blk y = some k → w.heap.size ≤ k) ∧ c.length ≤ most ∧ Rd1 bytesB (fun c => c.length ≤ most) l s c s'
theorem bytes_bad {l : List UInt8} {s : Nat × Bool} {most : Nat} (hs : s.1 ≤ l.length) (hm : most ≤ 4294967295) {p : Nat} (hbad : (intR l most s).2.2 = true ∨ l.length - (intR l most s).2.1 < (intR l most s).1) :
    Rd1 bytesB (fun c => c.length ≤ most) l s [] (p, true) := by
  refine ⟨fun h => (by cases h), fun h0 y m hy hd => ?_⟩
  unfold bytesB at hd
  rw [List.append_assoc] at hd
  obtain ⟨h1, h2⟩ := (intR_rd l most s hs hm).2 h0 y.length _ hy hd
  have h3 := ((intR_rd l most s hs hm).1 h2).2
  rw [h1, hd] at h3
  have h4 := congrArg List.length (List.append_cancel_left h3)
  rw [List.length_append, List.length_drop] at h4
  rcases hbad with h | h
  · rw [h2] at h; cases h
  · omega
theorem bytes_good {l : List UInt8} {s : Nat × Bool} {most n p : Nat} (hs : s.1 ≤ l.length) (hm : most ≤ 4294967295) (hi : intR l most s = (n, (p, false))) (hn : n ≤ l.length - p) :
    Rd1 bytesB (fun c => c.length ≤ most) l s ((l.drop p).take n) (p + n, false) := by
  have hlen : ((l.drop p).take n).length = n := by rw [List.length_take, List.length_drop]; omega
  have hr := intR_rd l most s hs hm
  rw [hi] at hr
  refine ⟨fun _ => ?_, fun h0 y m hy hd => ?_⟩
  · obtain ⟨g1, g2⟩ := hr.1 rfl
    refine ⟨g1, ?_⟩
    rw [g2]
    show lenB (n : Int) ++ l.drop p = bytesB ((l.drop p).take n) ++ l.drop (p + n)
    unfold bytesB
    rw [hlen, List.append_assoc, ← List.drop_drop, List.take_append_drop]
  · unfold bytesB at hd
    rw [List.append_assoc] at hd
    obtain ⟨h1, -⟩ := hr.2 h0 y.length _ hy hd
    have h3 := (hr.1 rfl).2
    simp only at h1 h3
    rw [h1, hd] at h3
    have h4 := List.append_cancel_left h3
    refine ⟨?_, rfl⟩
    rw [← h4, h1, List.take_left' rfl]
set_option maxRecDepth 100000 in
set_option maxHeartbeats 3200000 in
theorem rdBytes_any (g : Nat) (v : Value) (l : List UInt8) (s : Nat × Bool) (most : Nat) (w : World) (h : Rdr w g v l s) (hm : most ≤ 4294967295) :
    Calls Try.prog 37 #[.pointer (some ⟨g, 0, none⟩), .int .i64 (most : Int)] w (BytesO w g v l s most) := by
  have HI := hid (rdInt_any g v l s most w h)
  have hle := intR_le l most s
  have BAD : Hid (∀ p, ((intR l most s).2.2 = true ∨ l.length - (intR l most s).2.1 < (intR l most s).1) → Rd1 bytesB (fun c => c.length ≤ most) l s [] (p, true)) := hid fun p hb => bytes_bad h.le hm hb
  have GOOD : Hid (∀ n p, intR l most s = (n, (p, false)) → n ≤ l.length - p → p ≤ l.length → Rd1 bytesB (fun c => c.length ≤ most) l s ((l.drop p).take n) (p + n, false)) := hid fun n p h1 h2 _ => bytes_good h.le hm h1 h2
  have POS : Hid ((intR l most s).2.2 = false → 0 < l.length) := hid fun hf => by
    have h1 := congrArg List.length ((intR_rd l most s h.le hm).1 hf).2
    rw [List.length_append, lenB_length, List.length_drop] at h1
    omega
  generalize intR l most s = r at *
  obtain ⟨n, p, f⟩ := r
  have HLEN := hid h.len
  obtain ⟨a, c, rfl, -⟩ := ownsRow_rd h.own
  clear h hm
  go_enter Try.func37, Try.ntmps37
  go_wp2_with fail
  refine (HI.out).mono ?_
  rintro e w1 ⟨rfl, h1, hk⟩
  obtain ⟨c0, c1, c2⟩ := h1.cells
  have fz := frozen_of h1.box
  have H1 := hid h1
  have HK := hid hk
  clear h1 hk HI
  cases f with
  | true =>
    go_wp2_with fail
    go_ret
    exact ⟨_, [], (p, true), rfl, H1.out.fail, HK.out.setCell (p := ⟨g, 2, none⟩) (.inl rfl) _, (RdC.nil _).weak, fun k hk => (by cases hk), Nat.zero_le _, BAD.out p (.inl (by trivial))⟩
  | false =>
    have HLF := hid (rdLeft_any g _ l (p, false) w1 H1.out)
    go_wp2_with fail
    refine (HLF.out).mono ?_
    rintro e w2 ⟨rfl, hx⟩
    have H2 := hid (H1.out.ext hx)
    have HK2 := hid (HK.out.ext hx)
    clear HLF c0 c1 c2 fz
    obtain ⟨c0, c1, c2⟩ := H2.out.cells
    have fz := frozen_of H2.out.box
    clear hx
    by_cases hlt : l.length - p < n
    · have hltB : decide (((l.length - p : Nat) : Int) < (n : Int)) = true := by simp; omega
      go_wp2_with fail
      go_ret
      exact ⟨_, [], (p, true), rfl, H2.out.fail, HK2.out.setCell (p := ⟨g, 2, none⟩) (.inl rfl) _, (RdC.nil _).weak, fun k hk => (by cases hk), Nat.zero_le _, BAD.out p (.inr hlt)⟩
    · have hltB : decide (((l.length - p : Nat) : Int) < (n : Int)) = false := by simp; omega
      have hp : p ≤ l.length := H2.out.le
      have hpn : p + n ≤ l.length := by omega
      have hlI : (l.length : Int) ≤ 10000000000 := by have := HLEN.out; omega
      have hpI : (p : Int) ≤ 10000000000 := by omega
      have hnI : (n : Int) ≤ 10000000000 := by omega
      have hp0 : (0 : Int) ≤ (p : Int) := Int.natCast_nonneg _
      have hn0 : (0 : Int) ≤ (n : Int) := Int.natCast_nonneg _
      go_upto_region 7 with fail
      have H3 := H2.out.move (p + n) hpn
      rw [show ((p + n : Nat) : Int) = (p : Int) + (n : Int) by omega] at H3
      have K3 : Kp (fun k => k = g) w (w2.setCell ⟨g, 1, none⟩ (.int .i64 ((p : Int) + (n : Int)))) := HK2.out.setCell (p := ⟨g, 1, none⟩) (.inl rfl) _
      have HH3 := hid H3
      have HK3 := hid K3
      generalize w2.setCell ⟨g, 1, none⟩ (.int .i64 ((p : Int) + (n : Int))) = w3 at *
      clear c0 c1 c2 fz H3 K3
      have hl0 := POS.out (by trivial)
      obtain ⟨gb, rfl, hcap⟩ : ∃ gb, a = some ⟨gb, 0, none⟩ ∧ l.length ≤ c := by
        rcases HH3.out.own.2 with ⟨e1, e2⟩ | ⟨gb, cap, cur, e1, -, -, e2, -⟩
        · omega
        · injection e1 with e3 e4 e5
          exact ⟨gb, e3, by omega⟩
      have HC : Hid (∀ u, Ext w3 u → u.cell? ⟨g, 0, none⟩ = some (.slice (some ⟨gb, 0, none⟩) l.length c) ∧ u.cell? ⟨g, 1, none⟩ = some (.int .i64 ((p : Int) + (n : Int)))) := hid fun u k => by
        have h0 := (HH3.out.ext k).cells
        rw [show (((p + n, false) : Nat × Bool).1 : Int) = (p : Int) + (n : Int) by show ((p + n : Nat) : Int) = _; omega] at h0
        exact ⟨h0.1, h0.2.1⟩
      have b1 : (0 : Int) ≤ (p : Int) + (n : Int) := by omega
      have b2 : (p : Int) ≤ (p : Int) + (n : Int) := by omega
      have b3 : (p : Int) + (n : Int) ≤ (l.length : Int) := by omega
      have b4 : (l.length : Int) ≤ (c : Int) := by omega
      have b5 : (p : Int) + (n : Int) ≤ (c : Int) := by omega
      have hpnn : ((p : Int) + (n : Int)).toNat = p + n := by omega
      clear hltB hlt
      obtain ⟨part, hpart⟩ : ∃ part, part = (l.drop p).take n := ⟨_, rfl⟩
      have HPART := hid hpart
      have SUB : Hid (∀ u ad, Ext w3 u → (n ≠ 0 → ad = ⟨gb, p, none⟩) → Calls Try.prog 52 #[.slice (some ad) n (c - p), .int .i64 0] u (NewB u part)) := hid fun u ad k ha => by
        rw [hpart]
        refine room_any _ _ 0 u (rdB_sub (OwnB.weak (ownsRow_ext HH3.out.own k)) hpn (fun h0 => by rw [ha h0, Nat.zero_add])) ?_ (by omega)
        rw [List.length_take, List.length_drop]; have := HLEN.out; omega
      have HLP : Hid (part.length ≤ n) := hid (by rw [hpart, List.length_take]; omega)
      have G := GOOD.out n p (by trivial) (by omega) hp
      rw [← hpart] at G
      have GG := hid G
      clear hpart G GOOD BAD
      by_cases hpc : p < c
      · have hpcI : (p : Int) < (c : Int) := by omega
        have hne : ¬ c = p := by omega
        refine wp_region_T (fun u => (u.cell? ⟨g, 0, none⟩ = some (.slice (some ⟨gb, 0, none⟩) l.length c) ∧ u.cell? ⟨g, 1, none⟩ = some (.int .i64 ((p : Int) + (n : Int)))) ∧ Ext w3 u) 9 [(0, true), (1, true), (2, true), (3, true), (4, true), (5, true), (6, true), (7, true), (8, true), (9, false), (10, false), (11, false)] (by kernel_rfl) (by kernel_rfl) (by intro c a d v w h; cases d <;> exact h) ?_
        intro ops hops
        have HSS := keep0 HC.out
        iterate 9
          refine wpT_take (v := ?_) (by rw [hops, List.getElem?_toArray]; rfl) (by first | rfl | (rw [hops]; rfl)) ?_ HSS ?_
          rotate_left
          · intro v h; go_simp; with_reducible rfl
          simp only [Act.put, List.getElem_toArray, List.getElem_cons_zero, List.getElem_cons_succ, List.setIfInBounds_toArray, List.set_cons_zero, List.set_cons_succ]
        have HX4 := hid HSS.2
        clear HSS
        refine wpT_step (by rw [hops, List.getElem?_toArray]; rfl) (by first | rfl | (rw [hops]; rfl)) ?_
        intro K hK
        go_wp2_with fail
        try (with_reducible refine ⟨fun h => absurd h (by decide), ?_⟩)
        try rw [← hops]
        refine wpT_step (by rw [hops, List.getElem?_toArray]; rfl) (by first | rfl | (rw [hops]; rfl)) ?_
        intro K hK
        go_wp2_with fail
        refine (SUB.out _ _ HX4.out (fun _ => rfl)).mono ?_
        rintro e w5 ⟨y, rfl, hy, hx, hb⟩
        refine hK _ _ ⟨fun h => absurd h (by decide), ?_⟩
        clear hK K
        refine wpT_step (by rw [hops, List.getElem?_toArray]; rfl) (by first | rfl | (rw [hops]; rfl)) ?_
        intro K hK
        go_wp2_with fail
        try (with_reducible refine ⟨fun h => absurd h (by decide), ?_⟩)
        try rw [wpT_nil]
        try clear hops ops
        go_wp2_with fail
        go_ret
        refine ⟨y, part, (p + n, false), rfl, HH3.out.ext (HX4.out.trans hx), HK3.out.ext (HX4.out.trans hx), OwnB.weak hy, fun k hk => ?_, by have := HLP.out; omega, GG.out⟩
        have := hb k hk
        have := HK3.out.size
        have := HX4.out.size
        omega
      · have hn00 : n = 0 := by omega
        have hcp : c = p := by omega
        have SUB0 : Hid (∀ u, Ext w3 u → Calls Try.prog 52 #[.slice (some ⟨gb, 0, none⟩) n 0, .int .i64 0] u (NewB u part)) := hid fun u k => by
          have h0 := SUB.out u ⟨gb, 0, none⟩ k (fun h => absurd hn00 h)
          rwa [show c - p = 0 by omega] at h0
        clear hn00
        have hpcI : ¬ (p : Int) < (c : Int) := by omega
        refine wp_region_T (fun u => (u.cell? ⟨g, 0, none⟩ = some (.slice (some ⟨gb, 0, none⟩) l.length c) ∧ u.cell? ⟨g, 1, none⟩ = some (.int .i64 ((p : Int) + (n : Int)))) ∧ Ext w3 u) 9 [(0, true), (1, true), (2, true), (3, true), (4, true), (5, true), (6, true), (7, true), (8, true), (9, false), (10, false), (11, false)] (by kernel_rfl) (by kernel_rfl) (by intro c a d v w h; cases d <;> exact h) ?_
        intro ops hops
        have HSS := keep0 HC.out
        iterate 9
          refine wpT_take (v := ?_) (by rw [hops, List.getElem?_toArray]; rfl) (by first | rfl | (rw [hops]; rfl)) ?_ HSS ?_
          rotate_left
          · intro v h; go_simp; with_reducible rfl
          simp only [Act.put, List.getElem_toArray, List.getElem_cons_zero, List.getElem_cons_succ, List.setIfInBounds_toArray, List.set_cons_zero, List.set_cons_succ]
        have HX4 := hid HSS.2
        clear HSS
        refine wpT_step (by rw [hops, List.getElem?_toArray]; rfl) (by first | rfl | (rw [hops]; rfl)) ?_
        intro K hK
        go_wp2_with fail
        try (with_reducible refine ⟨fun h => absurd h (by decide), ?_⟩)
        try rw [← hops]
        refine wpT_step (by rw [hops, List.getElem?_toArray]; rfl) (by first | rfl | (rw [hops]; rfl)) ?_
        intro K hK
        go_wp2_with fail
        refine (SUB0.out _ HX4.out).mono ?_
        rintro e w5 ⟨y, rfl, hy, hx, hb⟩
        refine hK _ _ ⟨fun h => absurd h (by decide), ?_⟩
        clear hK K
        refine wpT_step (by rw [hops, List.getElem?_toArray]; rfl) (by first | rfl | (rw [hops]; rfl)) ?_
        intro K hK
        go_wp2_with fail
        try (with_reducible refine ⟨fun h => absurd h (by decide), ?_⟩)
        try rw [wpT_nil]
        try clear hops ops
        go_wp2_with fail
        go_ret
        refine ⟨y, part, (p + n, false), rfl, HH3.out.ext (HX4.out.trans hx), HK3.out.ext (HX4.out.trans hx), OwnB.weak hy, fun k hk => ?_, by have := HLP.out; omega, GG.out⟩
        have := hb k hk
        have := HK3.out.size
        have := HX4.out.size
        omega
/-! ## List -/
theorem cat_pre : ∀ {xs ys : List UInt64} {r m : List UInt8}, cat xs ++ r = cat ys ++ m → xs.length ≤ ys.length → ∃ zs, ys = xs ++ zs
  | [], ys, _, _, _, _ => ⟨ys, rfl⟩
  | _ :: _, [], _, _, _, h => by simp at h
  | x :: xs, y :: ys, r, m, h, hl => by
    simp only [cat, List.flatMap_cons, List.append_assoc] at h
    have h2 := List.append_inj h (by simp [leB_length])
    obtain ⟨zs, hz⟩ := cat_pre (xs := xs) (ys := ys) (r := r) (m := m) h2.2 (by simpa using hl)
    exact ⟨zs, by rw [leB_inj h2.1, hz]; rfl⟩
abbrev okL (most : Nat) : List UInt64 → Prop := fun ys => ys.length ≤ most ∧ allE ys = true
theorem listB_read {l m : List UInt8} {s : Nat × Bool} {most : Nat} {ys : List UInt64} (hs : s.1 ≤ l.length) (hm : most ≤ 4294967295) (h0 : s.2 = false) (hy : ys.length ≤ most) (hd : l.drop s.1 = listB ys ++ m) :
    (intR l most s).1 = ys.length ∧ (intR l most s).2.2 = false ∧ l.drop (intR l most s).2.1 = cat ys ++ m := by
  unfold listB at hd
  rw [List.append_assoc] at hd
  obtain ⟨h1, h2⟩ := (intR_rd l most s hs hm).2 h0 ys.length _ hy hd
  have h3 := ((intR_rd l most s hs hm).1 h2).2
  rw [h1, hd] at h3
  exact ⟨h1, h2, (List.append_cancel_left h3).symm⟩
theorem list_bad1 {l : List UInt8} {s : Nat × Bool} {most : Nat} (hs : s.1 ≤ l.length) (hm : most ≤ 4294967295) {p : Nat} (hbad : (intR l most s).2.2 = true ∨ (l.length - (intR l most s).2.1) / 8 < (intR l most s).1) :
    Rd1 listB (okL most) l s [] (p, true) := by
  refine ⟨fun h => (by cases h), fun h0 ys m hy hd => ?_⟩
  obtain ⟨h1, h2, h3⟩ := listB_read hs hm h0 hy.1 hd
  have h4 := congrArg List.length h3
  rw [List.length_append, List.length_drop, cat_length] at h4
  rcases hbad with h | h
  · rw [h2] at h; cases h
  · omega
theorem list_bad2 {l r : List UInt8} {s : Nat × Bool} {most n q : Nat} (hs : s.1 ≤ l.length) (hm : most ≤ 4294967295) {p : Nat} (hi : intR l most s = (n, (q, false))) {cur : List UInt64} {x : UInt64} (hd1 : l.drop q = cat (cur ++ [x]) ++ r) (hn : cur.length < n) (hx : ¬ x < big) :
    Rd1 listB (okL most) l s [] (p, true) := by
  refine ⟨fun h => (by cases h), fun h0 ys m hy hd => ?_⟩
  obtain ⟨h1, h2, h3⟩ := listB_read hs hm h0 hy.1 hd
  rw [hi] at h1 h3
  simp only at h1 h3
  rw [hd1] at h3
  obtain ⟨zs, hz⟩ := cat_pre h3 (by rw [List.length_append, List.length_singleton]; omega)
  have h5 : x ∈ ys := by rw [hz]; simp
  have h6 := hy.2
  unfold allE at h6
  rw [List.all_eq_true] at h6
  exact absurd (by simpa using h6 x h5) hx
theorem list_good {l : List UInt8} {s : Nat × Bool} {most n p : Nat} (hs : s.1 ≤ l.length) (hm : most ≤ 4294967295) (hi : intR l most s = (n, (p, false))) {xs : List UInt64} (hx : xs.length = n) (hd1 : l.drop p = cat xs ++ l.drop (p + 8 * n)) :
    Rd1 listB (okL most) l s xs (p + 8 * n, false) := by
  have hr := intR_rd l most s hs hm
  rw [hi] at hr
  refine ⟨fun _ => ?_, fun h0 ys m hy hd => ?_⟩
  · obtain ⟨g1, g2⟩ := hr.1 rfl
    refine ⟨g1, ?_⟩
    rw [g2]
    show lenB (n : Int) ++ l.drop p = listB xs ++ l.drop (p + 8 * n)
    unfold listB
    rw [hx, List.append_assoc, ← hd1]
  · obtain ⟨h1, h2, h3⟩ := listB_read hs hm h0 hy.1 hd
    rw [hi] at h1 h3
    simp only at h1 h3
    rw [hd1] at h3
    obtain ⟨zs, hz⟩ := cat_pre h3 (by omega)
    have h5 := congrArg List.length hz
    rw [List.length_append] at h5
    have h6 : zs = [] := List.eq_nil_of_length_eq_zero (by omega)
    rw [h6, List.append_nil] at hz
    exact ⟨hz.symm, rfl⟩
theorem set_mid {a : List Value} {b c : Value} {r : List Value} {i : Nat} (hi : i = a.length) : ((a ++ b :: r).toArray).setIfInBounds i c = (a ++ c :: r).toArray := by
  subst hi; simp
theorem rdU_cells {w : World} {M : Nat} {xs : List UInt64} {T : TypeId} (h : w.heap[M]? = some (.cells (us xs).toArray T (0, 0))) (hl : xs.length ≤ maxLen) : RdU' w (.slice (some ⟨M, 0, none⟩) xs.length xs.length) xs := by
  refine ⟨some ⟨M, 0, none⟩, xs.length, rfl, Nat.le_refl _, hl, (fun h => by cases h), fun ad ha j u hu => ?_⟩
  injection ha with ha
  subst ha
  rw [Addr.add_lit, cell_of h]
  simpa using hu
/-- A list of numbers read: a slice of its own, new; and the reader moved on. -/
def ListO (w : World) (g : Nat) (v : Value) (l : List UInt8) (s : Nat × Bool) (most : Nat) (e : Ending) (w' : World) : Prop :=
  ∃ (y : Value) (c : List UInt64) (s' : Nat × Bool), e = .returned y ∧ Rdr w' g v l s' ∧ Kp (fun k => k = g) w w' ∧ RdU' w' y c ∧ (∀ k, blk y = some k → w.heap.size ≤ k) ∧ c.length ≤ most ∧ Rd1 listB (okL most) l s c s'
set_option maxRecDepth 100000 in
set_option maxHeartbeats 3200000 in
theorem rdList_any (g : Nat) (v : Value) (l : List UInt8) (s : Nat × Bool) (most : Nat) (w : World) (h : Rdr w g v l s) (hm : most ≤ 1000) :
    Calls Try.prog 42 #[.pointer (some ⟨g, 0, none⟩), .int .i64 (most : Int), .int .u64 18446744069414584321] w (ListO w g v l s most) := by
  obtain ⟨i0, hi, hz0, hz1, hz2⟩ := info_parts Try.infoU
  have HI0 := hid (And.intro hi (And.intro hz0 (And.intro hz1 hz2)))
  clear hi hz0 hz1 hz2
  have HI := hid (rdInt_any g v l s most w h)
  have hle := intR_le l most s
  have BAD : Hid (∀ p, ((intR l most s).2.2 = true ∨ (l.length - (intR l most s).2.1) / 8 < (intR l most s).1) → Rd1 listB (okL most) l s [] (p, true)) := hid fun p hb => list_bad1 h.le (by omega) hb
  have BAD2 : Hid (∀ n q p cur x r, intR l most s = (n, (q, false)) → l.drop q = cat (cur ++ [x]) ++ r → cur.length < n → ¬ x < big → Rd1 listB (okL most) l s [] (p, true)) := hid fun n q p cur x r h1 h2 h3 h4 => list_bad2 h.le (by omega) h1 h2 h3 h4
  have GOOD : Hid (∀ n p xs, intR l most s = (n, (p, false)) → xs.length = n → l.drop p = cat xs ++ l.drop (p + 8 * n) → Rd1 listB (okL most) l s xs (p + 8 * n, false)) := hid fun n p xs h1 h2 h3 => list_good h.le (by omega) h1 h2 h3
  generalize hr : intR l most s = r at *
  clear hr
  obtain ⟨n, p, f⟩ := r
  have HLEN := hid h.len
  obtain ⟨a, c, rfl, -⟩ := ownsRow_rd h.own
  clear h
  have hn1 : n ≤ 1000 := by have : n ≤ most := hle; omega
  go_enter Try.func42, Try.ntmps42
  go_wp2_with fail
  refine (HI.out).mono ?_
  rintro e w1 ⟨rfl, h1, hk⟩
  obtain ⟨c0, c1, c2⟩ := h1.cells
  have fz := frozen_of h1.box
  have H1 := hid h1
  have HK := hid hk
  clear h1 hk HI
  cases f with
  | true =>
    go_wp2_with fail
    go_ret
    exact ⟨_, [], (p, true), rfl, H1.out.fail, HK.out.setCell (p := ⟨g, 2, none⟩) (.inl rfl) _, (RdC.nil _).weak, fun k hk => (by cases hk), Nat.zero_le _, BAD.out p (.inl (by trivial))⟩
  | false =>
    have HLF := hid (rdLeft_any g _ l (p, false) w1 H1.out)
    obtain ⟨D, hD⟩ : ∃ D, D = l.length - p := ⟨_, rfl⟩
    have hD8 : (D : Int) / 8 = ((D / 8 : Nat) : Int) := by omega
    have hDI : (D : Int) ≤ 10000000000 := by have := HLEN.out; omega
    have hw : wrap64 ((D : Int) / 8) = (D : Int) / 8 := by
      unfold wrap64; omega
    replace HLF : Hid (Calls Try.prog 54 #[.pointer (some ⟨g, 0, none⟩)] w1 fun e w' => e = .returned (.int .i64 (D : Int)) ∧ Ext w1 w') := hid (by rw [hD]; exact HLF.out)
    have HD := hid hD
    have HD8 := hid hD8
    clear hD hD8
    go_wp2_with fail
    refine (HLF.out).mono ?_
    rintro e w2 ⟨rfl, hx⟩
    have H2 := hid (H1.out.ext hx)
    have HK2 := hid (HK.out.ext hx)
    clear HLF c0 c1 c2 fz
    obtain ⟨c0, c1, c2⟩ := H2.out.cells
    have fz := frozen_of H2.out.box
    clear hx
    by_cases hlt : (l.length - p) / 8 < n
    · have hltB : decide ((D : Int) / 8 < (n : Int)) = true := by have := HD.out; have := HD8.out; simp; omega
      go_wp2_with fail
      go_ret
      exact ⟨_, [], (p, true), rfl, H2.out.fail, HK2.out.setCell (p := ⟨g, 2, none⟩) (.inl rfl) _, (RdC.nil _).weak, fun k hk => (by cases hk), Nat.zero_le _, BAD.out p (.inr hlt)⟩
    · have hltB : decide ((D : Int) / 8 < (n : Int)) = false := by have := HD.out; have := HD8.out; simp; omega
      have hp : p ≤ l.length := H2.out.le
      have hpn : p + 8 * n ≤ l.length := by omega
      have hnI : (n : Int) ≤ 1000 := by omega
      go_upto_region 6 with (at_make; refine wpList_make_cap w2 rfl _ _ 36 rfl 22 i0 (.int .u64 0) 8 Try.underlying36 HI0.out.1 HI0.out.2.1 HI0.out.2.2.1 HI0.out.2.2.2 .i64 .i64 _ _ n n rfl rfl rfl rfl (by omega) (by omega) (by unfold maxLen; omega) ?_)
      obtain ⟨M, hM⟩ : ∃ M, M = w2.heap.size := ⟨_, rfl⟩
      have hm : madeCells #[Value.int .u64 0] n = (us (List.replicate n 0)).toArray := by
        apply Array.toList_inj.1
        rw [toList_madeCells_one]
        simp [us]
      rw [hm]
      obtain ⟨w3, hw3⟩ : ∃ w3, w3 = w2.alloc (.cells (us (List.replicate n 0)).toArray 22) := ⟨_, rfl⟩
      rw [← hw3, ← hM]
      have hx3 : Ext w2 w3 := by rw [hw3]; exact (Ext.refl _).alloc _
      have hb3 : w3.heap[M]? = some (.cells (us (List.replicate n 0)).toArray 22 (0, 0)) := by rw [hw3, hM]; exact heap_new _ _
      have HB3 := hid hb3
      have H3 := hid (H2.out.ext hx3)
      have HK3 := hid (HK2.out.ext hx3)
      have HMG : Hid (M ≠ g) := hid (by have := H2.out.lt; omega)
      have HMV : Hid (∀ k, blk (Value.slice a l.length c) = some k → M ≠ k) := hid fun k hk => by
        have := ownsRow_lt H2.out.own hk; omega
      have HMW : Hid (w.heap.size ≤ M) := hid (by have := HK2.out.size; omega)
      clear hw3 hM hm hx3 hb3 c0 c1 c2 fz hltB hlt hw hDI
      have hn0 : (0 : Int) ≤ (n : Int) := Int.natCast_nonneg _
      have DIG : Hid (∀ u i, Rdr u g (.slice a l.length c) l (p + 8 * i, false) → i < n → ∃ x : UInt64, l.drop (p + 8 * i) = leB 8 x ++ l.drop (p + 8 * (i + 1)) ∧ Calls Try.prog 53 #[.pointer (some ⟨g, 0, none⟩), .int .i64 8] u fun e u' => e = .returned (.tuple #[uv x, .bool true]) ∧ Rdr u' g (.slice a l.length c) l (p + 8 * (i + 1), false) ∧ Kp (fun k => k = g) u u') := hid fun u i k hi => by
        have hok : (digR l 8 (p + 8 * i, false)).2.1 = true := by unfold digR; rw [if_pos ⟨rfl, by show p + 8 * i + 8 ≤ l.length; omega⟩]
        obtain ⟨-, -, g3, g4⟩ := digR_ok (by omega) hok
        have hc := rdDigits_any g _ l _ 8 u k (by omega)
        unfold DigO at hc
        rw [g3, hok] at hc
        exact ⟨_, g4, hc⟩
      go_wp2_with fail
      go_loopw [31] (fun iv wr => ∃ (i : Nat) (cur : List UInt64), i ≤ n ∧ iv = .int .i64 i ∧ Hid (cur.length = i) ∧ Hid (Rdr wr g (.slice a l.length c) l (p + 8 * i, false)) ∧ Hid (Kp (fun k => k = g) w wr) ∧ Hid (wr.heap[M]? = some (.cells (us (cur ++ List.replicate (n - i) 0)).toArray 22 (0, 0))) ∧ Hid (l.drop p = cat cur ++ l.drop (p + 8 * i))) (fun iv _ => n - (intOf iv).toNat)
      case atStart => exact ⟨0, [], by omega, rfl, hid rfl, H3, HK3, HB3, hid (by simp [cat])⟩
      case round =>
        obtain ⟨i, cur, hi, rfl, hcl, HR, HK4, HM, hcat⟩ := hrel
        have hi0 : (0 : Int) ≤ (i : Int) := Int.natCast_nonneg _
        by_cases hlti : i < n
        · have hltI : decide ((i : Int) < (n : Int)) = true := by simp; omega
          have hiI : (i : Int) < (n : Int) := by omega
          obtain ⟨x, hx, hcall⟩ := DIG.out _ _ HR.out hlti
          have HX := hid hx
          have HCALL := hid hcall
          clear hx hcall
          go_wp2_with fail
          refine (HCALL.out).mono ?_
          rintro e w5 ⟨rfl, hr5, hk5⟩
          have HR5 := hid hr5
          have HK5 := hid (HK4.out.trans hk5)
          have hm5 : w5.heap[M]? = some (.cells (us (cur ++ List.replicate (n - i) 0)).toArray 22 (0, 0)) := hk5.heap_some HMG.out HM.out
          have hsp : us (cur ++ List.replicate (n - i) 0) = us cur ++ uv 0 :: us (List.replicate (n - (i + 1)) 0) := by
            rw [show n - i = (n - (i + 1)) + 1 by omega, List.replicate_succ]
            simp [us]
          have hci : i = (us cur).length := by rw [List.length_map]; exact hcl.out.symm
          rw [hsp] at hm5
          have cM : w5.cell? ⟨M, i, none⟩ = some (.int .u64 0) := by
            rw [cell_of hm5, hci]
            simp
          have fz := frozen_of hm5
          have HM5 := hid hm5
          clear hr5 hk5 hm5 HCALL
          have HCI := hid hci
          clear hci hsp
          go_upto_region 10 with fail
          have hm6 := heap_setCell_same HM5.out i (uv x)
          rw [set_mid HCI.out, show us cur ++ uv x :: us (List.replicate (n - (i + 1)) 0) = us ((cur ++ [x]) ++ List.replicate (n - (i + 1)) 0) by simp [us]] at hm6
          have K56 : Kp (fun k => k = M) w5 (w5.setCell ⟨M, i, none⟩ (uv x)) := (Kp.refl (fun k => k = M) _).setCell (p := ⟨M, i, none⟩) (.inl rfl) _
          have hr6 := HR5.out.kp K56 (fun e => HMG.out e.symm) (fun k hk e => HMV.out k hk e.symm)
          have hk6 : Kp (fun k => k = g) w (w5.setCell ⟨M, i, none⟩ (uv x)) := HK5.out.setCell (p := ⟨M, i, none⟩) (.inr HMW.out) _
          change (w5.setCell ⟨M, i, none⟩ (.int .u64 (x.toNat : Int))).heap[M]? = _ at hm6
          change Rdr (w5.setCell ⟨M, i, none⟩ (.int .u64 (x.toNat : Int))) _ _ _ _ at hr6
          change Kp _ _ (w5.setCell ⟨M, i, none⟩ (.int .u64 (x.toNat : Int))) at hk6
          clear K56 cM fz
          generalize w5.setCell ⟨M, i, none⟩ (.int .u64 (x.toNat : Int)) = w6 at *
          have cM : w6.cell? ⟨M, i, none⟩ = some (.int .u64 (x.toNat : Int)) := by
            rw [cell_of hm6, HCI.out]
            simp [us]
          have HM6 := hid hm6
          have HR6 := hid hr6
          have HK6 := hid hk6
          obtain ⟨c0, c1, c2⟩ := hr6.cells
          have fz := frozen_of hr6.box
          have hcat6 : l.drop p = cat (cur ++ [x]) ++ l.drop (p + 8 * (i + 1)) := by rw [cat_snoc, List.append_assoc, ← HX.out, ← hcat.out]
          have HC6 := hid hcat6
          clear hm6 hr6 hk6 hcat6
          by_cases hxb : x < big
          · have hge : decide ((18446744069414584321 : Int) ≤ (x.toNat : Int)) = false := by have := (lt_big_iff x).1 hxb; simp; omega
            have HLI : Hid ((cur ++ [x]).length = i + 1) := hid (by simp [hcl.out])
            clear hxb
            go_wp2_with fail
            go_roundw
            case rel => exact ⟨i + 1, cur ++ [x], by omega, by go_num, HLI, HR6, HK6, HM6, HC6⟩
            case measure => simp [intOf]; omega
          · have hge : decide ((18446744069414584321 : Int) ≤ (x.toNat : Int)) = true := by have := mt (lt_big_iff x).2 hxb; simp; omega
            have HB := hid (BAD2.out n p (p + 8 * (i + 1)) cur x _ rfl HC6.out (by rw [hcl.out]; exact hlti) hxb)
            clear hxb
            go_wp2_with fail
            go_ret
            exact ⟨_, [], _, rfl, HR6.out.fail, HK6.out.setCell (p := ⟨g, 2, none⟩) (.inl rfl) _, (RdC.nil _).weak, fun k hk => (by cases hk), Nat.zero_le _, HB.out⟩
        · have hie : i = n := by omega
          have hltI : decide ((i : Int) < (n : Int)) = false := by simp; omega
          have HG := hid (GOOD.out n p cur (by trivial) (by rw [hcl.out, hie]) (by rw [← hie]; exact hcat.out))
          have HIE := hid hie
          clear hie
          go_wp2_with fail
          go_ret
          have hm := HM.out
          rw [HIE.out, Nat.sub_self, List.replicate_zero, List.append_nil] at hm
          have hcn : cur.length = n := by rw [hcl.out, HIE.out]
          have hrd := rdU_cells hm (by unfold maxLen; omega)
          rw [hcn] at hrd
          refine ⟨_, cur, _, rfl, HR.out, HK4.out, hrd, fun k hk => ?_, by omega, ?_⟩
          · have h1 : M = k := by
              change some M = some k at hk
              exact Option.some.inj hk
            rw [← h1]; exact HMW.out
          · rw [HIE.out]; exact HG.out
end Go.Proofs.Ytkdnnekdldomeaa
