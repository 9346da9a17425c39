/- The wire's reader: NewReader, Failed, left, digits, Uint, Int, Done. -/
import Derived.Test.YtkdnnekdldomeaaPackB
set_option linter.unusedSimpArgs false
namespace Go.Proofs.Ytkdnnekdldomeaa
open Go.RowKit
/-- The box of a reader: its bytes, its position, whether it has failed. -/
def RdrB (w : World) (g : Nat) (v : Value) (pos : Nat) (f : Bool) : Prop := w.heap[g]? = some (.cells #[v, .int .i64 pos, .bool f] 81 (0, 0))
def NewR (w : World) (l : List UInt8) (e : Ending) (w' : World) : Prop := ∃ (g : Nat) (x : Value), e = .returned (.pointer (some ⟨g, 0, none⟩)) ∧ RdrB w' g x 0 false ∧ OwnB w' x l ∧ Ext w w' ∧ w.heap.size ≤ g ∧ (∀ k, blk x = some k → w.heap.size ≤ k ∧ k ≠ g)
set_option maxRecDepth 100000 in
set_option maxHeartbeats 3200000 in
theorem newReader_any (v : Value) (l : List UInt8) (w : World) (h : RdB' w v l) (hL : l.length ≤ 10000000000) :
    Calls Try.prog 34 #[v] w (NewR w l) := by
  have HR := hid (room_any v l 0 w h hL (by omega))
  obtain ⟨a, c, rfl, -⟩ := id h
  go_enter Try.func34, Try.ntmps34
  go_wp2_with fail
  refine (show Calls Try.prog 52 #[.slice a l.length c, .int .i64 0] w (NewB w l) from HR.out).mono ?_
  rintro e w1 ⟨x, rfl, o, hx, hb⟩
  have HO := hid o
  have HX := hid hx
  have HBK := hid hb
  have HLT : Hid (∀ k, blk x = some k → k ≠ w1.heap.size) := hid fun k hk e => by
    rcases o.2 with ⟨hn, h0⟩ | ⟨g, cap, cur, hn, _, hg, hnc, _⟩
    · rw [hn] at hk; simp [blk, Value.ownBlock] at hk
    · rw [hn] at hk
      simp [blk, Value.ownBlock] at hk
      subst hk; subst e
      simp at hg
  obtain ⟨xa, xc, rfl, -⟩ := ownsRow_rd o
  clear o hx hb HR
  go_wp2_with fail
  go_ret
  refine ⟨w1.heap.size, .slice xa l.length xc, rfl, heap_new _ _, ownsRow_ext HO.out ((Ext.refl w1).alloc _), HX.out.alloc _, HX.out.size, fun k hk => ⟨HBK.out k hk, HLT.out k hk⟩⟩
set_option maxRecDepth 100000 in
set_option maxHeartbeats 3200000 in
theorem rdFailed_any (g : Nat) (v : Value) (pos : Nat) (f : Bool) (w : World) (h : RdrB w g v pos f) :
    Calls Try.prog 38 #[.pointer (some ⟨g, 0, none⟩)] w fun e w' => e = .returned (.bool f) ∧ Ext w w' := by
  have c2 : w.cell? ⟨g, 2, none⟩ = some (.bool f) := cell_of (cs := #[v, .int .i64 pos, .bool f]) h 2
  clear h
  go_enter Try.func38, Try.ntmps38
  go_wp2_with fail
  go_ret
  exact ⟨rfl, Ext.refl w⟩
/-- A reader of the bytes l: where it stands and whether it has failed. -/
structure Rdr (w : World) (g : Nat) (v : Value) (l : List UInt8) (s : Nat × Bool) : Prop where
  box : RdrB w g v s.1 s.2
  own : OwnB w v l
  ne : ∀ k, blk v = some k → k ≠ g
  le : s.1 ≤ l.length
  len : l.length ≤ 10000000000
theorem Rdr.ext {w w' : World} {g : Nat} {v : Value} {l : List UInt8} {s : Nat × Bool} (h : Rdr w g v l s) (k : Ext w w') : Rdr w' g v l s :=
  ⟨k.heap_some h.box, ownsRow_ext h.own k, h.ne, h.le, h.len⟩
theorem Rdr.kp {F : Nat → Prop} {w w' : World} {g : Nat} {v : Value} {l : List UInt8} {s : Nat × Bool} (h : Rdr w g v l s) (k : Kp F w w') (h1 : ¬ F g) (h2 : ∀ b, blk v = some b → ¬ F b) : Rdr w' g v l s :=
  ⟨k.heap_some h1 h.box, ownsRow_kp h.own k h2, h.ne, h.le, h.len⟩
theorem Rdr.set {w : World} {g : Nat} {v : Value} {l : List UInt8} {s : Nat × Bool} (h : Rdr w g v l s) (p : Nat) (f : Bool) (o : Nat) (u : Value) (hp : p ≤ l.length)
    (hs : (#[v, .int .i64 s.1, .bool s.2] : Array Value).setIfInBounds o u = #[v, .int .i64 p, .bool f]) : Rdr (w.setCell ⟨g, o, none⟩ u) g v l (p, f) := by
  refine ⟨?_, ownsRow_kp h.own ((Kp.refl (fun k => k = g) w).setCell (p := ⟨g, o, none⟩) (.inl rfl) u) h.ne, h.ne, hp, h.len⟩
  have := heap_setCell_same h.box o u
  rw [hs] at this
  exact this
theorem Rdr.fail {w : World} {g : Nat} {v : Value} {l : List UInt8} {s : Nat × Bool} (h : Rdr w g v l s) : Rdr (w.setCell ⟨g, 2, none⟩ (.bool true)) g v l (s.1, true) := h.set s.1 true 2 _ h.le (by simp)
theorem Rdr.move {w : World} {g : Nat} {v : Value} {l : List UInt8} {s : Nat × Bool} (h : Rdr w g v l s) (p : Nat) (hp : p ≤ l.length) : Rdr (w.setCell ⟨g, 1, none⟩ (.int .i64 p)) g v l (p, s.2) := h.set p s.2 1 _ hp (by simp)
theorem Rdr.cells {w : World} {g : Nat} {v : Value} {l : List UInt8} {s : Nat × Bool} (h : Rdr w g v l s) : w.cell? ⟨g, 0, none⟩ = some v ∧ w.cell? ⟨g, 1, none⟩ = some (.int .i64 s.1) ∧ w.cell? ⟨g, 2, none⟩ = some (.bool s.2) :=
  ⟨cell_of (cs := #[v, .int .i64 s.1, .bool s.2]) h.box 0, cell_of (cs := #[v, .int .i64 s.1, .bool s.2]) h.box 1, cell_of (cs := #[v, .int .i64 s.1, .bool s.2]) h.box 2⟩
theorem Rdr.lt {w : World} {g : Nat} {v : Value} {l : List UInt8} {s : Nat × Bool} (h : Rdr w g v l s) : g < w.heap.size := heap_lt h.box
theorem NewR.rdr {w w' : World} {l : List UInt8} {e : Ending} (hL : l.length ≤ 10000000000) (h : NewR w l e w') : ∃ (g : Nat) (v : Value), e = .returned (.pointer (some ⟨g, 0, none⟩)) ∧ Rdr w' g v l (0, false) ∧ Ext w w' ∧ w.heap.size ≤ g ∧ ∀ k, blk v = some k → w.heap.size ≤ k := by
  obtain ⟨g, x, rfl, h1, h2, h3, h4, h5⟩ := h
  exact ⟨g, x, rfl, ⟨h1, h2, fun k hk => (h5 k hk).2, Nat.zero_le _, hL⟩, h3, h4, fun k hk => (h5 k hk).1⟩
set_option maxRecDepth 100000 in
set_option maxHeartbeats 3200000 in
theorem rdLeft_any (g : Nat) (v : Value) (l : List UInt8) (s : Nat × Bool) (w : World) (h : Rdr w g v l s) :
    Calls Try.prog 54 #[.pointer (some ⟨g, 0, none⟩)] w fun e w' => e = .returned (.int .i64 ((l.length - s.1 : Nat) : Int)) ∧ Ext w w' := by
  obtain ⟨pos, f⟩ := s
  obtain ⟨a, c, rfl, -⟩ := ownsRow_rd h.own
  have hle : pos ≤ l.length := h.le
  have hlen := h.len
  have hsub : (l.length : Int) - (pos : Int) = ((l.length - pos : Nat) : Int) := by omega
  have HC : Hid (∀ u, Ext w u → u.cell? ⟨g, 0, none⟩ = some (.slice a l.length c) ∧ u.cell? ⟨g, 1, none⟩ = some (.int .i64 pos)) := hid fun u k => ⟨((h.ext k).cells).1, ((h.ext k).cells).2.1⟩
  clear h
  go_enter Try.func54, Try.ntmps54
  go_wp2_with fail
  refine wp_region_T (fun u => (u.cell? ⟨g, 0, none⟩ = some (.slice a l.length c) ∧ u.cell? ⟨g, 1, none⟩ = some (.int .i64 pos)) ∧ Ext w u) 9 [(0, true), (1, true), (2, true), (3, true), (4, true), (5, true), (6, true), (7, true), (8, true), (9, false), (10, false)] (by kernel_rfl) (by kernel_rfl) (by intro c a d v w h; cases d <;> exact h) ?_
  intro ops hops
  have HSS := keep0 HC.out
  iterate 9
    refine wpT_take (v := ?_) (by rw [hops, List.getElem?_toArray]; rfl) (by first | rfl | (rw [hops]; rfl)) ?_ HSS ?_
    rotate_left
    · intro v h; go_simp; with_reducible rfl
    simp only [Act.put, List.getElem_toArray, List.getElem_cons_zero, List.getElem_cons_succ, List.setIfInBounds_toArray, List.set_cons_zero, List.set_cons_succ]
  have HX := hid HSS.2
  clear HSS
  refine wpT_step (by rw [hops, List.getElem?_toArray]; rfl) (by first | rfl | (rw [hops]; rfl)) ?_
  intro K hK
  go_wp2_with fail
  try (with_reducible refine ⟨fun h => absurd h (by decide), ?_⟩)
  try rw [← hops]
  refine wpT_step (by rw [hops, List.getElem?_toArray]; rfl) (by first | rfl | (rw [hops]; rfl)) ?_
  intro K hK
  go_wp2_with fail
  try (with_reducible refine ⟨fun h => absurd h (by decide), ?_⟩)
  try rw [wpT_nil]
  try clear hops ops
  go_wp2_with fail
  go_ret
  exact ⟨rfl, HX.out⟩
set_option maxRecDepth 100000 in
set_option maxHeartbeats 3200000 in
theorem rdDone_any (g : Nat) (v : Value) (l : List UInt8) (s : Nat × Bool) (w : World) (h : Rdr w g v l s) :
    Calls Try.prog 39 #[.pointer (some ⟨g, 0, none⟩)] w fun e w' => e = .returned (.bool (!s.2 && decide (s.1 = l.length))) ∧ Ext w w' := by
  obtain ⟨pos, f⟩ := s
  obtain ⟨a, c, rfl, -⟩ := ownsRow_rd h.own
  have HC : Hid (∀ u, Ext w u → u.cell? ⟨g, 0, none⟩ = some (.slice a l.length c) ∧ u.cell? ⟨g, 1, none⟩ = some (.int .i64 pos) ∧ u.cell? ⟨g, 2, none⟩ = some (.bool f)) := hid fun u k => (h.ext k).cells
  clear h
  cases f with
  | true =>
    go_enter Try.func39, Try.ntmps39
    go_wp2_with fail
    refine wp_region_T (fun u => (u.cell? ⟨g, 0, none⟩ = some (.slice a l.length c) ∧ u.cell? ⟨g, 1, none⟩ = some (.int .i64 pos) ∧ u.cell? ⟨g, 2, none⟩ = some (.bool true)) ∧ Ext w u) 15 [(0, true), (1, true), (2, true), (3, true), (4, true), (5, true), (6, true), (7, true), (8, true), (9, true), (10, true), (11, true), (12, true), (13, true), (14, true), (15, false), (16, false), (17, false)] (by kernel_rfl) (by kernel_rfl) (by intro c a d v w h; cases d <;> exact h) ?_
    intro ops hops
    have HSS := keep0 HC.out
    iterate 15
      first
        | (refine wpT_take (v := ?_) (by rw [hops, List.getElem?_toArray]; rfl) (by first | rfl | (rw [hops]; rfl)) ?_ HSS ?_
           rotate_left
           · intro v h; go_simp; with_reducible rfl
           simp only [Act.put, List.getElem_toArray, List.getElem_cons_zero, List.getElem_cons_succ, List.setIfInBounds_toArray, List.set_cons_zero, List.set_cons_succ])
        | (refine wpT_pass (by rw [hops, List.getElem?_toArray]; rfl) (by first | rfl | (rw [hops]; rfl)) HSS ?_
           simp only [Act.put, List.getElem_toArray, List.getElem_cons_zero, List.getElem_cons_succ, List.setIfInBounds_toArray, List.set_cons_zero, List.set_cons_succ])
    have HX := hid HSS.2
    clear HSS
    refine wpT_none (by rw [hops, List.getElem?_toArray]; rfl) (by first | rfl | (rw [hops]; rfl)) ⟨fun h => absurd h (by decide), ?_⟩
    simp only [Act.put, List.getElem_toArray, List.getElem_cons_zero, List.getElem_cons_succ, List.setIfInBounds_toArray, List.set_cons_zero, List.set_cons_succ]
    refine wpT_step (by rw [hops, List.getElem?_toArray]; rfl) (by first | rfl | (rw [hops]; rfl)) ?_
    intro K hK
    go_wp2_with fail
    try (with_reducible refine ⟨fun h => absurd h (by decide), ?_⟩)
    try rw [← hops]
    refine wpT_step (by rw [hops, List.getElem?_toArray]; rfl) (by first | rfl | (rw [hops]; rfl)) ?_
    intro K hK
    go_wp2_with fail
    try (with_reducible refine ⟨fun h => absurd h (by decide), ?_⟩)
    try rw [wpT_nil]
    try clear hops ops
    go_wp2_with fail
    go_ret
    exact ⟨rfl, HX.out⟩
  | false =>
    go_enter Try.func39, Try.ntmps39
    go_wp2_with fail
    refine wp_region_T (fun u => (u.cell? ⟨g, 0, none⟩ = some (.slice a l.length c) ∧ u.cell? ⟨g, 1, none⟩ = some (.int .i64 pos) ∧ u.cell? ⟨g, 2, none⟩ = some (.bool false)) ∧ Ext w u) 15 [(0, true), (1, true), (2, true), (3, true), (4, true), (5, true), (6, true), (7, true), (8, true), (9, true), (10, true), (11, true), (12, true), (13, true), (14, true), (15, false), (16, false), (17, false)] (by kernel_rfl) (by kernel_rfl) (by intro c a d v w h; cases d <;> exact h) ?_
    intro ops hops
    have HSS := keep0 HC.out
    iterate 15
      first
        | (refine wpT_take (v := ?_) (by rw [hops, List.getElem?_toArray]; rfl) (by first | rfl | (rw [hops]; rfl)) ?_ HSS ?_
           rotate_left
           · intro v h; go_simp; with_reducible rfl
           simp only [Act.put, List.getElem_toArray, List.getElem_cons_zero, List.getElem_cons_succ, List.setIfInBounds_toArray, List.set_cons_zero, List.set_cons_succ])
        | (refine wpT_pass (by rw [hops, List.getElem?_toArray]; rfl) (by first | rfl | (rw [hops]; rfl)) HSS ?_
           simp only [Act.put, List.getElem_toArray, List.getElem_cons_zero, List.getElem_cons_succ, List.setIfInBounds_toArray, List.set_cons_zero, List.set_cons_succ])
    have HX := hid HSS.2
    clear HSS
    refine wpT_step (by rw [hops, List.getElem?_toArray]; rfl) (by first | rfl | (rw [hops]; rfl)) ?_
    intro K hK
    go_wp2_with fail
    try (with_reducible refine ⟨fun h => absurd h (by decide), ?_⟩)
    try rw [← hops]
    refine wpT_step (by rw [hops, List.getElem?_toArray]; rfl) (by first | rfl | (rw [hops]; rfl)) ?_
    intro K hK
    go_wp2_with fail
    try (with_reducible refine ⟨fun h => absurd h (by decide), ?_⟩)
    try rw [← hops]
    refine wpT_step (by rw [hops, List.getElem?_toArray]; rfl) (by first | rfl | (rw [hops]; rfl)) ?_
    intro K hK
    go_wp2_with fail
    try (with_reducible refine ⟨fun h => absurd h (by decide), ?_⟩)
    try rw [wpT_nil]
    try clear hops ops
    go_wp2_with fail
    go_ret
    exact ⟨ret_bool (by rw [Bool.not_false, Bool.true_and, Bool.eq_iff_iff, beq_iff_eq, decide_eq_true_eq]; omega), HX.out⟩
/-- What a reader gives of the next bytes: the number, whether it is there, and where the reader stands then. -/
def digR (l : List UInt8) (size : Nat) (s : Nat × Bool) : UInt64 × Bool × (Nat × Bool) :=
  if s.2 = false ∧ s.1 + size ≤ l.length then (UInt64.ofNat (leV ((l.drop s.1).take size)), true, (s.1 + size, false)) else (0, false, (s.1, true))
def DigO (w : World) (g : Nat) (v : Value) (l : List UInt8) (r : UInt64 × Bool × (Nat × Bool)) (e : Ending) (w' : World) : Prop :=
  e = .returned (.tuple #[uv r.1, .bool r.2.1]) ∧ Rdr w' g v l r.2.2 ∧ Kp (fun k => k = g) w w'
set_option maxRecDepth 100000 in
set_option maxHeartbeats 3200000 in
theorem rdDigits_any (g : Nat) (v : Value) (l : List UInt8) (s : Nat × Bool) (size : Nat) (w : World) (h : Rdr w g v l s) (hs : size ≤ 8) :
    Calls Try.prog 53 #[.pointer (some ⟨g, 0, none⟩), .int .i64 (size : Int)] w (DigO w g v l (digR l size s)) := by
  obtain ⟨pos, f⟩ := s
  obtain ⟨a, c, rfl, -⟩ := ownsRow_rd h.own
  have H := hid h
  cases f with
  | true =>
    obtain ⟨R, hR⟩ : ∃ R, R = digR l size (pos, true) := ⟨_, rfl⟩
    have HR : Hid (R = (0, false, (pos, true))) := hid (by rw [hR]; unfold digR; rw [if_neg (by simp)])
    rw [← hR]
    obtain ⟨c0, c1, c2⟩ := h.cells
    have fz := frozen_of h.box
    clear h hR
    go_enter Try.func53, Try.ntmps53
    go_wp2_with fail
    go_ret2
    rw [HR.out]
    exact ⟨rfl, H.out.fail, (Kp.refl (fun k => k = g) _).setCell (p := ⟨g, 2, none⟩) (.inl rfl) _⟩
  | false =>
    have HLF := hid (rdLeft_any g _ l (pos, false) w h)
    have hle : pos ≤ l.length := h.le
    have hlen := h.len
    obtain ⟨R, hR⟩ : ∃ R, R = digR l size (pos, false) := ⟨_, rfl⟩
    rw [← hR]
    have HR := hid hR
    obtain ⟨c0, c1, c2⟩ := h.cells
    clear h hR
    go_enter Try.func53, Try.ntmps53
    go_wp2_with fail
    refine (HLF.out).mono ?_
    rintro e w1 ⟨rfl, hx⟩
    have HX := hid hx
    have H1 := hid (H.out.ext hx)
    clear HLF c0 c1 c2
    obtain ⟨c0, c1, c2⟩ := H1.out.cells
    have fz := frozen_of H1.out.box
    clear hx
    by_cases hlt : l.length - pos < size
    · have hltB : decide (((l.length - pos : Nat) : Int) < (size : Int)) = true := by simp; omega
      have HR1 : Hid (R = (0, false, (pos, true))) := hid (by rw [HR.out]; unfold digR; rw [if_neg (by simp; omega)])
      go_wp2_with fail
      go_ret2
      rw [HR1.out]
      exact ⟨rfl, H1.out.fail, ((Kp.refl (fun k => k = g) _).ext HX.out).setCell (p := ⟨g, 2, none⟩) (.inl rfl) _⟩
    · have hltB : decide (((l.length - pos : Nat) : Int) < (size : Int)) = false := by simp; omega
      have HR1 : Hid (R = (UInt64.ofNat (leV ((l.drop pos).take size)), true, (pos + size, false))) := hid (by rw [HR.out]; unfold digR; rw [if_pos (by simp; omega)])
      obtain ⟨part, hpart⟩ : ∃ part, part = (l.drop pos).take size := ⟨_, rfl⟩
      have hpl : part.length = size := by rw [hpart, List.length_take, List.length_drop]; omega
      have hps : pos + size ≤ l.length := by omega
      rw [← hpart] at HR1
      have HCE : Hid (∀ (i : Nat) (d : UInt8), part[i]? = some d → ∃ ab ao, a = some ⟨ab, ao, none⟩ ∧ l.length ≤ c ∧ ∀ u, Ext w1 u → u.cell? ⟨ab, ao + (pos + i), none⟩ = some (.int .u8 d.toNat)) := hid (by
        intro i d hd
        have hi : i < size := by have := (List.getElem?_eq_some_iff.1 hd).1; omega
        have hd' : l[pos + i]? = some d := by rw [hpart, List.getElem?_take_of_lt hi, List.getElem?_drop] at hd; exact hd
        obtain ⟨a', c', he, hlc, -, hnil, hc⟩ := H1.out.own.weak
        injection he with e1 e2 e3
        subst e1 e3
        cases a with
        | none => have := hnil rfl; have := (List.getElem?_eq_some_iff.1 hd').1; omega
        | some ad =>
          have h5 := hc _ rfl (pos + i) (.int .u8 d.toNat) (by simp [hd'])
          have h6 := add_spot h5
          have hsp : ad = ⟨ad.block, ad.off, none⟩ := by
            cases l with
            | nil => simp at hd'
            | cons y r => exact spot_none (hc ad rfl 0 (.int .u8 y.toNat) rfl)
          refine ⟨ad.block, ad.off, congrArg some hsp, hlc, fun u hu => ?_⟩
          rw [h6] at h5
          exact hu.cell_some h5)
      have HP := hid (And.intro hpart hpl)
      clear hpart hpl
      go_wp2_with fail
      go_loopw [6, 22] (fun nv iv wr => ∃ (i : Nat) (y : UInt64), i ≤ size ∧ iv = .int .i64 i ∧ nv = .int .u64 y.toNat ∧ Hid (y.toNat = leV (part.take i)) ∧ Hid (Ext w1 wr)) (fun _ iv _ => size - (intOf iv).toNat)
      case atStart => exact ⟨0, 0, by omega, rfl, rfl, hid (by simp [leV]), hid (Ext.refl _)⟩
      case round =>
        obtain ⟨i, y, hi, rfl, rfl, hy, HE⟩ := hrel
        clear c0 c1 c2 fz
        by_cases hlti : i < size
        · have hltI : decide ((i : Int) < (size : Int)) = true := by simp; omega
          obtain ⟨d, hd⟩ : ∃ d, part[i]? = some d := ⟨_, List.getElem?_eq_getElem (by have := HP.out.2; omega)⟩
          obtain ⟨ab, ao, rfl, hlc, hc⟩ := HCE.out i d hd
          have hi0 : (0 : Int) ≤ (i : Int) := Int.natCast_nonneg _
          have hi7 : (i : Int) < 8 := by omega
          have hlI : (l.length : Int) ≤ 10000000000 := by omega
          have hw : IntKind.i64.wrap ((pos : Int) + (i : Int)) = (pos : Int) + (i : Int) := by rw [IntKind.wrap_i64]; omega
          have hw8 : IntKind.i64.wrap (8 * (i : Int)) = 8 * (i : Int) := by rw [IntKind.wrap_i64]; omega
          have h80 : (0 : Int) ≤ 8 * (i : Int) := by omega
          have h864 : 8 * (i : Int) ≤ 64 := by omega
          have h8n : (8 * (i : Int)).toNat = 8 * i := by omega
          have hp0 : (0 : Int) ≤ (pos : Int) + (i : Int) := by omega
          have hpl : (pos : Int) + (i : Int) < (l.length : Int) := by omega
          have hpn : ((pos : Int) + (i : Int)).toNat = pos + i := by omega
          have hylt : y.toNat < 256 ^ i := by
            rw [hy.out]
            have := leV_lt (part.take i)
            rwa [List.length_take_of_le (by have := HP.out.2; omega)] at this
          obtain ⟨z, hz⟩ : ∃ z, z = UInt64.ofNat (y.toNat + d.toNat * 256 ^ i) := ⟨_, rfl⟩
          have hor := or_step y d i hylt (by omega)
          rw [← hz] at hor
          have HZ : Hid (z.toNat = leV (part.take (i + 1))) := hid (by
            rw [List.take_add_one, hd, Option.toList_some, leV_snoc, ← hy.out, hz, List.length_take_of_le (by have := HP.out.2; omega)]
            exact or_nat y d i hylt (by omega))
          have HC : Hid (∀ u, Ext wr u → u.cell? ⟨g, 0, none⟩ = some (.slice (some ⟨ab, ao, none⟩) l.length c) ∧ u.cell? ⟨g, 1, none⟩ = some (.int .i64 pos) ∧ u.cell? ⟨ab, ao + (pos + i), none⟩ = some (.int .u8 d.toNat)) := hid fun u k => ⟨((H1.out.ext (HE.out.trans k)).cells).1, ((H1.out.ext (HE.out.trans k)).cells).2.1, hc u (HE.out.trans k)⟩
          clear hd hylt hz hc
          go_wp2_with fail
          refine wp_region_T (fun u => (u.cell? ⟨g, 0, none⟩ = some (.slice (some ⟨ab, ao, none⟩) l.length c) ∧ u.cell? ⟨g, 1, none⟩ = some (.int .i64 pos) ∧ u.cell? ⟨ab, ao + (pos + i), none⟩ = some (.int .u8 d.toNat)) ∧ Ext wr u) 17 [(0, true), (1, true), (2, true), (3, true), (4, true), (5, true), (6, true), (7, true), (8, true), (9, true), (10, true), (11, true), (12, true), (13, true), (14, true), (15, true), (16, true), (17, false), (18, false)] (by kernel_rfl) (by kernel_rfl) (by intro c a d v w h; cases d <;> exact h) ?_
          intro ops hops
          have HSS := keep0 HC.out
          iterate 17
            refine wpT_take (v := ?_) (by rw [hops, List.getElem?_toArray]; rfl) (by first | rfl | (rw [hops]; rfl)) ?_ HSS ?_
            rotate_left
            · intro v h; go_simp; with_reducible rfl
            simp only [Act.put, List.getElem_toArray, List.getElem_cons_zero, List.getElem_cons_succ, List.setIfInBounds_toArray, List.set_cons_zero, List.set_cons_succ]
          have HX2 := hid (HE.out.trans HSS.2)
          clear HSS
          refine wpT_step (by rw [hops, List.getElem?_toArray]; rfl) (by first | rfl | (rw [hops]; rfl)) ?_
          intro K hK
          go_wp2_with fail
          try (with_reducible refine ⟨fun h => absurd h (by decide), ?_⟩)
          try rw [← hops]
          refine wpT_step (by rw [hops, List.getElem?_toArray]; rfl) (by first | rfl | (rw [hops]; rfl)) ?_
          intro K hK
          go_wp2_with fail
          try (with_reducible refine ⟨fun h => absurd h (by decide), ?_⟩)
          try rw [wpT_nil]
          try clear hops ops
          go_wp2_with fail
          go_roundw
          case rel => exact ⟨i + 1, z, by omega, by go_num, rfl, HZ, HX2⟩
          case measure => simp [intOf]; omega
        · have hie : i = size := by omega
          have hltI : decide ((i : Int) < (size : Int)) = false := by simp; omega
          have hyF : y = UInt64.ofNat (leV part) := by
            have := hy.out
            rw [hie, ← HP.out.2, List.take_length] at this
            rw [← this]; simp
          have HYF := hid hyF
          have H2 := hid (H1.out.ext HE.out)
          obtain ⟨c0, c1, c2⟩ := H2.out.cells
          have fz := frozen_of H2.out.box
          have hsum : (pos : Int) + (size : Int) = ((pos + size : Nat) : Int) := by omega
          have HSUM := hid hsum
          clear hyF hie hy hsum
          go_wp2_with fail
          go_ret2
          rw [HR1.out]
          refine ⟨by rw [HYF.out]; rfl, ?_, ?_⟩
          · rw [HSUM.out]
            exact H2.out.move (pos + size) hps
          · exact (((Kp.refl (fun k => k = g) _).ext HX.out).ext HE.out).setCell (p := ⟨g, 1, none⟩) (.inl rfl) _
/-! ## numbers -/
def uintR (l : List UInt8) (most : UInt64) (s : Nat × Bool) : UInt64 × (Nat × Bool) :=
  let r := digR l 8 s
  if r.2.1 = true ∧ r.1.toNat ≤ most.toNat then (r.1, r.2.2) else (0, (r.2.2.1, true))
def intR (l : List UInt8) (most : Nat) (s : Nat × Bool) : Nat × (Nat × Bool) :=
  let r := digR l 4 s
  if r.2.1 = true ∧ r.1.toNat ≤ most then (r.1.toNat, r.2.2) else (0, (r.2.2.1, true))
theorem digR_lt (l : List UInt8) (s : Nat × Bool) : (digR l 4 s).1.toNat < 4294967296 := by
  unfold digR
  split
  · have h1 := leV_lt ((l.drop s.1).take 4)
    have h2 : 256 ^ ((l.drop s.1).take 4).length ≤ 256 ^ 4 := Nat.pow_le_pow_right (by decide) (by rw [List.length_take]; omega)
    have h3 : (256 : Nat) ^ 4 = 4294967296 := by decide
    show (UInt64.ofNat _).toNat < _
    rw [UInt64.toNat_ofNat']
    omega
  · exact (by decide : (0 : UInt64).toNat < 4294967296)
def UintO (w : World) (g : Nat) (v : Value) (l : List UInt8) (r : UInt64 × (Nat × Bool)) (e : Ending) (w' : World) : Prop := e = .returned (uv r.1) ∧ Rdr w' g v l r.2 ∧ Kp (fun k => k = g) w w'
def IntO (w : World) (g : Nat) (v : Value) (l : List UInt8) (r : Nat × (Nat × Bool)) (e : Ending) (w' : World) : Prop := e = .returned (.int .i64 (r.1 : Int)) ∧ Rdr w' g v l r.2 ∧ Kp (fun k => k = g) w w'
set_option maxRecDepth 100000 in
set_option maxHeartbeats 3200000 in
theorem rdUint_any (g : Nat) (v : Value) (l : List UInt8) (s : Nat × Bool) (most : UInt64) (w : World) (h : Rdr w g v l s) :
    Calls Try.prog 35 #[.pointer (some ⟨g, 0, none⟩), .int .u64 (most.toNat : Int)] w (UintO w g v l (uintR l most s)) := by
  have HD := hid (rdDigits_any g v l s 8 w h (by omega))
  have HU : Hid (uintR l most s = if (digR l 8 s).2.1 = true ∧ (digR l 8 s).1.toNat ≤ most.toNat then ((digR l 8 s).1, (digR l 8 s).2.2) else (0, ((digR l 8 s).2.2.1, true))) := hid rfl
  generalize uintR l most s = R at *
  generalize digR l 8 s = r at *
  obtain ⟨n, ok, t⟩ := r
  obtain ⟨a, c, rfl, -⟩ := ownsRow_rd h.own
  clear h
  go_enter Try.func35, Try.ntmps35
  go_wp2_with fail
  refine (HD.out).mono ?_
  rintro e w1 ⟨rfl, h1, hk⟩
  obtain ⟨c0, c1, c2⟩ := h1.cells
  have fz := frozen_of h1.box
  have H1 := hid h1
  have HK := hid hk
  clear h1 hk HD
  cases ok with
  | false =>
    have HR : Hid (R = (0, (t.1, true))) := hid (by rw [HU.out]; simp)
    go_wp2_with fail
    go_ret
    rw [HR.out]
    exact ⟨rfl, H1.out.fail, HK.out.setCell (p := ⟨g, 2, none⟩) (.inl rfl) _⟩
  | true =>
    by_cases hle : n.toNat ≤ most.toNat
    · have HR : Hid (R = (n, t)) := hid (by rw [HU.out]; simp [hle])
      have hgt : decide ((most.toNat : Int) < (n.toNat : Int)) = false := by simp; omega
      go_wp2_with fail
      go_ret
      rw [HR.out]
      exact ⟨rfl, H1.out, HK.out⟩
    · have HR : Hid (R = (0, (t.1, true))) := hid (by rw [HU.out]; simp [hle])
      have hgt : decide ((most.toNat : Int) < (n.toNat : Int)) = true := by simp; omega
      go_wp2_with fail
      go_ret
      rw [HR.out]
      exact ⟨rfl, H1.out.fail, HK.out.setCell (p := ⟨g, 2, none⟩) (.inl rfl) _⟩
set_option maxRecDepth 100000 in
set_option maxHeartbeats 3200000 in
theorem rdInt_any (g : Nat) (v : Value) (l : List UInt8) (s : Nat × Bool) (most : Nat) (w : World) (h : Rdr w g v l s) :
    Calls Try.prog 36 #[.pointer (some ⟨g, 0, none⟩), .int .i64 (most : Int)] w (IntO w g v l (intR l most s)) := by
  have HD := hid (rdDigits_any g v l s 4 w h (by omega))
  have hn := digR_lt l s
  have HU : Hid (intR l most s = if (digR l 4 s).2.1 = true ∧ (digR l 4 s).1.toNat ≤ most then ((digR l 4 s).1.toNat, (digR l 4 s).2.2) else (0, ((digR l 4 s).2.2.1, true))) := hid rfl
  generalize intR l most s = R at *
  generalize digR l 4 s = r at *
  obtain ⟨n, ok, t⟩ := r
  have hn2 : n.toNat < 4294967296 := hn
  have hw : IntKind.i64.wrap (n.toNat : Int) = (n.toNat : Int) := by rw [IntKind.wrap_i64]; omega
  clear hn
  obtain ⟨a, c, rfl, -⟩ := ownsRow_rd h.own
  clear h
  go_enter Try.func36, Try.ntmps36
  go_wp2_with fail
  refine (HD.out).mono ?_
  rintro e w1 ⟨rfl, h1, hk⟩
  obtain ⟨c0, c1, c2⟩ := h1.cells
  have fz := frozen_of h1.box
  have H1 := hid h1
  have HK := hid hk
  clear h1 hk HD
  cases ok with
  | false =>
    have HR : Hid (R = (0, (t.1, true))) := hid (by rw [HU.out]; simp)
    go_wp2_with fail
    go_ret
    rw [HR.out]
    exact ⟨rfl, H1.out.fail, HK.out.setCell (p := ⟨g, 2, none⟩) (.inl rfl) _⟩
  | true =>
    by_cases hle : n.toNat ≤ most
    · have HR : Hid (R = (n.toNat, t)) := hid (by rw [HU.out]; simp [hle])
      have hgt : decide ((most : Int) < (n.toNat : Int)) = false := by simp; omega
      go_wp2_with fail
      go_ret
      rw [HR.out]
      exact ⟨rfl, H1.out, HK.out⟩
    · have HR : Hid (R = (0, (t.1, true))) := hid (by rw [HU.out]; simp [hle])
      have hgt : decide ((most : Int) < (n.toNat : Int)) = true := by simp; omega
      go_wp2_with fail
      go_ret
      rw [HR.out]
      exact ⟨rfl, H1.out.fail, HK.out.setCell (p := ⟨g, 2, none⟩) (.inl rfl) _⟩
/-! ## what was written is read (plain) -/
theorem leV_leB : ∀ (n : Nat) (x : UInt64), leV (leB n x) = x.toNat % 256 ^ n
  | 0, x => by simp [leB, leV, Nat.mod_one]
  | n + 1, x => by
    rw [leB, leV, leV_leB n, UInt64.toNat_toUInt8, UInt64.toNat_div]
    have e : 256 ^ (n + 1) = 256 * 256 ^ n := by rw [Nat.pow_succ, Nat.mul_comm]
    rw [e, Nat.mod_mul]
    rfl
theorem digR_leB {l m : List UInt8} {n p : Nat} {x : UInt64} (h : l.drop p = leB n x ++ m) (hp : p ≤ l.length) (hx : x.toNat < 256 ^ n) : digR l n (p, false) = (x, true, (p + n, false)) := by
  have h1 := congrArg List.length h
  rw [List.length_drop, List.length_append, leB_length] at h1
  unfold digR
  rw [if_pos ⟨rfl, by show p + n ≤ l.length; omega⟩]
  show (UInt64.ofNat (leV ((l.drop p).take n)), true, (p + n, false)) = _
  rw [h, List.take_left' (leB_length n x), leV_leB, Nat.mod_eq_of_lt hx, UInt64.ofNat_toNat]
theorem drop_leB {l m : List UInt8} {n p : Nat} {x : UInt64} (h : l.drop p = leB n x ++ m) : l.drop (p + n) = m := by
  rw [← List.drop_drop, h, List.drop_left' (leB_length n x)]
theorem uintR_leB {l m : List UInt8} {p : Nat} {x most : UInt64} (h : l.drop p = leB 8 x ++ m) (hp : p ≤ l.length) (hx : x.toNat ≤ most.toNat) : uintR l most (p, false) = (x, (p + 8, false)) := by
  unfold uintR
  rw [digR_leB h hp (by have := x.toNat_lt; omega)]
  exact if_pos ⟨rfl, hx⟩
theorem lenU_toNat {n : Nat} (h : n ≤ 4294967295) : (lenU (n : Int)).toNat = n := by
  unfold lenU
  rw [if_pos (by omega), UInt64.toNat_ofNat']
  omega
theorem intR_lenB {l m : List UInt8} {p n most : Nat} (h : l.drop p = lenB (n : Int) ++ m) (hp : p ≤ l.length) (hn : n ≤ 4294967295) (hx : n ≤ most) : intR l most (p, false) = (n, (p + 4, false)) := by
  unfold intR
  rw [lenB_U] at h
  rw [digR_leB h hp (by rw [lenU_toNat hn]; have : (256 : Nat) ^ 4 = 4294967296 := by decide
                        omega)]
  show (if true = true ∧ (lenU (n : Int)).toNat ≤ most then ((lenU (n : Int)).toNat, (p + 4, false)) else _) = _
  rw [lenU_toNat hn, if_pos ⟨rfl, hx⟩]
end Go.Proofs.Ytkdnnekdldomeaa
