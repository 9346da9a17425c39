/- The envelope package: key, Seal, Open; an oracle's Seal and Open, real or ideal. -/
import Derived.Test.YtgfmjfkdogcnhaaGreatExt
import Derived.Test.YtgfmjfkdogcnhaaGreatNoteV
import Derived.Test.YtgfmjfkdogcnhaaGreatSealI
import Derived.Test.YtgfmjfkdogcnhaaGreatSealRO
set_option linter.unusedSimpArgs false
namespace Go.Proofs.YtgfmjfkdogcnhaaGreat
open Go.RowKit
attribute [local irreducible] perm fAdd fMul fPow fSub fNeg fRed hashU drawOf nextState
theorem OrcTo.far {w w' : World} {b : Nat} {M : Orc} {F F' : Nat → Prop} (h : OrcTo w b F M w' F') {g : Nat} (hg : g < w.heap.size) (hF : ¬ F g) : ¬ F' g := fun hf => by
  rcases h.new g hf with h1 | h1
  · exact hF h1
  · omega
theorem OrcTo.other {G : Nat → Prop} {w w' w'' : World} {b : Nat} {M : Orc} {F F' : Nat → Prop} (h : OrcTo w b F M w' F') (k : Kp G w' w'') (hG : ∀ i, G i → ¬ F' i ∧ w.heap.size ≤ i) : OrcTo w b F M w'' F' :=
  ⟨h.at'.kp k fun i hi hg => (hG i hg).1 hi, ⟨k.os.trans h.kp.os, k.tape.trans h.kp.tape, k.output.trans h.kp.output, Nat.le_trans h.kp.size k.size, fun i hi hF => (k.block i (Nat.lt_of_lt_of_le hi h.kp.size) fun hg => by have := (hG i hg).2; omega).trans (h.kp.block i hi hF)⟩, h.new, h.old⟩
/-! ## Seal and Open of an oracle -/
def Orc.sealT (M : Orc) (k nc : UInt64) (l : List UInt64) : List UInt64 × Orc := if M.ideal then M.sealI k nc l else (if cipE k nc l then cipSeal k nc l else [], M)
def openI (ss : List Sl) (k nc : UInt64) (l : List UInt64) : List UInt64 × Bool := (((findS ss k nc l).map (·.plain)).getD [], (findS ss k nc l).isSome)
def Orc.openT (M : Orc) (k nc : UInt64) (l : List UInt64) : List UInt64 × Bool := if M.ideal then openI M.seals k nc l else cipOpen k nc l
theorem sealT_any {w : World} {b : Nat} {M : Orc} {F : Nat → Prop} {key nonce : UInt64} {pv : Value} {plain : List UInt64} (h : OrcAt w b M F) (hl : RdU w pv plain) (hlf : ∀ k, blk pv = some k → plain ≠ [] → ¬ F k)
    (hL : plain.length ≤ 100000000) (hd : M.draws + plain.length + 1 ≤ 1000000000000) :
    Calls Tryz.prog 53 #[.pointer (some ⟨b, 0, none⟩), uv key, uv nonce, pv] w (SealO w b F (M.sealT key nonce plain)) := by
  unfold Orc.sealT
  cases hI : M.ideal with
  | true => exact Seal_ideal_w h hI hl hlf hL hd
  | false => exact Seal_real h hI hl hL
theorem openT_any {w : World} {b : Nat} {M : Orc} {F : Nat → Prop} {key nonce : UInt64} {lv : Value} {l : List UInt64} (h : OrcAt w b M F) (hl : RdU w lv l) (hL : l.length ≤ 100000000) (hP : ∀ s ∈ M.seals, s.plain.length ≤ 1000000000000) :
    Calls Tryz.prog 21 #[.pointer (some ⟨b, 0, none⟩), uv key, uv nonce, lv] w (OpenC w (M.openT key nonce l)) := by
  unfold Orc.openT
  cases hI : M.ideal with
  | true =>
    refine (Open_ideal h hI hl (by omega) hP).mono ?_
    rintro e w' ⟨v, rfl, h1, h2, h3⟩
    exact ⟨v, rfl, h1, h2, h3⟩
  | false => exact Open_real h hI hl hL
/-! ## the key -/
def envKey (s q : E2) : UInt64 := hashU 11 [s.a, s.b, q.a, q.b]
set_option maxRecDepth 100000 in
set_option maxHeartbeats 1600000 in
theorem envKey_any (s q : E2) (w : World) : Calls Tryz.prog 51 #[s.v, q.v] w fun e w' => e = .returned (uv (envKey s q)) ∧ Ext w w' := by
  obtain ⟨N, hN⟩ : ∃ N, N = w.heap.size := ⟨_, rfl⟩
  obtain ⟨w0, hw0⟩ : ∃ w0, w0 = (w.alloc s.o).alloc q.o := ⟨_, rfl⟩
  have hx0 : Ext w w0 := by rw [hw0]; exact ((Ext.refl w).alloc _).alloc _
  have hb0 : w0.heap[N]? = some s.o := by rw [hw0, hN]; exact heap_alloc_some (heap_new _ _)
  have hb1 : w0.heap[N + 1]? = some q.o := by
    rw [hw0, hN]
    have := heap_new (w.alloc s.o) q.o
    simpa using this
  obtain ⟨c0, c1⟩ := two_cells hb0
  obtain ⟨c2, c3⟩ := two_cells hb1
  have HW := hid hw0
  have HX0 := hid hx0
  have hrd : RdU (w0.alloc (.cells #[uv s.a, uv s.b, uv q.a, uv q.b] 22)) (.slice (some ⟨w0.heap.size, 0, none⟩) 4 4) [s.a, s.b, q.a, q.b] := (RdC.block (heap_new w0 _) (n := 4) (by unfold maxLen; omega)).rdu rfl
  have HH := hid (Hash_any _ big_isE 11 _ [s.a, s.b, q.a, q.b] _ hrd (by simp))
  obtain ⟨k, hk⟩ : ∃ k, k = envKey s q := ⟨_, rfl⟩
  have hk2 : hashU 11 [s.a, s.b, q.a, q.b] = k := by rw [hk]; rfl
  rw [hk2] at HH
  rw [← hk]
  clear hw0 hx0 hb0 hb1 hrd hk hk2
  go_enter Tryz.func51, Tryz.ntmps51
  go_upto_region 1 with fail
  rw [← HW.out, ← hN]
  clear hN
  go_wp2_with fail
  refine (HH.out).mono ?_
  rintro e w1 ⟨rfl, hx⟩
  have HX1 := hid ((HX0.out.alloc _).trans hx)
  clear hx c0 c1 c2 c3 HH
  go_wp2_with fail
  go_ret
  exact ⟨rfl, HX1.out⟩
/-! ## Open -/
def pick2 : List UInt64 × Bool → UInt64 × UInt64 × Bool
  | ([a, b], true) => (a, b, true)
  | _ => (0, 0, false)
theorem pick2_no (l : List UInt64) : pick2 (l, false) = (0, 0, false) := by
  unfold pick2
  split
  · next h => cases h
  · rfl
theorem pick2_len {l : List UInt64} {ok : Bool} (h : l.length ≠ 2) : pick2 (l, ok) = (0, 0, false) := by
  unfold pick2
  split
  · next h' => injection h' with h1 h2; subst h1; exact absurd rfl h
  · rfl
def Orc.envOpen (M : Orc) (view : UInt64) (pt : E2) (c : List UInt64) : UInt64 × UInt64 × Bool := if validP pt then pick2 (M.openT (envKey (pShared pt view) pt) 0 c) else (0, 0, false)
def r3 (r : UInt64 × UInt64 × Bool) : Value := .tuple #[uv r.1, uv r.2.1, .bool r.2.2]
theorem four_cells {w : World} {b : Nat} {c0 c1 c2 c3 : Value} {T : TypeId} (h : w.heap[b]? = some (.cells #[c0, c1, c2, c3] T (0, 0))) :
    w.cell? ⟨b, 0, none⟩ = some c0 ∧ w.cell? ⟨b, 1, none⟩ = some c1 ∧ w.cell? ⟨b, 2, none⟩ = some c2 ∧ w.cell? ⟨b, 3, none⟩ = some c3 := ⟨cell_of h 0, cell_of h 1, cell_of h 2, cell_of h 3⟩
set_option maxRecDepth 100000 in
set_option maxHeartbeats 3200000 in
theorem envOpen_any {w : World} {b : Nat} {M : Orc} {F : Nat → Prop} {view commit : UInt64} {pt : E2} {cv : Value} {c : List UInt64} (h : OrcAt w b M F) (hc : RdU w cv c) (hL : c.length ≤ 100000000) (hP : ∀ s ∈ M.seals, s.plain.length ≤ 1000000000000) :
    Calls Tryz.prog 25 #[.pointer (some ⟨b, 0, none⟩), uv view, .agg #[uv commit, uv pt.a, uv pt.b, cv]] w fun e w' => e = .returned (r3 (M.envOpen view pt c)) ∧ Ext w w' := by
  obtain ⟨ca, cc, rfl, -⟩ := id hc
  obtain ⟨N, hN⟩ : ∃ N, N = w.heap.size := ⟨_, rfl⟩
  obtain ⟨w0, hw0⟩ : ∃ w0, w0 = w.alloc (.cells #[uv commit, uv pt.a, uv pt.b, .slice ca c.length cc] 28) := ⟨_, rfl⟩
  have hx0 : Ext w w0 := by rw [hw0]; exact (Ext.refl w).alloc _
  have hb0 : w0.heap[N]? = some (.cells #[uv commit, uv pt.a, uv pt.b, .slice ca c.length cc] 28 (0, 0)) := by rw [hw0, hN]; exact heap_new _ _
  have H : Hid (∀ v, Ext w0 v → (v.cell? ⟨N, 0, none⟩ = some (uv commit) ∧ v.cell? ⟨N, 1, none⟩ = some (uv pt.a) ∧ v.cell? ⟨N, 2, none⟩ = some (uv pt.b) ∧ v.cell? ⟨N, 3, none⟩ = some (.slice ca c.length cc))) := hid fun v k => four_cells (k.heap_some hb0)
  have HW := hid hw0
  have HX0 := hid hx0
  have HH := hid h
  have HC := hid hc
  have HP := hid hP
  obtain ⟨c0, c1, c2, c3⟩ := H.out w0 (Ext.refl _)
  obtain ⟨res, hres⟩ : ∃ res, res = M.envOpen view pt c := ⟨_, rfl⟩
  rw [← hres]
  have HRES := hid hres
  clear hw0 hx0 hb0 h hc hP hres
  go_enter Tryz.func25, Tryz.ntmps25
  go_upto_region 1 with fail
  rw [← HW.out, ← hN]
  clear hN
  go_wp2_with fail
  refine (pValid_any pt _).mono ?_
  rintro e w1 ⟨rfl, hx⟩
  have HX1 := hid hx
  clear hx c0 c1 c2 c3
  cases hv : validP pt with
  | false =>
    have hr : res = (0, 0, false) := by rw [HRES.out]; unfold Orc.envOpen; rw [hv]; rfl
    subst hr
    clear hv
    go_wp2_with fail
    exact bodyPost_ret (v := .tuple #[uv 0, uv 0, .bool false]) (by simp [results, Tryz.results25, go_sem]) rfl ⟨rfl, HX0.out.trans HX1.out⟩
  | true =>
    have hr : res = pick2 (M.openT (envKey (pShared pt view) pt) 0 c) := by rw [HRES.out]; unfold Orc.envOpen; rw [hv]; rfl
    have HR := hid hr
    clear hv hr HRES
    have H1 : Hid (∀ v, Ext w1 v → (v.cell? ⟨N, 0, none⟩ = some (uv commit) ∧ v.cell? ⟨N, 1, none⟩ = some (uv pt.a) ∧ v.cell? ⟨N, 2, none⟩ = some (uv pt.b) ∧ v.cell? ⟨N, 3, none⟩ = some (.slice ca c.length cc))) := hid fun v k => H.out v (HX1.out.trans k)
    go_wp2_with fail
    refine wp_region_T (fun v => (v.cell? ⟨N, 0, none⟩ = some (uv commit) ∧ v.cell? ⟨N, 1, none⟩ = some (uv pt.a) ∧ v.cell? ⟨N, 2, none⟩ = some (uv pt.b) ∧ v.cell? ⟨N, 3, none⟩ = some (.slice ca c.length cc)) ∧ Ext w1 v) 6 [(0, true), (1, true), (2, true), (4, true), (5, true), (3, false), (6, false), (7, false)] (by kernel_rfl) (by kernel_rfl) (by intro c a d v w h; cases d <;> exact h) ?_
    intro ops hops
    have HS := keep0 H1.out
    iterate 5
      refine wpT_take (v := ?_) (by rw [hops, List.getElem?_toArray]; rfl) (by first | rfl | (rw [hops]; rfl)) ?_ HS ?_
      rotate_left
      · intro v h; go_simp; with_reducible rfl
      simp only [Act.put, List.getElem_toArray, List.getElem_cons_zero, List.getElem_cons_succ, List.setIfInBounds_toArray, List.set_cons_zero, List.set_cons_succ]
    refine wpT_step (by rw [hops, List.getElem?_toArray]; rfl) (by first | rfl | (rw [hops]; rfl)) ?_
    intro K hK
    go_wp2_with fail
    refine (Shared_any pt view _).mono ?_
    rintro e w2 ⟨rfl, hx⟩
    have HS1 := keepE H1.out HS hx
    clear HS hx
    refine hK _ _ ⟨fun _ => HS1, ?_⟩
    clear hK K
    refine wpT_step (by rw [hops, List.getElem?_toArray]; rfl) (by first | rfl | (rw [hops]; rfl)) ?_
    intro K hK
    go_wp2_with fail
    refine (envKey_any (pShared pt view) pt _).mono ?_
    rintro e w3 ⟨rfl, hx⟩
    have HX3 := hid (HX1.out.trans (HS1.2.trans hx))
    clear HS1 hx
    refine hK _ _ ⟨fun h => absurd h (by decide), ?_⟩
    clear hK K
    refine wpT_step (by rw [hops, List.getElem?_toArray]; rfl) (by first | rfl | (rw [hops]; rfl)) ?_
    intro K hK
    go_wp2_with fail
    try (with_reducible refine ⟨fun h => absurd h (by decide), ?_⟩)
    try rw [wpT_nil]
    try clear hops ops
    generalize envKey (pShared pt view) pt = k at *
    obtain ⟨c0, c1, c2, c3⟩ := H.out w3 HX3.out
    have HO := hid (openT_any (key := k) (nonce := 0) (HH.out.ext (HX0.out.trans HX3.out)) (HC.out.ext (HX0.out.trans HX3.out)) hL HP.out)
    generalize M.openT k 0 c = r at *
    obtain ⟨l, ok⟩ := r
    go_wp2_with fail
    refine (HO.out).mono ?_
    rintro e w4 ⟨v, rfl, hown, hx, -⟩
    simp only at hown ⊢
    obtain ⟨la, lc, rfl, -⟩ := ownsRow_rd hown
    have HX4 := hid (HX3.out.trans hx)
    have HOW := hid hown.rdu
    clear c0 c1 c2 c3 hown hx HO
    cases ok with
    | false =>
      have hr := HR.out
      rw [pick2_no] at hr
      subst hr
      clear HR
      go_wp2_with fail
      exact bodyPost_ret (v := .tuple #[uv 0, uv 0, .bool false]) (by simp [results, Tryz.results25, go_sem]) rfl ⟨rfl, HX0.out.trans HX4.out⟩
    | true =>
      by_cases hlen : l.length = 2
      case neg =>
        have hl2 : ((l.length : Int) != 2) = true := by simp; omega
        have hr := HR.out
        rw [pick2_len hlen] at hr
        subst hr
        clear HR hlen
        go_wp2_with fail
        exact bodyPost_ret (v := .tuple #[uv 0, uv 0, .bool false]) (by simp [results, Tryz.results25, go_sem]) rfl ⟨rfl, HX0.out.trans HX4.out⟩
      obtain ⟨x, y, rfl⟩ : ∃ x y, l = [x, y] := by
        match l, hlen with
        | [x, y], _ => exact ⟨x, y, rfl⟩
      have hr : res = (x, y, true) := HR.out
      subst hr
      simp only [List.length_cons, List.length_nil, Nat.zero_add, Nat.reduceAdd] at HOW ⊢
      obtain ⟨lb, lo, rfl, hcx⟩ := HOW.out.at (show ([x, y] : List UInt64)[0]? = some x from rfl)
      obtain ⟨lb', lo', he, hcy⟩ := HOW.out.at (show ([x, y] : List UInt64)[1]? = some y from rfl)
      injection he with he
      injection he with he1 he2
      subst he1 he2
      have HCC := hid (fun (v : World) (k : Ext w4 v) => And.intro (k.cell_some hcx) (k.cell_some hcy))
      clear HR hlen hcx hcy
      go_wp2_with fail
      refine wp_region_T (fun v => (v.cell? ⟨lb, lo, none⟩ = some (uv x) ∧ v.cell? ⟨lb, lo + 1, none⟩ = some (uv y)) ∧ Ext w4 v) 7 [(0, true), (1, true), (2, true), (3, true), (4, true), (5, true), (6, true), (7, false), (8, false)] (by kernel_rfl) (by kernel_rfl) (by intro c a d v w h; cases d <;> exact h) ?_
      intro ops hops
      have HS := keep0 HCC.out
      iterate 7
        refine wpT_take (v := ?_) (by rw [hops, List.getElem?_toArray]; rfl) (by first | rfl | (rw [hops]; rfl)) ?_ HS ?_
        rotate_left
        · intro v h; go_simp; with_reducible rfl
        simp only [Act.put, List.getElem_toArray, List.getElem_cons_zero, List.getElem_cons_succ, List.setIfInBounds_toArray, List.set_cons_zero, List.set_cons_succ]
      clear HS
      refine wpT_step (by rw [hops, List.getElem?_toArray]; rfl) (by first | rfl | (rw [hops]; rfl)) ?_
      intro K hK
      go_wp2_with fail
      try (with_reducible refine ⟨fun h => absurd h (by decide), ?_⟩)
      try rw [← hops]
      refine wpT_step (by rw [hops, List.getElem?_toArray]; rfl) (by first | rfl | (rw [hops]; rfl)) ?_
      intro K hK
      go_wp2_with fail
      try (with_reducible refine ⟨fun h => absurd h (by decide), ?_⟩)
      try rw [wpT_nil]
      try clear hops ops
      go_wp2_with fail
      exact bodyPost_ret (v := .tuple #[uv x, uv y, .bool true]) (by simp [results, Tryz.results25, go_sem]) rfl ⟨rfl, (HX0.out.trans HX4.out).drew⟩
/-! ## Seal -/
def Orc.envSeal (M : Orc) (a : E2) (n : Nt) (e : UInt64) : (E2 × List UInt64) × Orc :=
  if validP a && n.ok then ((pPublic e, (M.sealT (envKey (pShared a e) (pPublic e)) 0 [n.value, n.blind]).1), (M.sealT (envKey (pShared a e) (pPublic e)) 0 [n.value, n.blind]).2) else ((⟨0, 0⟩, []), M)
def EnvSealO (w : World) (b : Nat) (F : Nat → Prop) (r : (E2 × List UInt64) × Orc) (e : Ending) (w' : World) : Prop :=
  ∃ v F', e = .returned (.tuple #[r.1.1.v, v]) ∧ OwnU w' v r.1.2 ∧ OrcTo w b F r.2 w' F' ∧ ∀ k, blk v = some k → w.heap.size ≤ k ∧ ¬ F' k
abbrev nvl (n : Nt) : Value := .agg #[uv n.value, uv n.owner, uv n.rho, uv n.blind]
set_option maxRecDepth 100000 in
set_option maxHeartbeats 6400000 in
theorem envSeal_any {w : World} {b : Nat} {M : Orc} {F : Nat → Prop} {num : Int} {owner : UInt64} {a : E2} {n : Nt} {ex : UInt64} (h : OrcAt w b M F) (hd : M.draws ≤ 1000000000) :
    Calls Tryz.prog 20 #[.pointer (some ⟨b, 0, none⟩), .agg #[.int .i64 num, uv owner, uv a.a, uv a.b], nvl n, uv ex] w (EnvSealO w b F (M.envSeal a n ex)) := by
  obtain ⟨N, hN⟩ : ∃ N, N = w.heap.size := ⟨_, rfl⟩
  obtain ⟨w0, hw0⟩ : ∃ w0, w0 = ((w.alloc (.cells #[.int .i64 num, uv owner, uv a.a, uv a.b] 51)).alloc (.cells #[uv n.value, uv n.owner, uv n.rho, uv n.blind] 42)).alloc zero2 := ⟨_, rfl⟩
  have hx0 : Ext w w0 := by rw [hw0]; exact (((Ext.refl w).alloc _).alloc _).alloc _
  have hb0 : w0.heap[N]? = some (.cells #[.int .i64 num, uv owner, uv a.a, uv a.b] 51 (0, 0)) := by rw [hw0, hN]; exact heap_alloc_some (heap_alloc_some (heap_new _ _))
  have hb1 : w0.heap[N + 1]? = some (.cells #[uv n.value, uv n.owner, uv n.rho, uv n.blind] 42 (0, 0)) := by
    rw [hw0, hN]
    refine heap_alloc_some ?_
    have := heap_new (w.alloc (.cells #[.int .i64 num, uv owner, uv a.a, uv a.b] 51)) (.cells #[uv n.value, uv n.owner, uv n.rho, uv n.blind] 42)
    simpa using this
  have hb2 : w0.heap[N + 1 + 1]? = some zero2 := by
    rw [hw0, hN]
    have := heap_new ((w.alloc (.cells #[.int .i64 num, uv owner, uv a.a, uv a.b] 51)).alloc (.cells #[uv n.value, uv n.owner, uv n.rho, uv n.blind] 42)) zero2
    simpa using this
  have HA : Hid (∀ v, Ext w0 v → (v.cell? ⟨N, 0, none⟩ = some (.int .i64 num) ∧ v.cell? ⟨N, 1, none⟩ = some (uv owner) ∧ v.cell? ⟨N, 2, none⟩ = some (uv a.a) ∧ v.cell? ⟨N, 3, none⟩ = some (uv a.b))) := hid fun v k => four_cells (k.heap_some hb0)
  have HNT : Hid (∀ v, Ext w0 v → (v.cell? ⟨N + 1, 0, none⟩ = some (uv n.value) ∧ v.cell? ⟨N + 1, 1, none⟩ = some (uv n.owner) ∧ v.cell? ⟨N + 1, 2, none⟩ = some (uv n.rho) ∧ v.cell? ⟨N + 1, 3, none⟩ = some (uv n.blind))) := hid fun v k => four_cells (k.heap_some hb1)
  have HW := hid hw0
  have HX0 := hid hx0
  have HB2 := hid hb2
  have HH := hid h
  have HN := hid hN
  have HD := hid hd
  obtain ⟨c0, c1, c2, c3⟩ := HA.out w0 (Ext.refl _)
  obtain ⟨res, hres⟩ : ∃ res, res = M.envSeal a n ex := ⟨_, rfl⟩
  rw [← hres]
  have HRES := hid hres
  clear hw0 hx0 hb0 hb1 hb2 h hres hd
  go_enter Tryz.func20, Tryz.ntmps20
  go_upto_region 1 with fail
  rw [← HW.out, ← hN]
  clear hN
  go_wp2_with fail
  refine (pValid_any a _).mono ?_
  rintro e w1 ⟨rfl, hx⟩
  have HX1 := hid hx
  clear hx c0 c1 c2 c3
  -- the bad ways
  have HBAD : Hid (∀ w2 : World, Ext w0 w2 → res = ((⟨0, 0⟩, []), M) → EnvSealO w b F res (.returned (.tuple #[.agg #[.int .u64 0, .int .u64 0], .slice none 0 0])) ((w2.setCell ⟨N + 1 + 1, 0, none⟩ (.int .u64 0)).setCell ⟨N + 1 + 1, 1, none⟩ (.int .u64 0)) ∧
      (w2.cell? ⟨N + 1 + 1, 0, none⟩ = some (.int .u64 0) ∧ w2.cell? ⟨N + 1 + 1, 1, none⟩ = some (.int .u64 0) ∧ ∀ o, w2.frozen? ⟨N + 1 + 1, o, none⟩ = false) ∧
      (((w2.setCell ⟨N + 1 + 1, 0, none⟩ (.int .u64 0)).setCell ⟨N + 1 + 1, 1, none⟩ (.int .u64 0)).cell? ⟨N + 1 + 1, 0, none⟩ = some (.int .u64 0) ∧ ((w2.setCell ⟨N + 1 + 1, 0, none⟩ (.int .u64 0)).setCell ⟨N + 1 + 1, 1, none⟩ (.int .u64 0)).cell? ⟨N + 1 + 1, 1, none⟩ = some (.int .u64 0))) := hid fun w2 k hr => by
    have hb := k.heap_some HB2.out
    obtain ⟨hb9, hk9⟩ := two_set (d0 := .int .u64 0) (d1 := .int .u64 0) hb
    refine ⟨?_, ⟨(two_cells hb).1, (two_cells hb).2, frozen_of hb⟩, two_cells hb9⟩
    rw [hr]
    exact ⟨.slice none 0 0, F, rfl, World.ownsRow_nil _ _ _ _, .of_ext HH.out ((HX0.out.trans k).kp hk9 (fun k h => by have := HN.out; omega)), fun k h => by cases h⟩
  cases hv : validP a with
  | false =>
    have hr : res = ((⟨0, 0⟩, []), M) := by rw [HRES.out]; unfold Orc.envSeal; rw [hv]; rfl
    have HF := hid (HBAD.out w1 HX1.out hr)
    obtain ⟨k0, k1, kf⟩ := HF.out.2.1
    clear hv hr
    go_wp2_with fail
    obtain ⟨hfin, -, r0, r1⟩ := HF.out
    generalize (w1.setCell ⟨N + 1 + 1, 0, none⟩ (.int .u64 0)).setCell ⟨N + 1 + 1, 1, none⟩ (.int .u64 0) = W at *
    exact bodyPost_ret (v := .tuple #[.agg #[.int .u64 0, .int .u64 0], .slice none 0 0]) (by simp [results, Tryz.results20, go_sem, r0, r1]) rfl hfin
  | true =>
    have HV := hid hv
    obtain ⟨c0, c1, c2, c3⟩ := HNT.out w1 HX1.out
    clear hv
    go_wp2_with fail
    refine (noteValid_any n _).mono ?_
    rintro e w2 ⟨rfl, hx⟩
    have HX2 := hid (HX1.out.trans hx)
    clear hx c0 c1 c2 c3
    cases hok : n.ok with
    | false =>
      have hr : res = ((⟨0, 0⟩, []), M) := by rw [HRES.out]; unfold Orc.envSeal; rw [HV.out, hok]; rfl
      have HF := hid (HBAD.out w2 HX2.out hr)
      obtain ⟨k0, k1, kf⟩ := HF.out.2.1
      clear hok hr
      go_wp2_with fail
      obtain ⟨hfin, -, r0, r1⟩ := HF.out
      generalize (w2.setCell ⟨N + 1 + 1, 0, none⟩ (.int .u64 0)).setCell ⟨N + 1 + 1, 1, none⟩ (.int .u64 0) = W at *
      exact bodyPost_ret (v := .tuple #[.agg #[.int .u64 0, .int .u64 0], .slice none 0 0]) (by simp [results, Tryz.results20, go_sem, r0, r1]) rfl hfin
    | true =>
      have hr : res = ((pPublic ex, (M.sealT (envKey (pShared a ex) (pPublic ex)) 0 [n.value, n.blind]).1), (M.sealT (envKey (pShared a ex) (pPublic ex)) 0 [n.value, n.blind]).2) := by rw [HRES.out]; unfold Orc.envSeal; rw [HV.out, hok]; rfl
      have HR := hid hr
      have HOK := hid hok
      clear hok hr HRES HBAD
      go_wp2_with fail
      refine (Public_any ex _).mono ?_
      rintro e w3 ⟨rfl, hx⟩
      generalize hq : pPublic ex = q at *
      have HX3 := hid ((HX2.out.trans hx).alloc q.o)
      have HSZ3 := hid (show N + 1 + 1 < w3.heap.size from heap_lt ((HX2.out.trans hx).heap_some HB2.out))
      have HQ := hid (heap_new w3 q.o)
      clear hx hq
      go_upto_region 4 with fail
      obtain ⟨R, hR⟩ : ∃ R, R = w3.heap.size := ⟨_, rfl⟩
      obtain ⟨w4, hw4⟩ : ∃ w4, w4 = w3.alloc q.o := ⟨_, rfl⟩
      rw [← hw4, ← hR]
      rw [← hw4] at HX3
      rw [← hw4, ← hR] at HQ
      have HWR := hid (show N + 1 + 1 < R by rw [hR]; exact HSZ3.out)
      clear hw4 hR
      have H4 : Hid (∀ v, Ext w4 v → (v.cell? ⟨N, 2, none⟩ = some (uv a.a) ∧ v.cell? ⟨N, 3, none⟩ = some (uv a.b)) ∧ (v.cell? ⟨R, 0, none⟩ = some (uv q.a) ∧ v.cell? ⟨R, 1, none⟩ = some (uv q.b))) := hid fun v k => ⟨(HA.out v (HX3.out.trans k)).2.2, two_cells (k.heap_some HQ.out)⟩
      refine wp_region_T (fun v => ((v.cell? ⟨N, 2, none⟩ = some (uv a.a) ∧ v.cell? ⟨N, 3, none⟩ = some (uv a.b)) ∧ (v.cell? ⟨R, 0, none⟩ = some (uv q.a) ∧ v.cell? ⟨R, 1, none⟩ = some (uv q.b))) ∧ Ext w4 v) 5 [(0, true), (1, true), (2, true), (4, true), (3, false), (5, false), (6, false)] (by kernel_rfl) (by kernel_rfl) (by intro c a d v w h; cases d <;> exact h) ?_
      intro ops hops
      have HS := keep0 H4.out
      iterate 4
        refine wpT_take (v := ?_) (by rw [hops, List.getElem?_toArray]; rfl) (by first | rfl | (rw [hops]; rfl)) ?_ HS ?_
        rotate_left
        · intro v h; go_simp; with_reducible rfl
        simp only [Act.put, List.getElem_toArray, List.getElem_cons_zero, List.getElem_cons_succ, List.setIfInBounds_toArray, List.set_cons_zero, List.set_cons_succ]
      refine wpT_step (by rw [hops, List.getElem?_toArray]; rfl) (by first | rfl | (rw [hops]; rfl)) ?_
      intro K hK
      go_wp2_with fail
      refine (Shared_any a ex _).mono ?_
      rintro e w5 ⟨rfl, hx⟩
      have HS1 := keepE H4.out HS hx
      clear HS hx
      refine hK _ _ ⟨fun _ => HS1, ?_⟩
      clear hK K
      refine wpT_step (by rw [hops, List.getElem?_toArray]; rfl) (by first | rfl | (rw [hops]; rfl)) ?_
      intro K hK
      go_wp2_with fail
      refine (envKey_any (pShared a ex) q _).mono ?_
      rintro e w6 ⟨rfl, hx⟩
      have HX6 := hid (HS1.2.trans hx)
      clear HS1 hx
      refine hK _ _ ⟨fun h => absurd h (by decide), ?_⟩
      clear hK K
      refine wpT_step (by rw [hops, List.getElem?_toArray]; rfl) (by first | rfl | (rw [hops]; rfl)) ?_
      intro K hK
      go_wp2_with fail
      try (with_reducible refine ⟨fun h => absurd h (by decide), ?_⟩)
      try rw [wpT_nil]
      try clear hops ops
      generalize envKey (pShared a ex) q = k at *
      have hF := HH.out.foot_lt
      have H6 : Hid (∀ v, Kp F w6 v → (v.cell? ⟨R, 0, none⟩ = some (uv q.a) ∧ v.cell? ⟨R, 1, none⟩ = some (uv q.b)) ∧ (v.cell? ⟨N + 1, 0, none⟩ = some (uv n.value) ∧ v.cell? ⟨N + 1, 1, none⟩ = some (uv n.owner) ∧ v.cell? ⟨N + 1, 2, none⟩ = some (uv n.rho) ∧ v.cell? ⟨N + 1, 3, none⟩ = some (uv n.blind))) := hid fun v kk => by
        have hN := HN.out
        have hWR := HWR.out
        have h1 := two_cells (HX6.out.heap_some HQ.out)
        have h2 := HNT.out w6 (HX3.out.trans HX6.out)
        exact ⟨⟨kk.cell_some (fun h => by have := hF _ h; omega) h1.1, kk.cell_some (fun h => by have := hF _ h; omega) h1.2⟩, kk.cell_some (fun h => by have := hF _ h; omega) h2.1, kk.cell_some (fun h => by have := hF _ h; omega) h2.2.1, kk.cell_some (fun h => by have := hF _ h; omega) h2.2.2.1, kk.cell_some (fun h => by have := hF _ h; omega) h2.2.2.2⟩
      clear hF
      go_wp2_with fail
      refine wp_region_T (fun v => ((v.cell? ⟨R, 0, none⟩ = some (uv q.a) ∧ v.cell? ⟨R, 1, none⟩ = some (uv q.b)) ∧ (v.cell? ⟨N + 1, 0, none⟩ = some (uv n.value) ∧ v.cell? ⟨N + 1, 1, none⟩ = some (uv n.owner) ∧ v.cell? ⟨N + 1, 2, none⟩ = some (uv n.rho) ∧ v.cell? ⟨N + 1, 3, none⟩ = some (uv n.blind))) ∧ Kp F w6 v) 6 [(0, true), (1, true), (2, true), (3, true), (4, false), (5, false), (6, false), (7, false)] (by kernel_rfl) (by kernel_rfl) (by intro c a d v w h; cases d <;> exact h) ?_
      intro ops hops
      have HS := And.intro (H6.out _ (Kp.refl F w6).drew) (Kp.refl F w6).drew
      iterate 4
        refine wpT_take (v := ?_) (by rw [hops, List.getElem?_toArray]; rfl) (by first | rfl | (rw [hops]; rfl)) ?_ HS ?_
        rotate_left
        · intro v h; go_simp; with_reducible rfl
        simp only [Act.put, List.getElem_toArray, List.getElem_cons_zero, List.getElem_cons_succ, List.setIfInBounds_toArray, List.set_cons_zero, List.set_cons_succ]
      refine wpT_step (by rw [hops, List.getElem?_toArray]; rfl) (by first | rfl | (rw [hops]; rfl)) ?_
      intro K hK
      go_wp2_with fail
      refine (notePlain_any n _).mono ?_
      rintro e w7 ⟨pv, rfl, hpl, hx, hpn⟩
      rw [HOK.out, if_pos rfl] at hpl
      obtain ⟨pa, pc, rfl, -⟩ := id hpl
      have HS1 := And.intro (H6.out _ (HS.2.ext hx)) (HS.2.ext hx)
      have HX7 := hid (HX6.out.trans ((Ext.refl w6).drew.trans hx))
      have HXW := hid (HX0.out.trans (HX3.out.trans HX7.out))
      have HSE := hid (sealT_any (key := k) (nonce := 0) (HH.out.ext HXW.out) hpl (fun j hj _ hf => by have h1 := hpn j hj; have h2 := HH.out.foot_lt j hf; have h3 := (HX0.out.trans (HX3.out.trans HX6.out)).size; have h4 : w6.drew.heap.size = w6.heap.size := rfl; omega) (by simp) (by have := HD.out; simp; omega))
      generalize M.sealT k 0 [n.value, n.blind] = r at *
      clear HS hpl hx hpn
      refine hK _ _ ⟨fun _ => HS1, ?_⟩
      clear hK K
      refine wpT_step (by rw [hops, List.getElem?_toArray]; rfl) (by first | rfl | (rw [hops]; rfl)) ?_
      intro K hK
      go_wp2_with fail
      refine (HSE.out).mono ?_
      rintro e w8 ⟨v, F', rfl, hown, hto, hvn⟩
      obtain ⟨va, vc, rfl, -⟩ := ownsRow_rd hown
      have HS2 := And.intro (H6.out _ (HS1.2.trans hto.kp)) (HS1.2.trans hto.kp)
      have hto2 : OrcTo w b F r.2 w8 F' := .pre HXW.out hto
      have hb8 : w8.heap[N + 1 + 1]? = some zero2 := hto.kp.heap_some (fun h => by have := HH.out.foot_lt _ h; have := HN.out; omega) ((HX3.out.trans HX7.out).heap_some HB2.out)
      obtain ⟨k0, k1⟩ := two_cells hb8
      have kf := frozen_of hb8
      obtain ⟨hb9, hk9⟩ := two_set (d0 := uv q.a) (d1 := uv q.b) hb8
      have hnF : ¬ F' (N + 1 + 1) := hto.far (heap_lt ((HX3.out.trans HX7.out).heap_some HB2.out)) (fun h => by have := HH.out.foot_lt _ h; have := HN.out; omega)
      have hto9 := hto2.other hk9 (by rintro j rfl; exact ⟨hnF, by have := HN.out; omega⟩)
      have hown9 := ownsRow_kp hown hk9 (by
        rintro j hj rfl
        have h1 := (hvn _ hj).1
        have h2 := heap_lt ((HX3.out.trans HX7.out).heap_some HB2.out)
        omega)
      have HF9 := hid (And.intro hto9 (And.intro hown9 (two_cells hb9)))
      have HVN := hid hvn
      have HRQ : Hid (res = ((q, r.1), r.2)) := hid HR.out
      clear HR hto hto2 hown hvn hb8 hb9 hk9 hnF hto9 hown9 HS1
      refine hK _ _ ⟨fun _ => HS2, ?_⟩
      clear hK K
      clear HS2
      refine wpT_step (by rw [hops, List.getElem?_toArray]; rfl) (by first | rfl | (rw [hops]; rfl)) ?_
      intro K hK
      go_wp2_with fail
      try (with_reducible refine ⟨fun h => absurd h (by decide), ?_⟩)
      try rw [← hops]
      refine wpT_step (by rw [hops, List.getElem?_toArray]; rfl) (by first | rfl | (rw [hops]; rfl)) ?_
      intro K hK
      go_wp2_with fail
      try (with_reducible refine ⟨fun h => absurd h (by decide), ?_⟩)
      try rw [wpT_nil]
      try clear hops ops
      go_wp2_with fail
      obtain ⟨hto9, hown9, r0, r1⟩ := HF9.out
      generalize (w8.setCell ⟨N + 1 + 1, 0, none⟩ (uv q.a)).setCell ⟨N + 1 + 1, 1, none⟩ (uv q.b) = W at *
      rw [HRQ.out]
      refine bodyPost_ret (v := .tuple #[.agg #[uv q.a, uv q.b], .slice va r.1.length vc]) (by simp [results, Tryz.results20, go_sem, r0, r1]) rfl ?_
      exact ⟨.slice va r.1.length vc, F', rfl, hown9, hto9, fun j hj => ⟨Nat.le_trans HXW.out.size (HVN.out j hj).1, (HVN.out j hj).2⟩⟩
end Go.Proofs.YtgfmjfkdogcnhaaGreat
