/- Texts of this claim, joined: OpenK, L51d. -/
import Derived.Test.YtcikjcjfcanloaaGreatRows
import Derived.Test.YtcikjcjfcanloaaGreatJr16
import Derived.Test.YtcikjcjfcanloaaGreatJr25
set_option linter.unusedSimpArgs false
namespace Go.Proofs.YtcikjcjfcanloaaGreat
open Go.ChangeShapes Go.WideShapes Go.ChangeAt Go.RowKit Go.Joins
theorem bulk_one {H : Type} (d : DataW H) : 1 ≤ Rows.uptoBulk d := by
  cases d with
  | lit l => cases l <;> simp [Rows.uptoBulk]
  | nil => simp [Rows.uptoBulk]
  | ptr d => simp [Rows.uptoBulk]
  | slice elems spare => simp [Rows.uptoBulk]
  | agg parts => simp [Rows.uptoBulk]
  | iface t d => simp [Rows.uptoBulk]
  | map entries => simp [Rows.uptoBulk]
  | held h => simp [Rows.uptoBulk]
theorem bulk_slice {H : Type} (elems spare : List (DataW H)) : Rows.uptoBulkAll elems + 1 ≤ Rows.uptoBulk (.slice elems spare) := by
  simp only [Rows.uptoBulk]
  omega
theorem bulk_agg {H : Type} (parts : List (DataW H)) : Rows.uptoBulkAll parts + 1 ≤ Rows.uptoBulk (.agg parts) := by
  simp only [Rows.uptoBulk]
  omega
theorem bulk_sum {H α : Type} {g : α → Nat} : ∀ {X : List α} {D : Nat → DataW H}, (∀ i y, X[i]? = some y → g y ≤ Rows.uptoBulk (D i)) → (X.map g).sum ≤ Rows.uptoBulkAll ((List.range X.length).map D)
  | [], _, _ => by simp
  | x :: r, D, h => by
    have h1 := bulk_sum (X := r) (D := fun i => D (i + 1)) fun i y hy => h (i + 1) y hy
    have h2 := h 0 x rfl
    have h3 : (List.range (x :: r).length).map D = D 0 :: (List.range r.length).map fun i => D (i + 1) := by
      rw [List.length_cons, List.range_succ_eq_map, List.map_cons, List.map_map]
      rfl
    rw [h3, List.map_cons, List.sum_cons]
    simp only [Rows.uptoBulkAll]
    omega
theorem sum_ge {α : Type} {g : α → Nat} (h : ∀ x, 1 ≤ g x) : ∀ (X : List α), X.length ≤ (X.map g).sum
  | [] => by simp
  | x :: r => by
    have h1 := sum_ge h r
    have h2 := h x
    rw [List.length_cons, List.map_cons, List.sum_cons]
    omega
theorem sum_mem {α : Type} {g : α → Nat} : ∀ {X : List α} {x : α}, x ∈ X → g x ≤ (X.map g).sum
  | y :: r, x, h => by
    rw [List.map_cons, List.sum_cons]
    rcases List.mem_cons.1 h with rfl | h
    · omega
    · have := sum_mem (g := g) h
      omega
/-- What a thing weighs at least. -/
def bkO (y : OutT) : Nat := y.cipher.length + 1
def bkT (t : TxT) : Nat := t.marks.length + (t.outs.map bkO).sum + 1
def bkB (b : BlkT) : Nat := (b.txs.map bkT).sum + 1
def bkL (l : List BlkT) : Nat := (l.map bkB).sum + 1
def bkLs (ls : List (List BlkT)) : Nat := (ls.map bkL).sum + 1
section
variable {H : Type} {enc : TypeId × Value → H} {W : World} {base : Nat} {sp : Nat → Bool} {held : Bool}
set_option maxRecDepth 100000 in
theorem open_rowsK {α : Type} {f : α → List Value} {R : α → Prop} {g : α → Nat} {k : Nat} {t e : TypeId} (ht : Tryz.prog.underlying t = some (.slice e)) (hk : Tryz.prog.cellsOf e = k) (hk0 : 0 < k) (hf : ∀ x, (f x).length = k)
    (hel : ∀ (n : Nat) (cs : List Value) (x : DataW H × List MemPlace), cs.length = k → DataW.trod enc Tryz.prog W base sp held n e cs = some x → ∃ y : α, cs = f y ∧ R y ∧ g y ≤ Rows.uptoBulk x.1)
    {n : Nat} {v : Value} {x : DataW H × List MemPlace} (h : DataW.trod enc Tryz.prog W base sp held n t [v] = some x) : ∃ X : List α, RdC' W v X.length (X.flatMap f) ∧ (∀ x ∈ X, R x) ∧ (X.map g).sum + 1 ≤ Rows.uptoBulk x.1 := by
  rcases Go.Deep.open_slice ht h with ⟨hc, -⟩ | ⟨a, len, cap, m, n', D, Pl, hc, hb, hl, hm, hmm, hx1, hx⟩
  · simp only [List.cons.injEq, and_true] at hc
    subst hc
    exact ⟨[], (RdC.nil W).weak, by simp, by simpa using bulk_one _⟩
  · simp only [List.cons.injEq, and_true] at hc
    subst hc
    have hlm : len ≤ m := by rw [hmm]; split <;> omega
    obtain ⟨X, hX, hp⟩ := choose_list (α := α) (p := fun i y => (R y ∧ ∀ j, j < k → W.cell? (a.add (i * k + j)) = (f y)[j]?) ∧ g y ≤ Rows.uptoBulk (D i)) len (fun i hi => by
      obtain ⟨cs', hcs, htr⟩ := hx i (by omega)
      rw [hk] at hcs
      obtain ⟨_, hlen, hcell⟩ := World.cells?_some hcs
      obtain ⟨y, rfl, hy, hg⟩ := hel _ _ _ hlen htr
      refine ⟨y, ⟨hy, fun j hj => ?_⟩, hg⟩
      rw [← hcell j hj, Addr.add_add])
    subst hX
    refine ⟨X, ⟨some a, cap, rfl, hl, hm, (fun h => by cases h), fun ad ha j u hu => ?_⟩, fun x hx => ?_, ?_⟩
    · injection ha with ha
      subst ha
      have hj : j < X.length * k := by
        have := (List.getElem?_eq_some_iff.1 hu).1
        rwa [flat_len hf] at this
      have hi : j / k < X.length := Nat.div_lt_of_lt_mul (by rw [Nat.mul_comm]; exact hj)
      have hr : j % k < k := Nat.mod_lt _ hk0
      have he : j / k * k + j % k = j := by rw [Nat.mul_comm]; exact Nat.div_add_mod j k
      have h1 := (hp (j / k) _ (List.getElem?_eq_getElem hi)).1.2 (j % k) hr
      have h2 := flat_at hf X (j / k) (List.getElem?_eq_getElem hi) (j % k) hr
      rw [he] at h1 h2
      rw [h1, ← h2, hu]
    · obtain ⟨i, hi, rfl⟩ := List.getElem_of_mem hx
      exact (hp i _ (List.getElem?_eq_getElem hi)).1.1
    · have h1 := bulk_sum (X := X) (D := D) (g := g) fun i y hy => (hp i y hy).2
      have h2 := bulk_slice ((List.range X.length).map D) ((List.range (m - X.length)).map fun j => D (X.length + j))
      rw [hx1]
      show _ ≤ Rows.uptoBulk (.slice ((List.range X.length).map D) ((List.range (m - X.length)).map fun j => D (X.length + j)))
      omega
theorem map_one {α : Type} (X : List α) : (X.map fun _ => 1).sum = X.length := by
  induction X with
  | nil => rfl
  | cons x r ih => rw [List.map_cons, List.sum_cons, ih, List.length_cons]; omega
theorem open_u64sK {n : Nat} {v : Value} {x : DataW H × List MemPlace} (h : DataW.trod enc Tryz.prog W base sp held n 57 [v] = some x) : ∃ l : List UInt64, RdU' W v l ∧ l.length + 1 ≤ Rows.uptoBulk x.1 := by
  obtain ⟨X, h1, -, h3⟩ := open_rowsK (f := fun x : UInt64 => [uv x]) (R := fun _ => True) (g := fun _ => 1) Tryz.underlying57 u64_cell1 (by omega) (fun _ => rfl) (fun n cs x hl hx => by
    match cs, hl with
    | [c], _ => obtain ⟨a, rfl⟩ := open_u64 hx; exact ⟨a, rfl, trivial, bulk_one _⟩) h
  rw [flat1] at h1
  rw [map_one] at h3
  exact ⟨X, h1, h3⟩
set_option maxRecDepth 100000 in
theorem out_of_cellsK {n : Nat} {cs : List Value} {x : DataW H × List MemPlace} (hl : cs.length = 4) (h : DataW.trod enc Tryz.prog W base sp held n 103 cs = some x) : ∃ y : OutT × Value, cs = outCells y ∧ RdU' W y.2 y.1.cipher ∧ bkO y.1 ≤ Rows.uptoBulk x.1 := by
  obtain ⟨y0, y1, y2, m, hx, -, h0, h1, h2⟩ := Go.Deep.trod_struct3 Tryz.underlying103 h
  match cs, hl with
  | [c0, c1, c2, c3], _ =>
    simp only [u64_cell1, arr2_cells, u64s_cell1] at h0 h1 h2
    obtain ⟨a, rfl⟩ := open_u64 (v := c0) h0
    obtain ⟨p, rfl, rfl⟩ := e2_of_cells (c0 := c1) (c1 := c2) h1
    obtain ⟨l, hl, hb⟩ := open_u64sK (v := c3) h2
    refine ⟨(⟨a, p, l⟩, c3), rfl, hl, ?_⟩
    have h3 := bulk_agg [y0.1, y1.1, y2.1]
    rw [hx]
    simp only [Rows.uptoBulkAll] at h3
    show l.length + 1 ≤ Rows.uptoBulk (.agg [y0.1, y1.1, y2.1])
    omega
set_option maxRecDepth 100000 in
theorem open_outsK {n : Nat} {v : Value} {x : DataW H × List MemPlace} (h : DataW.trod enc Tryz.prog W base sp held n 99 [v] = some x) : ∃ l : List OutT, RdOs W v l ∧ (l.map bkO).sum + 1 ≤ Rows.uptoBulk x.1 := by
  obtain ⟨X, h1, h2, h3⟩ := open_rowsK (f := outCells) (R := fun y => RdU' W y.2 y.1.cipher) (g := fun y => bkO y.1) Tryz.underlying99 out_cells4 (by omega) outCells_len (fun n cs x hl hx => out_of_cellsK hl hx) h
  exact ⟨X.map (·.1), ⟨X, rfl, by rw [List.length_map]; exact h1, h2⟩, by rw [List.map_map]; exact h3⟩
set_option maxRecDepth 100000 in
set_option maxHeartbeats 1000000 in
theorem tx_of_cellsK {n : Nat} {cs : List Value} {x : DataW H × List MemPlace} (hl : cs.length = 10) (h : DataW.trod enc Tryz.prog W base sp held n 101 cs = some x) : ∃ y : TxM, cs = txCells y ∧ RdT W y.1 y.2.1 y.2.2.1 y.2.2.2 ∧ bkT y.1 ≤ Rows.uptoBulk x.1 := by
  obtain ⟨xs, m, -, hx, -, hxs, hf⟩ := DataW.trod_struct Tryz.underlying101 h
  have hxl : xs.length = 10 := hxs
  match xs, hxl, cs, hl with
  | [x0, x1, x2, x3, x4, x5, x6, x7, x8, x9], _, [c0, c1, c2, c3, c4, c5, c6, c7, c8, c9], _ =>
    have h0 := fld hf 0 rfl (by simp) 22 0 1 rfl rfl u64_cell1
    have h1 := fld hf 1 rfl (by simp) 57 1 1 rfl rfl u64s_cell1
    have h2 := fld hf 2 rfl (by simp) 99 2 1 rfl rfl outs_cell1
    have h3 := fld hf 3 rfl (by simp) 22 3 1 rfl rfl u64_cell1
    have h4 := fld hf 4 rfl (by simp) 22 4 1 rfl rfl u64_cell1
    have h5 := fld hf 5 rfl (by simp) 22 5 1 rfl rfl u64_cell1
    have h6 := fld hf 6 rfl (by simp) 22 6 1 rfl rfl u64_cell1
    have h7 := fld hf 7 rfl (by simp) 22 7 1 rfl rfl u64_cell1
    have h8 := fld hf 8 rfl (by simp) 3 8 1 rfl rfl int_cell1
    have h9 := fld hf 9 rfl (by simp) 69 9 1 rfl rfl u8s_cell1
    obtain ⟨a0, rfl⟩ := open_u64 (v := c0) h0
    obtain ⟨a1, m1, b1⟩ := open_u64sK (v := c1) h1
    obtain ⟨a2, m2, b2⟩ := open_outsK (v := c2) h2
    obtain ⟨a3, rfl⟩ := open_u64 (v := c3) h3
    obtain ⟨a4, rfl⟩ := open_u64 (v := c4) h4
    obtain ⟨a5, rfl⟩ := open_u64 (v := c5) h5
    obtain ⟨a6, rfl⟩ := open_u64 (v := c6) h6
    obtain ⟨a7, rfl⟩ := open_u64 (v := c7) h7
    obtain ⟨a8, rfl⟩ := open_int (v := c8) h8
    obtain ⟨a9, m9⟩ := open_u8s (v := c9) h9
    refine ⟨(⟨a0, a1, a2, a3, a4, a5, a6, a7, a8, a9⟩, c1, c2, c9), rfl, ⟨m1, m2, m9⟩, ?_⟩
    have h10 := bulk_agg [x0.1, x1.1, x2.1, x3.1, x4.1, x5.1, x6.1, x7.1, x8.1, x9.1]
    have b1' : a1.length + 1 ≤ Rows.uptoBulk x1.1 := b1
    have b2' : (a2.map bkO).sum + 1 ≤ Rows.uptoBulk x2.1 := b2
    rw [hx]
    simp only [Rows.uptoBulkAll] at h10
    show a1.length + (a2.map bkO).sum + 1 ≤ Rows.uptoBulk (.agg [x0.1, x1.1, x2.1, x3.1, x4.1, x5.1, x6.1, x7.1, x8.1, x9.1])
    omega
set_option maxRecDepth 100000 in
theorem open_txsK {n : Nat} {v : Value} {x : DataW H × List MemPlace} (h : DataW.trod enc Tryz.prog W base sp held n 73 [v] = some x) : ∃ l : List TxT, RdTs W v l ∧ (l.map bkT).sum + 1 ≤ Rows.uptoBulk x.1 := by
  obtain ⟨X, h1, h2, h3⟩ := open_rowsK (f := txCells) (R := fun y => RdT W y.1 y.2.1 y.2.2.1 y.2.2.2) (g := fun y => bkT y.1) Tryz.underlying73 tx_cells10 (by omega) txCells_len (fun n cs x hl hx => tx_of_cellsK hl hx) h
  exact ⟨X.map (·.1), ⟨X, rfl, by rw [List.length_map]; exact h1, h2⟩, by rw [List.map_map]; exact h3⟩
set_option maxRecDepth 100000 in
theorem blk_of_cellsK {n : Nat} {cs : List Value} {x : DataW H × List MemPlace} (hl : cs.length = 6) (h : DataW.trod enc Tryz.prog W base sp held n 75 cs = some x) : ∃ y : BlkT × Value, cs = blkCells y ∧ RdTs W y.2 y.1.txs ∧ bkB y.1 ≤ Rows.uptoBulk x.1 := by
  obtain ⟨xs, m, -, hx, -, hxs, hf⟩ := DataW.trod_struct Tryz.underlying75 h
  have hxl : xs.length = 6 := hxs
  match xs, hxl, cs, hl with
  | [x0, x1, x2, x3, x4, x5], _, [c0, c1, c2, c3, c4, c5], _ =>
    have h0 := fld hf 0 rfl (by simp) 22 0 1 rfl rfl u64_cell1
    have h1 := fld hf 1 rfl (by simp) 3 1 1 rfl rfl int_cell1
    have h2 := fld hf 2 rfl (by simp) 22 2 1 rfl rfl u64_cell1
    have h3 := fld hf 3 rfl (by simp) 22 3 1 rfl rfl u64_cell1
    have h4 := fld hf 4 rfl (by simp) 22 4 1 rfl rfl u64_cell1
    have h5 := fld hf 5 rfl (by simp) 73 5 1 rfl rfl txs_cell1
    obtain ⟨a0, rfl⟩ := open_u64 (v := c0) h0
    obtain ⟨a1, rfl⟩ := open_int (v := c1) h1
    obtain ⟨a2, rfl⟩ := open_u64 (v := c2) h2
    obtain ⟨a3, rfl⟩ := open_u64 (v := c3) h3
    obtain ⟨a4, rfl⟩ := open_u64 (v := c4) h4
    obtain ⟨a5, m5, b5⟩ := open_txsK (v := c5) h5
    refine ⟨(⟨a0, a1, a2, a3, a4, a5⟩, c5), rfl, m5, ?_⟩
    have h10 := bulk_agg [x0.1, x1.1, x2.1, x3.1, x4.1, x5.1]
    have b5' : (a5.map bkT).sum + 1 ≤ Rows.uptoBulk x5.1 := b5
    rw [hx]
    simp only [Rows.uptoBulkAll] at h10
    show (a5.map bkT).sum + 1 ≤ Rows.uptoBulk (.agg [x0.1, x1.1, x2.1, x3.1, x4.1, x5.1])
    omega
set_option maxRecDepth 100000 in
theorem open_blksK {n : Nat} {v : Value} {x : DataW H × List MemPlace} (h : DataW.trod enc Tryz.prog W base sp held n 31 [v] = some x) : ∃ l : List BlkT, RdBs W W v l ∧ bkL l ≤ Rows.uptoBulk x.1 := by
  obtain ⟨X, h1, h2, h3⟩ := open_rowsK (f := blkCells) (R := fun y => RdTs W y.2 y.1.txs) (g := fun y => bkB y.1) Tryz.underlying31 blk_cells6 (by omega) blkCells_len (fun n cs x hl hx => blk_of_cellsK hl hx) h
  exact ⟨X.map (·.1), ⟨X, rfl, by rw [List.length_map]; exact h1, h2⟩, by unfold bkL; rw [List.map_map]; exact h3⟩
set_option maxRecDepth 100000 in
theorem open_blkssK {n : Nat} {v : Value} {x : DataW H × List MemPlace} (h : DataW.trod enc Tryz.prog W base sp held n 81 [v] = some x) : ∃ l : List (List BlkT), RdBL W v l ∧ bkLs l ≤ Rows.uptoBulk x.1 := by
  obtain ⟨X, h1, h2, h3⟩ := open_rowsK (f := fun y : List BlkT × Value => [y.2]) (R := fun y => RdBs W W y.2 y.1) (g := fun y => bkL y.1) (k := 1) Tryz.underlying81 blks_cell1 (by omega) (fun _ => rfl) (fun n cs x hl hx => by
    match cs, hl with
    | [c0], _ =>
      obtain ⟨l, hl, hb⟩ := open_blksK hx
      exact ⟨(l, c0), rfl, hl, hb⟩) h
  rw [flat_one] at h1
  exact ⟨X.map (·.1), ⟨X, rfl, by rw [List.length_map]; exact h1, h2⟩, by unfold bkLs; rw [List.map_map]; exact h3⟩
set_option maxRecDepth 100000 in
theorem open_case51K {r : Reach} {v : Value} {d : DataW H} {p : List MemPlace} {b0 : Nat} (hv : Value.okWide Tryz.prog W r b0 83 v) {b' : Nat} (h : DataW.Trod enc Tryz.prog W b' sp held 83 v d p) :
    ∃ (dd : Int) (s : UInt64) (lv : Value) (ls : List (List BlkT)), v = .agg #[.int .i64 dd, uv s, lv] ∧ RdBL W lv ls ∧ bkLs ls ≤ Rows.uptoBulk d := by
  obtain ⟨cs, rfl, hsz⟩ := okWide_struct Tryz.underlying83 hv
  rw [case51_cells3] at hsz
  obtain ⟨fuel, hf⟩ := h
  obtain ⟨cl⟩ := cs
  obtain ⟨xs, m, -, hx, -, hxs, hf⟩ := DataW.trod_struct Tryz.underlying83 hf
  have hxl : xs.length = 3 := hxs
  match xs, hxl, cl, hsz with
  | [x0, x1, x2], _, [c0, c1, c2], _ =>
    have h0 := fld hf 0 rfl (by simp) 3 0 1 rfl rfl int_cell1
    have h1 := fld hf 1 rfl (by simp) 22 1 1 rfl rfl u64_cell1
    have h2 := fld hf 2 rfl (by simp) 81 2 1 rfl rfl blkss_cell1
    obtain ⟨a0, rfl⟩ := open_int (v := c0) h0
    obtain ⟨a1, rfl⟩ := open_u64 (v := c1) h1
    obtain ⟨a2, m2, b2⟩ := open_blkssK (v := c2) h2
    refine ⟨a0, a1, c2, a2, rfl, m2, ?_⟩
    have h10 := bulk_agg [x0.1, x1.1, x2.1]
    have b2' : bkLs a2 ≤ Rows.uptoBulk x2.1 := b2
    injection hx with hd hp
    rw [hd]
    simp only [Rows.uptoBulkAll] at h10
    show bkLs a2 ≤ Rows.uptoBulk (.agg [x0.1, x1.1, x2.1])
    omega
end
theorem bkO_one (y : OutT) : 1 ≤ bkO y := by unfold bkO; omega
theorem bkT_one (t : TxT) : 1 ≤ bkT t := by unfold bkT; omega
theorem bkB_one (b : BlkT) : 1 ≤ bkB b := by unfold bkB; omega
theorem bkL_one (l : List BlkT) : 1 ≤ bkL l := by unfold bkL; omega
theorem bkT_wide {t : TxT} (h : bkT t ≤ 10000000) : TWd t := by
  unfold bkT at h
  have h1 := sum_ge bkO_one t.outs
  refine ⟨by omega, by omega, fun o ho => ?_⟩
  have h2 := sum_mem (g := bkO) ho
  have h3 : bkO o = o.cipher.length + 1 := rfl
  omega
theorem bkB_wide {b : BlkT} (h : bkB b ≤ 10000000) : BWd b := by
  unfold bkB at h
  have h1 := sum_ge bkT_one b.txs
  refine ⟨by omega, fun t ht => bkT_wide ?_⟩
  have h2 := sum_mem (g := bkT) ht
  omega
theorem outsK_bk : ∀ (l : List TxT), (outsK l).length ≤ (l.map bkT).sum
  | [] => by simp [outsK]
  | t :: r => by
    have h1 := outsK_bk r
    have h2 := sum_ge bkO_one t.outs
    unfold outsK at h1 ⊢
    rw [List.flatMap_cons, List.length_append, List.length_map, List.map_cons, List.sum_cons]
    unfold bkT at h1 ⊢
    omega
theorem leavesW_bk : ∀ (l : List BlkT), (leavesW l).length ≤ (l.map bkB).sum
  | [] => by simp [leavesW]
  | b :: r => by
    have h1 := leavesW_bk r
    have h2 := outsK_bk b.txs
    unfold outsK at h2
    unfold leavesW outsOf at h1 ⊢
    rw [List.flatMap_cons, List.length_append, List.map_cons, List.sum_cons]
    unfold bkB at h1 ⊢
    omega
/-- Wide bounds of a list of blocks. -/
structure LWd (l : List BlkT) : Prop where
  n : l.length ≤ 10000000000
  b : ∀ b ∈ l, BWd b
  m : (leavesW l).length ≤ 1000000000
theorem bkL_wide {l : List BlkT} (h : bkL l ≤ 10000000) : LWd l := by
  unfold bkL at h
  have h1 := sum_ge bkB_one l
  have h3 := leavesW_bk l
  refine ⟨by omega, fun b hb => bkB_wide ?_, by omega⟩
  have h2 := sum_mem (g := bkB) hb
  omega
theorem bkLs_wide {ls : List (List BlkT)} (h : bkLs ls ≤ 10000000) : ls.length ≤ 10000000 ∧ ∀ l ∈ ls, LWd l := by
  unfold bkLs at h
  have h1 := sum_ge bkL_one ls
  refine ⟨by omega, fun l hl => bkL_wide ?_⟩
  have h2 := sum_mem (g := bkL) hl
  omega
end Go.Proofs.YtcikjcjfcanloaaGreat
namespace Go.Proofs.YtcikjcjfcanloaaGreat
open Go.RowKit
attribute [local irreducible] perm fAdd fMul fPow fSub fNeg fRed hashU drawOf nextState
/-- The lists that can be scanned. -/
def scanB (c : List BlkT → BlkT → Int) (ls : List (List BlkT)) : List (List BlkT) := ls.filter fun l => decide (errB c l = 0)
theorem scanB_snoc {c : List BlkT → BlkT → Int} {ls : List (List BlkT)} {i : Nat} {l : List BlkT} (h : ls[i]? = some l) : scanB c (ls.take (i + 1)) = scanB c (ls.take i) ++ (if errB c l = 0 then [l] else []) := by
  unfold scanB
  rw [List.take_add_one, h, List.filter_append]
  congr 1
  show List.filter _ [l] = _
  by_cases e : errB c l = 0
  · rw [if_pos e, List.filter_cons_of_pos (by simpa using e)]; rfl
  · rw [if_neg e, List.filter_cons_of_neg (by simpa using e)]; rfl
theorem scanB_W {d : Nat} (h : d ≤ 62) (ls : List (List BlkT)) : scanB (checkT (shl1 (d : Int))) ls = ls.filter fun l => decide (errW d l = 0) := by
  unfold scanB
  rw [show checkT (shl1 (d : Int)) = checkW d from funext fun l => funext fun b => checkT_nat h l b]
  congr 1
  exact funext fun l => by rw [errB_W]
theorem Tryz.infoBL : (Tryz.prog.info? 31).map (fun i => (i.zero, i.size, i.bytes)) = some (some (.slice none 0 0), 1, 24) := by kernel_rfl
/-- v is a list of the call's own, behind w, whose elements are lists of blocks that stand in wB. -/
def FrL (wB w u : World) (v : Value) (ls : List (List BlkT)) : Prop :=
  ∃ Y : List (List BlkT × Value), Y.map (·.1) = ls ∧ u.ownsRow 0 31 1 v Y.length (Y.map (·.2)) ∧ (∀ y ∈ Y, RdBs wB wB y.2 y.1) ∧ Ext w u ∧ ∀ k, blk v = some k → w.heap.size ≤ k
theorem FrL.nil {wB w u : World} (k : Ext w u) : FrL wB w u (.slice none 0 0) [] := ⟨[], rfl, World.ownsRow_nil _ _ _ _, (fun _ h => by cases h), k, fun k h => by cases h⟩
theorem FrL.wext {wB w u : World} {v : Value} {ls : List (List BlkT)} (h : FrL wB w u v ls) : Ext w u := by
  obtain ⟨Y, h1, h2, h3, h4, h5⟩ := h
  exact h4
theorem FrL.shape {wB w u : World} {v : Value} {ls : List (List BlkT)} (h : FrL wB w u v ls) : ∃ a c, v = .slice a ls.length c := by
  obtain ⟨Y, rfl, h2, -⟩ := h
  obtain ⟨a, c, e, -⟩ := ownsRow_rd h2
  exact ⟨a, c, by rw [e, List.length_map]⟩
theorem FrL.rd {wB w u : World} {v : Value} {ls : List (List BlkT)} (h : FrL wB w u v ls) (k : Ext wB w) : RdBL u v ls := by
  obtain ⟨Y, rfl, h2, h3, h4, -⟩ := h
  exact ⟨Y, rfl, by rw [List.length_map]; exact (ownsRow_rd h2).weak, fun y hy => ((h3 y hy).ext (k.trans h4)).old (k.trans h4)⟩
theorem FrL.ext {wB w u u' : World} {v : Value} {ls : List (List BlkT)} (h : FrL wB w u v ls) (k : Ext u u') : FrL wB w u' v ls := by
  obtain ⟨Y, h1, h2, h3, h4, h5⟩ := h
  exact ⟨Y, h1, ownsRow_ext h2 k, h3, h4.trans k, h5⟩
theorem FrL.older {wB w0 w u : World} {v : Value} {ls : List (List BlkT)} (h : FrL wB w u v ls) (k : Ext w0 w) : FrL wB w0 u v ls := by
  obtain ⟨Y, h1, h2, h3, h4, h5⟩ := h
  exact ⟨Y, h1, h2, h3, k.trans h4, fun i e => Nat.le_trans k.size (h5 i e)⟩
/-- An element: its value stands in wB, and the cell that bears it. -/
theorem FrL.at {wB w u : World} {a : Option Addr} {m c : Nat} {ls : List (List BlkT)} (h : FrL wB w u (.slice a m c) ls) {i : Nat} {l : List BlkT} (hx : ls[i]? = some l) :
    ∃ b q la lc, a = some ⟨b, q, none⟩ ∧ RdBs wB wB (.slice la l.length lc) l ∧ u.cell? ⟨b, q + i, none⟩ = some (.slice la l.length lc) ∧ w.heap.size ≤ b := by
  obtain ⟨Y, h1, h2, h3, h4, h5⟩ := h
  have hn : m = Y.length := by obtain ⟨a', c', he, -⟩ := ownsRow_rd h2; injection he
  subst hn
  have hYl : Y.length = ls.length := by rw [← h1, List.length_map]
  have hi : i < Y.length := by rw [hYl]; exact (List.getElem?_eq_some_iff.1 hx).1
  have hy : Y[i]? = some Y[i] := List.getElem?_eq_getElem hi
  have hr := h3 _ (List.getElem_mem hi)
  obtain ⟨⟨x', tv⟩, hX⟩ : ∃ y, y = Y[i] := ⟨_, rfl⟩
  rw [← hX] at hy hr
  have hxo : x' = l := by
    have : ls[i]? = some x' := by rw [← h1, List.getElem?_map, hy]; rfl
    rw [hx] at this
    exact (Option.some.inj this).symm
  subst hxo
  have h2' := (ownsRow_rd h2).weak
  rw [← flat_one] at h2'
  obtain ⟨b, q, rfl, hc⟩ := rows_at (f := fun y : List BlkT × Value => [y.2]) (k := 1) (fun _ => rfl) (by omega) rfl h2' hy
  simp only at hr
  obtain ⟨ta, tc, rfl, -⟩ := hr.shape
  have := hc 0 _ (by omega) rfl
  rw [Nat.mul_one, Nat.add_zero] at this
  exact ⟨b, q, ta, tc, rfl, hr, this, h5 b rfl⟩
theorem FrL.app {wB w v v' : World} {x y : Value} {ls : List (List BlkT)} {l : List BlkT} {lv : Value} {Y : List (List BlkT × Value)} (h1 : Y.map (·.1) = ls) (h3 : ∀ y ∈ Y, RdBs wB wB y.2 y.1) (h4 : Ext w v) (h5 : ∀ k, blk x = some k → w.heap.size ≤ k) (hl : RdBs wB wB lv l)
    (hown : v'.ownsRow 0 31 1 y (Y.length + 1) (Y.map (·.2) ++ [lv])) (u : World) (hu : Ext v u) (hk : Kp (fun k => some k = blk x) u v') (hb : blk y = blk x ∨ blk y = some u.heap.size) : FrL wB w v' y (ls ++ [l]) := by
  refine ⟨Y ++ [(l, lv)], by rw [List.map_append, h1]; rfl, ?_, fun z hz => ?_, (h4.trans hu).kp hk (fun k e => h5 k e.symm), fun k e => ?_⟩
  · rw [List.length_append, List.map_append]
    exact hown
  · rcases List.mem_append.1 hz with hz | hz
    · exact h3 z hz
    · obtain rfl := List.mem_singleton.1 hz
      exact hl
  · rcases hb with e2 | e2
    · exact h5 k (by rw [← e2]; exact e)
    · rw [e2] at e
      have := Option.some.inj e
      have := (h4.trans hu).size
      omega
set_option maxRecDepth 100000 in
set_option maxHeartbeats 12800000 in
theorem rScan51_any (d : Int) (seed : UInt64) (lv : Value) (ls : List (List BlkT)) (wB w : World) (h : RdBL wB lv ls) (hxB : Ext wB w) (hk : ls.length ≤ 10000000) (hs : ∀ l ∈ ls, LWd l) :
    Calls Tryz.prog 51 #[.agg #[.int .i64 d, uv seed, lv]] w fun e w' => ∃ v, e = .returned v ∧ FrL wB w w' v (scanB (checkT (shl1 d)) ls) := by
  obtain ⟨oa, oc, rfl, -⟩ := h.shape
  obtain ⟨N, hN⟩ : ∃ N, N = w.heap.size := ⟨_, rfl⟩
  obtain ⟨w0, hw0⟩ : ∃ w0, w0 = w.alloc (.cells #[.int .i64 d, uv seed, .slice oa ls.length oc] 83) := ⟨_, rfl⟩
  have hx0 : Ext w w0 := by rw [hw0]; exact (Ext.refl w).alloc _
  have hb0 : w0.heap[N]? = some (.cells #[.int .i64 d, uv seed, .slice oa ls.length oc] 83 (0, 0)) := by rw [hw0, hN]; exact heap_new _ _
  have HX0 := hid hx0
  have HW := hid hw0
  have HH := hid h
  have HXB := hid (hxB.trans hx0)
  have HS := hid hs
  have HC : Hid (∀ u, Ext w0 u → (u.cell? ⟨N, 0, none⟩ = some (.int .i64 d) ∧ u.cell? ⟨N, 1, none⟩ = some (uv seed) ∧ u.cell? ⟨N, 2, none⟩ = some (.slice oa ls.length oc)) ∧ Ext w0 u) := hid fun u k => ⟨⟨cell_of (k.heap_some hb0) 0, cell_of (k.heap_some hb0) 1, cell_of (k.heap_some hb0) 2⟩, k⟩
  obtain ⟨i0, hi, hz0, hz1, hz2⟩ := info_parts Tryz.infoBL
  have HI0 := hid (And.intro hi (And.intro hz0 (And.intro hz1 hz2)))
  obtain ⟨ck, hck⟩ : ∃ ck, ck = checkT (shl1 d) := ⟨_, rfl⟩
  rw [← hck]
  have HCK := hid hck
  have hlI : (ls.length : Int) ≤ 10000000 := by omega
  have HLL := hid hk
  clear h hs hxB hw0 hx0 hb0 hi hz0 hz1 hz2 hck hk
  go_enter Tryz.func51, Tryz.ntmps51
  go_upto_region 1 with fail
  rw [← HW.out, ← hN]
  clear hN HW
  go_wp2_with fail
  go_loopw [3, 4] (fun bv iv wr => ∃ i : Nat, i ≤ ls.length ∧ iv = .int .i64 i ∧ Hid (FrL wB w0 wr bv (scanB ck (ls.take i)))) (fun _ iv _ => ls.length - (intOf iv).toNat)
  case atStart => exact ⟨0, by omega, rfl, hid (FrL.nil (Ext.refl w0))⟩
  case round =>
    obtain ⟨i, hi, rfl, HI⟩ := hrel
    have hi0 : (0 : Int) ≤ (i : Int) := Int.natCast_nonneg _
    obtain ⟨Y, hy1, hy2, hy3, hy4, hy5⟩ := HI.out
    have XR := hid hy4
    obtain ⟨⟨c0, c1, c2⟩, -⟩ := HC.out _ hy4
    by_cases hlt : i < ls.length
    case neg =>
      have hltB : decide ((i : Int) < (ls.length : Int)) = false := decide_eq_false (by omega)
      obtain rfl : i = ls.length := by omega
      rw [List.take_length] at HI
      clear hlt hy1 hy2 hy3 hy4 hy5
      go_wp2_with fail
      go_ret
      exact ⟨_, rfl, HI.out.older HX0.out⟩
    have hltB : decide ((i : Int) < (ls.length : Int)) = true := decide_eq_true (by omega)
    have hil : (i : Int) < (ls.length : Int) := by omega
    obtain ⟨l, hli⟩ : ∃ l, ls[i]? = some l := ⟨_, List.getElem?_eq_getElem hlt⟩
    have HLW := hid (HS.out l (List.mem_of_getElem? hli))
    obtain ⟨b, q, la, lc, rfl, hrl, e0⟩ := HH.out.at hli
    have HE : Hid (∀ u, Ext w0 u → RdBs u u (.slice la l.length lc) l) := hid fun u k => (hrl.ext (HXB.out.trans k)).old (HXB.out.trans k)
    have HCE : Hid (∀ u, Ext w0 u → ((u.cell? ⟨N, 0, none⟩ = some (.int .i64 d) ∧ u.cell? ⟨N, 1, none⟩ = some (uv seed) ∧ u.cell? ⟨N, 2, none⟩ = some (.slice (some ⟨b, q, none⟩) ls.length oc)) ∧ u.cell? ⟨b, q + i, none⟩ = some (.slice la l.length lc)) ∧ Ext w0 u) := hid fun u k => ⟨⟨(HC.out u k).1, (HXB.out.trans k).cell_some e0⟩, k⟩
    have HRL := hid hrl
    have HSN := hid (scanB_snoc (c := ck) hli)
    have ER : Hid (∀ u, Ext w0 u → Calls Tryz.prog 47 #[.int .i64 d, .slice la l.length lc] u fun e w' => e = .returned (.int .i64 (errB ck l)) ∧ Ext u w') := hid fun u k => by
      have := rErr51G_any d _ l u (HE.out u k) HLW.out.n HLW.out.b HLW.out.m
      rwa [← HCK.out] at this
    obtain ⟨E, hE⟩ : ∃ E, E = errB ck l := ⟨_, rfl⟩
    rw [← hE] at ER HSN
    have hHS0 := HCE.out _ (hy4.trans (Ext.refl wr).drew)
    have HLY : Hid (Y.length ≤ i) := hid (by
      have h1 : (Y.map (·.1)).length ≤ i := by
        rw [hy1]
        unfold scanB
        exact Nat.le_trans (List.length_filter_le _ _) (by rw [List.length_take]; omega)
      rwa [List.length_map] at h1)
    have HYY := hid (And.intro hy1 (And.intro hy2 (And.intro hy3 hy5)))
    obtain ⟨ba, bc, rfl, -⟩ := ownsRow_rd hy2
    have hYI : (Y.length : Int) ≤ 10000000 := by have := HLY.out; omega
    clear hli hrl e0 hE hy1 hy2 hy3 hy4 hy5
    go_wp2_with fail
    clear c0 c1 c2
    refine wp_region_T (fun u => ((u.cell? ⟨N, 0, none⟩ = some (.int .i64 d) ∧ u.cell? ⟨N, 1, none⟩ = some (uv seed) ∧ u.cell? ⟨N, 2, none⟩ = some (.slice (some ⟨b, q, none⟩) ls.length oc)) ∧ u.cell? ⟨b, q + i, none⟩ = some (.slice la l.length lc)) ∧ Ext w0 u) 7 [(0, true), (1, true), (2, true), (3, true), (4, true), (5, true), (6, true), (7, false), (8, false)] (by kernel_rfl) (by kernel_rfl) (by intro c a d v w h; cases d <;> exact h) ?_
    intro ops hops
    iterate 7
      refine wpT_take (v := ?_) (by rw [hops, List.getElem?_toArray]; rfl) (by first | rfl | (rw [hops]; rfl)) ?_ hHS0 ?_
      rotate_left
      · intro v h; go_simp; with_reducible rfl
      simp only [Act.put, List.getElem_toArray, List.getElem_cons_zero, List.getElem_cons_succ, List.setIfInBounds_toArray, List.set_cons_zero, List.set_cons_succ]
    refine wpT_step (by rw [hops, List.getElem?_toArray]; rfl) (by first | rfl | (rw [hops]; rfl)) ?_
    intro K hK
    go_wp2_with fail
    refine (ER.out _ hHS0.2).mono ?_
    rintro e w3 ⟨rfl, hx⟩
    have X3 := hid (hHS0.2.trans hx)
    have XX := hid ((Ext.refl wr).drew.trans hx)
    clear hx hHS0 ER
    refine hK _ _ ⟨fun h => absurd h (by decide), ?_⟩
    clear hK K
    refine wpT_step (by rw [hops, List.getElem?_toArray]; rfl) (by first | rfl | (rw [hops]; rfl)) ?_
    intro K hK
    go_wp2_with fail
    try (with_reducible refine ⟨fun h => absurd h (by decide), ?_⟩)
    try rw [wpT_nil]
    try clear hops ops
    by_cases hz : E = 0
    · subst hz
      rw [if_pos rfl] at HSN
      obtain ⟨⟨⟨c0, c1, c2⟩, e0⟩, -⟩ := HCE.out w3 X3.out
      have c2' := HCE.out
      go_wp2_with (at_builtin; refine wpList_app rfl _ _ 81 rfl 31 i0 (.slice none 0 0) 1 24 Tryz.underlying81 HI0.out.1 HI0.out.2.1 HI0.out.2.2.1 HI0.out.2.2.2 rfl (by decide) _ Y.length (Y.map (·.2)) rfl (ownsRow_ext HYY.out.2.1 (XX.out.alloc _)) _ 1 [.slice la l.length lc] rfl (RdC.new1 _ _ _) rfl (by intro u hu; obtain rfl := List.mem_singleton.1 hu; rfl) (by have := HLY.out; unfold maxLen; omega) (by have := HLY.out; have := HLL.out; omega) ?_)
      intro v' w5 hown hk2 hb
      have G : Hid (FrL wB w0 w5 v' (scanB ck (ls.take i) ++ [l])) := hid (FrL.app HYY.out.1 HYY.out.2.2.1 XR.out HYY.out.2.2.2 HRL.out hown _ (XX.out.alloc _) hk2 (by simpa using hb))
      obtain ⟨va, vc, rfl, -⟩ := ownsRow_rd hown
      clear hown hk2 hb c0 c1 c2 e0 c2'
      go_wp2_with fail
      go_roundw
      case rel => exact ⟨i + 1, by omega, by go_num, by rw [HSN.out]; exact G⟩
      case measure => simp [intOf]; omega
    · have hzB : decide (E = 0) = false := decide_eq_false hz
      have hzB2 : (E == 0) = false := by rw [beq_eq_false_iff_ne]; exact hz
      rw [if_neg hz, List.append_nil] at HSN
      have G : Hid (FrL wB w0 w3 (.slice ba Y.length bc) (scanB ck (ls.take i))) := hid (HI.out.ext XX.out)
      clear hz
      go_wp2_with fail
      go_roundw
      case rel => exact ⟨i + 1, by omega, by go_num, by rw [HSN.out]; exact G⟩
      case measure => simp [intOf]; omega
end Go.Proofs.YtcikjcjfcanloaaGreat
