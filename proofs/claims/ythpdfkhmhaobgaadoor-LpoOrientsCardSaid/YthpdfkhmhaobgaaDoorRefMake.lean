/- The document's table of layer 11 as it is made: two grids that grow by turns, and rows of places. Conditions: none. -/
import Derived.Test.YthpdfkhmhaobgaaDoorRefGreater
set_option linter.unusedVariables false
set_option linter.unusedSimpArgs false
set_option linter.unnecessarySimpa false
namespace Go.Proofs.YthpdfkhmhaobgaaDoor
open Go.RowKit Go.Lib

/-- A grid as it is made. -/
structure Making (w : World) (xb c N k : Nat) (r : Nat → Nat) (v : Value) : Prop where
  head : w.cell? ⟨xb, c, none⟩ = some v
  fz : w.frozen? ⟨xb, c, none⟩ = false
  own : w.ownsRow (xb + 1) 79 1 v k (rowVals r N k)
  row : ∀ i, i < k → w.heap[r i]? = some (.cells (madeCells #[.bool false] N) 4 (0, 0)) ∧ xb < r i ∧ v.ownBlock ≠ some (r i)
  inj : ∀ i j, i < j → j < k → r i < r j
/-- The blocks of a grid. -/
def Foot (k : Nat) (r : Nat → Nat) (v : Value) (b : Nat) : Prop := v.ownBlock = some b ∨ ∃ i, i < k ∧ b = r i
theorem Making.foot {w : World} {xb c N k : Nat} {r : Nat → Nat} {v : Value} (h : Making w xb c N k r v) {b : Nat} (hb : Foot k r v b) : xb < b ∧ b < w.heap.size := by
  rcases hb with hb | ⟨i, hi, rfl⟩
  · have := h.own.lt b hb; omega
  · exact ⟨(h.row i hi).2.1, (Array.getElem?_eq_some_iff.1 (h.row i hi).1).1⟩
/-- What a round makes of a world: a row, the slice of it, the slice that grows, the cell. -/
abbrev madeRow (w : World) (N : Nat) : World := ((w.alloc (Obj.cells (madeCells #[.bool false] N) 4)).alloc (Obj.cells #[.slice (some ⟨w.heap.size, 0, none⟩) N N] 79)).drew
theorem madeRow_size (w : World) (N : Nat) : (madeRow w N).heap.size = w.heap.size + 2 := by simp [madeRow]
theorem madeRow_below (w : World) (N : Nat) : Below w.heap.size w (madeRow w N) := below_draw (below_alloc (below_alloc0 _ _) (by simp) _)
theorem Making.more {w w' : World} {xb c N k g cap : Nat} {r : Nat → Nat} {v : Value} (hM : Making w xb c N k r v)
    (hown' : w'.ownsRow (xb + 1) 79 1 (.slice (some ⟨g, 0, none⟩) (k + 1) cap) (k + 1) (rowVals r N k ++ [.slice (some ⟨w.heap.size, 0, none⟩) N N]))
    (hgr : (madeRow w N).grownBy w' v.ownBlock) (hat : v.ownBlock = some g ∨ g = (madeRow w N).heap.size) :
    Making (w'.setCell ⟨xb, c, none⟩ (.slice (some ⟨g, 0, none⟩) (k + 1) cap)) xb c N (k + 1) (fun i => if i = k then w.heap.size else r i) (.slice (some ⟨g, 0, none⟩) (k + 1) cap) := by
  have hlb : xb < w.heap.size := World.block_lt_of_cell? w _ hM.head
  have hne0 : some xb ≠ v.ownBlock := by intro e; have := hM.own.lt xb e.symm; omega
  have hnw : some w.heap.size ≠ v.ownBlock := by intro e; have := hM.own.lt _ e.symm; omega
  have hrl : ∀ i, i < k → r i < w.heap.size := fun i hi => (Array.getElem?_eq_some_iff.1 (hM.row i hi).1).1
  have hsz := madeRow_size w N
  have hbw := madeRow_below w N
  rw [hsz] at hat
  have hc : w'.cell? ⟨xb, c, none⟩ = some v := hgr.cell (a := ⟨xb, c, none⟩) (cell_kept (w := w) hbw hM.head) hne0
  have hold : ∀ j, j < w.heap.size → some j ≠ v.ownBlock → w'.heap[j]? = w.heap[j]? := fun j hj hne => by
    rw [hgr.block j (by rw [hsz]; omega) hne]
    exact hbw.block j hj
  refine ⟨set_same hc, ?_, ?_, fun i hi => ?_, fun i j hij hj => ?_⟩
  · rw [World.frozen?_setCell, hgr.frozen_far ⟨xb, c, none⟩ (by rw [hsz]; show xb < _; omega) hne0]
    exact (hbw.frozen (p := ⟨xb, c, none⟩) hlb).trans hM.fz
  · rw [rowVals_succ]
    exact ownsRow_setCell_below hown' (by show xb < xb + 1; omega) _
  · by_cases e : i = k
    · simp only [e, if_true]
      refine ⟨?_, by omega, ?_⟩
      · rw [heap_set_far (by show w.heap.size ≠ xb; omega), hgr.block _ (by rw [hsz]; omega) hnw]
        show (((w.alloc _).alloc _).heap)[w.heap.size]? = _
        rw [Below.heap_alloc _ _ _ (by simp), heap_alloc_new]
      · intro h
        have hg : g = w.heap.size := by simpa [Value.ownBlock] using h
        rcases hat with hat | hat
        · exact hnw (by rw [hat, hg])
        · omega
    · have hi' : i < k := by omega
      simp only [e, if_false]
      have h3 := hM.row i hi'
      have h4 := hrl i hi'
      refine ⟨?_, h3.2.1, ?_⟩
      · rw [heap_set_far (by show r i ≠ xb; omega), hold _ h4 (fun h => h3.2.2 h.symm)]; exact h3.1
      · intro h
        have hg : g = r i := by simpa [Value.ownBlock] using h
        rcases hat with hat | hat
        · exact h3.2.2 (by rw [hat, hg])
        · omega
  · have hi : i ≠ k := by omega
    simp only [hi, if_false]
    by_cases e : j = k
    · simp only [e, if_true]; exact hrl i (by omega)
    · simp only [e, if_false]; exact hM.inj i j hij (by omega)
/-- The other grid, meanwhile. -/
theorem Making.other {w w' : World} {xb c c' N N' k : Nat} {r : Nat → Nat} {v : Value} (hM : Making w xb c N k r v) (vb : Option Nat) (hv : ∀ b, vb = some b → xb < b ∧ ¬ Foot k r v b) (u : Value) (hcc : c' ≠ c)
    (hgr : (madeRow w N').grownBy w' vb) : Making (w'.setCell ⟨xb, c', none⟩ u) xb c N k r v := by
  have hlb : xb < w.heap.size := World.block_lt_of_cell? w _ hM.head
  have hne0 : some xb ≠ vb := fun e => by have := (hv xb e.symm).1; omega
  have hsz := madeRow_size w N'
  have hbw := madeRow_below w N'
  have hold : ∀ j, Foot k r v j → w'.heap[j]? = w.heap[j]? := fun j hj => by
    have hj2 := (hM.foot hj).2
    rw [hgr.block j (by rw [hsz]; omega) (fun e => (hv j e.symm).2 hj)]
    exact hbw.block j hj2
  have hown : w'.ownsRow (xb + 1) 79 1 v k (rowVals r N k) := (own_kept hM.own hbw).kept hgr (by
    cases h : v.ownBlock with
    | none => exact .inl rfl
    | some b => exact .inr fun e => (hv b e.symm).2 (.inl h))
  refine ⟨?_, ?_, ownsRow_setCell_below hown (by show xb < xb + 1; omega) _, fun i hi => ⟨?_, (hM.row i hi).2⟩, hM.inj⟩
  · rw [set_off hcc]
    exact hgr.cell (a := ⟨xb, c, none⟩) (cell_kept (w := w) hbw hM.head) hne0
  · rw [World.frozen?_setCell, hgr.frozen_far ⟨xb, c, none⟩ (by rw [hsz]; show xb < _; omega) hne0]
    exact (hbw.frozen (p := ⟨xb, c, none⟩) hlb).trans hM.fz
  · rw [heap_set_far (by show r i ≠ xb; have := (hM.row i hi).2.1; omega), hold _ (.inr ⟨i, hi, rfl⟩)]
    exact (hM.row i hi).1
theorem foot_more {w : World} {N k g cap : Nat} {r : Nat → Nat} {v : Value} (hat : v.ownBlock = some g ∨ g = (madeRow w N).heap.size) {b : Nat} (h : Foot (k + 1) (fun i => if i = k then w.heap.size else r i) (.slice (some ⟨g, 0, none⟩) (k + 1) cap) b) : Foot k r v b ∨ w.heap.size ≤ b := by
  rw [madeRow_size] at hat
  rcases h with h | ⟨i, hi, rfl⟩
  · have hg : g = b := by simpa [Value.ownBlock] using h
    subst hg
    rcases hat with hat | hat
    · exact .inl (.inl hat)
    · exact .inr (by omega)
  · by_cases e : i = k
    · simp only [e, if_true]; exact .inr (Nat.le_refl _)
    · simp only [e, if_false]; exact .inl (.inr ⟨i, by omega, rfl⟩)
/-- A grid is made. -/
theorem Making.done {w : World} {xb c N n : Nat} {r : Nat → Nat} {v : Value} (h : Making w xb c N n r v) (h0 : 0 < n) :
    ∃ g cap, v = .slice (some ⟨g, 0, none⟩) n cap ∧ Grid w ⟨xb, c, none⟩ n N g cap r (fun _ _ => false) ∧ xb < g ∧ (∀ i, i < n → r i ≠ g) ∧ Foot n r v g := by
  obtain ⟨g, cap, hv, hg, hgl⟩ := h.own.form h0
  have hfg : v.ownBlock = some g := by rw [hv]; rfl
  refine ⟨g, cap, hv, ⟨by rw [← hv]; exact h.head, fun i hi => ?_, fun i j hi hj => ?_⟩, by omega, fun i hi e => (h.row i hi).2.2 (by rw [hfg, e]), .inl hfg⟩
  · have ho := h.own
    rw [hv] at ho
    rw [ho.cellAt i (by omega)]
    simp [rowVals, hi]
  · have hr := (h.row i hi).1
    have hm : (madeCells #[Value.bool false] N)[j]? = some (.bool false) := by simp [madeCells, hj, Nat.mod_one]
    constructor
    · simp only [World.cell?, hr]; exact hm
    · simp [World.frozen?, hr]
theorem Making.ne {w : World} {xb c N n : Nat} {r : Nat → Nat} {v : Value} (h : Making w xb c N n r v) : ∀ i j, i < n → j < n → i ≠ j → r i ≠ r j := fun i j hi hj hne => by
  rcases Nat.lt_or_gt_of_ne hne with hlt | hlt
  · have := h.inj i j hlt hj; omega
  · have := h.inj j i hlt hi; omega
theorem Making.kept {w w' : World} {xb c N k : Nat} {r : Nat → Nat} {v : Value} (h : Making w xb c N k r v) (hb : Below w.heap.size w w') : Making w' xb c N k r v :=
  ⟨cell_kept hb h.head, (hb.frozen (p := ⟨xb, c, none⟩) (World.block_lt_of_cell? w _ h.head)).trans h.fz, own_kept h.own hb, fun i hi => ⟨(hb.block _ (Array.getElem?_eq_some_iff.1 (h.row i hi).1).1).trans (h.row i hi).1, (h.row i hi).2⟩, h.inj⟩

/-! ### Blocks from a bound on that stay -/
structure Fixed (lo : Nat) (W w : World) : Prop where
  size : W.heap.size ≤ w.heap.size
  block : ∀ b, lo ≤ b → b < W.heap.size → w.heap[b]? = W.heap[b]?
theorem Fixed.refl (lo : Nat) (W : World) : Fixed lo W W := ⟨Nat.le_refl _, fun _ _ _ => rfl⟩
theorem Fixed.trans {lo : Nat} {W w w' : World} (h : Fixed lo W w) (k : Fixed lo w w') : Fixed lo W w' := ⟨Nat.le_trans h.size k.size, fun b h1 h2 => (k.block b h1 (Nat.lt_of_lt_of_le h2 h.size)).trans (h.block b h1 h2)⟩
theorem Fixed.below {lo : Nat} {w w' : World} (h : Below w.heap.size w w') : Fixed lo w w' := ⟨h.size, fun b _ h2 => h.block b h2⟩
theorem Fixed.set {lo : Nat} {W w : World} (h : Fixed lo W w) {p : Addr} (hp : p.block < lo) (v : Value) : Fixed lo W (w.setCell p v) := ⟨by rw [World.size_setCell]; exact h.size, fun b h1 h2 => (heap_set_far (by omega)).trans (h.block b h1 h2)⟩
theorem Fixed.cell {lo : Nat} {W w : World} (h : Fixed lo W w) {b j : Nat} (hb : lo ≤ b) {v : Value} (hc : W.cell? ⟨b, j, none⟩ = some v) : w.cell? ⟨b, j, none⟩ = some v :=
  (World.cell?_of_block (a := ⟨b, j, none⟩) (h.block b hb (World.block_lt_of_cell? W _ hc))).trans hc
theorem RowO.fixed {lo lo' : Nat} {W w : World} {u : Value} {t : List Int} (h : RowO W lo' u t) (hlo : lo ≤ lo') (hf : Fixed lo W w) : RowV w u t := by
  obtain ⟨A, c, hu, hle, hn, h8, hI⟩ := h.reads
  refine ⟨A, c, hu, hle, hn, h8, hI.1, hI.2.1, fun h0 => ?_⟩
  obtain ⟨b, off, hA, hc⟩ := hI.2.2 h0
  refine ⟨b, off, hA, fun k hk => hf.cell ?_ (hc k hk)⟩
  obtain ⟨g, cap, hv, hg, _⟩ := h.1.form h0
  rw [hu, hA] at hv
  cases hv
  exact Nat.le_trans hlo hg

/-- Rows of places, as they are made. -/
structure Belows (w : World) (lo : Nat) (v : Value) (k : Nat) (us : List Value) (K : Nat → List Nat) : Prop where
  own : w.ownsRow lo 24 1 v k us
  rows : ∀ e, e < k → ∃ u, us[e]? = some u ∧ RowO w lo u (casts (K e)) ∧ (u.ownBlock = none ∨ u.ownBlock ≠ v.ownBlock)
theorem Belows.more {w w1 w2 : World} {lo k : Nat} {v v' u : Value} {us : List Value} {K : Nat → List Nat} {o : Obj} (h : Belows w lo v k us K) (hlo : lo ≤ w.heap.size) (hb : Below w.heap.size w w1) (hu : RowO w1 w.heap.size u (casts (K k)))
    (ho : w2.ownsRow lo 24 1 v' (k + 1) (us ++ [u])) (hg : (w1.alloc o).grownBy w2 v.ownBlock) (ha : v'.ownBlock = v.ownBlock ∨ v'.ownBlock = some (w1.alloc o).heap.size) : Belows w2 lo v' (k + 1) (us ++ [u]) K := by
  have hsz : (w1.alloc o).heap.size = w1.heap.size + 1 := by simp
  have hs1 := hb.size
  have hul : us.length = k := by have := h.own.1; omega
  refine ⟨ho, fun e he => ?_⟩
  by_cases hk : e < k
  · obtain ⟨x, hx1, hx2, hx3⟩ := h.rows e hk
    refine ⟨x, by rw [List.getElem?_append_left (by omega)]; exact hx1, ((hx2.below hb).below (below_alloc0 _ _)).kept hg hx3, ?_⟩
    cases hxb : x.ownBlock with
    | none => exact .inl rfl
    | some b =>
      refine .inr fun e' => ?_
      have hlt := (hx2.1.lt b hxb).2
      rcases ha with ha | ha
      · rcases hx3 with h3 | h3
        · rw [hxb] at h3; cases h3
        · exact h3 (by rw [hxb, e', ha])
      · rw [ha] at e'
        injection e' with e'
        omega
  · have hek : e = k := by omega
    subst hek
    have hne : u.ownBlock = none ∨ u.ownBlock ≠ v.ownBlock := by
      cases hub : u.ownBlock with
      | none => exact .inl rfl
      | some b =>
        refine .inr fun e' => ?_
        have h1 := (hu.1.lt b hub).1
        have h2 := (h.own.lt b e'.symm).2
        omega
    refine ⟨u, by rw [← hul]; simp, ((hu.base hlo).below (below_alloc0 _ _)).kept hg hne, ?_⟩
    cases hub : u.ownBlock with
    | none => exact .inl rfl
    | some b =>
      refine .inr fun e' => ?_
      have hlt := (hu.1.lt b hub).2
      rcases ha with ha | ha
      · rcases hne with h3 | h3
        · rw [hub] at h3; cases h3
        · exact h3 (by rw [hub, e', ha])
      · rw [ha] at e'
        injection e' with e'
        omega
/-- What is read of them later. -/
theorem Belows.read {W : World} {lo k : Nat} {v : Value} {us : List Value} {K : Nat → List Nat} (h : Belows W lo v k us K) (h0 : 0 < k) : ∃ g cap, v = .slice (some ⟨g, 0, none⟩) k cap ∧
    ∀ e, e < k → ∃ A c, ∀ w, Fixed lo W w → w.cell? ⟨g, e, none⟩ = some (.slice A (K e).length c) ∧ Ints w A (casts (K e)) := by
  obtain ⟨g, cap, hv, hg, _⟩ := h.own.form h0
  refine ⟨g, cap, hv, fun e he => ?_⟩
  obtain ⟨u, hu1, hu2, _⟩ := h.rows e he
  obtain ⟨A, c, hu, _⟩ := hu2.reads
  rw [casts_len] at hu
  refine ⟨A, c, fun w hf => ?_⟩
  have ho := h.own
  rw [hv] at ho
  have hc := ho.cellAt e (by omega)
  rw [hu1, hu] at hc
  obtain ⟨A', c', hu', _, _, _, hI⟩ := hu2.fixed (Nat.le_refl _) hf
  rw [hu] at hu'
  injection hu' with e1 _ _
  subst e1
  exact ⟨hf.cell hg hc, hI⟩
end Go.Proofs.YthpdfkhmhaobgaaDoor
