/- The walk of the reference's closure of pairs, and of its question. Conditions: none. -/
import Derived.Test.YthpdfkhmhaobgaaDoorPrecA
import Derived.Test.YthpdfkhmhaobgaaDoorMem
import Derived.Outline
import Derived.Deep.LoopGhost
import Derived.BigQuiet
import Derived.BigRegion
import Derived.Deep.RegionLaw
import Derived.Deep.AppendLies
import Derived.Deep.OwnRows
set_option linter.unusedVariables false
set_option linter.unusedSimpArgs false
namespace Go.Proofs.YthpdfkhmhaobgaaDoor
open Go.RowKit

theorem infoRow : (Tryd.prog.info? 79).map (fun i => (i.zero, i.size, i.bytes)) = some (some (.slice none 0 0), 1, 24) := by kernel_rfl
theorem infoBool : (Tryd.prog.info? 4).map (fun i => (i.zero, i.size, i.bytes)) = some (some (.bool false), 1, 1) := by kernel_rfl

def rowVals (r : Nat → Nat) (N k : Nat) : List Value := (List.range k).map fun i => .slice (some ⟨r i, 0, none⟩) N N
theorem rowVals_length (r : Nat → Nat) (N k : Nat) : (rowVals r N k).length = k := by simp [rowVals]

/-- The rows as they are made. -/
structure RefMade (w : World) (b N k : Nat) (r : Nat → Nat) (v : Value) : Prop where
  head : w.cell? ⟨b, 0, none⟩ = some v
  fz : w.frozen? ⟨b, 0, none⟩ = false
  own : w.ownsRow (b + 1) 79 1 v k (rowVals r N k)
  row : ∀ i, i < k → w.heap[r i]? = some (.cells (madeCells #[.bool false] N) 4 (0, 0)) ∧ b < r i ∧ v.ownBlock ≠ some (r i)
  inj : ∀ i j, i < j → j < k → r i < r j

theorem rowVals_succ (r : Nat → Nat) (N k b : Nat) : rowVals (fun i => if i = k then b else r i) N (k + 1) = rowVals r N k ++ [.slice (some ⟨b, 0, none⟩) N N] := by
  unfold rowVals
  rw [List.range_succ, List.map_append]
  congr 1
  · refine List.map_congr_left fun i hi => ?_
    have := List.mem_range.1 hi
    have e : ¬ i = k := by omega
    simp only [e, if_false]
  · simp

theorem RefMade.more {w w' : World} {b N k g cap : Nat} {r : Nat → Nat} {v : Value} (hM : RefMade w b N k r v)
    (hown' : w'.ownsRow (b + 1) 79 1 (.slice (some ⟨g, 0, none⟩) (k + 1) cap) (k + 1) (rowVals r N k ++ [.slice (some ⟨w.heap.size, 0, none⟩) N N]))
    (hgr : ((w.alloc (Obj.cells (madeCells #[.bool false] N) 4)).alloc (Obj.cells #[.slice (some ⟨w.heap.size, 0, none⟩) N N] 79)).drew.grownBy w' v.ownBlock)
    (hat : v.ownBlock = some g ∨ g = ((w.alloc (Obj.cells (madeCells #[.bool false] N) 4)).alloc (Obj.cells #[.slice (some ⟨w.heap.size, 0, none⟩) N N] 79)).drew.heap.size) :
    RefMade (w'.setCell ⟨b, 0, none⟩ (.slice (some ⟨g, 0, none⟩) (k + 1) cap)) b N (k + 1) (fun i => if i = k then w.heap.size else r i) (.slice (some ⟨g, 0, none⟩) (k + 1) cap) := by
  have hlb : b < w.heap.size := World.block_lt_of_cell? w _ hM.head
  have hne0 : some b ≠ v.ownBlock := by intro e; have := hM.own.lt b e.symm; omega
  have hnw : some w.heap.size ≠ v.ownBlock := by intro e; have := hM.own.lt _ e.symm; omega
  have hrl : ∀ i, i < k → r i < w.heap.size := fun i hi => (Array.getElem?_eq_some_iff.1 (hM.row i hi).1).1
  have hsz : ((w.alloc (Obj.cells (madeCells #[.bool false] N) 4)).alloc (Obj.cells #[.slice (some ⟨w.heap.size, 0, none⟩) N N] 79)).drew.heap.size = w.heap.size + 2 := by simp
  rw [hsz] at hat
  have hc : w'.cell? ⟨b, 0, none⟩ = some v := hgr.cell (a := ⟨b, 0, none⟩) (cell_kept (w := w) (below_draw (below_alloc (below_alloc0 _ _) (by simp) _)) hM.head) hne0
  have hold : ∀ j, j < w.heap.size → some j ≠ v.ownBlock → w'.heap[j]? = w.heap[j]? := fun j hj hne => by
    rw [hgr.block j (by rw [hsz]; omega) hne]
    exact (below_draw (below_alloc (below_alloc0 w _) (by simp) _)).block j hj
  refine ⟨set_same hc, ?_, ?_, fun i hi => ?_, fun i j hij hj => ?_⟩
  · rw [World.frozen?_setCell, hgr.frozen_far ⟨b, 0, none⟩ (by rw [hsz]; show b < _; omega) hne0]
    exact ((below_draw (below_alloc (below_alloc0 w _) (by simp) _)).frozen (p := ⟨b, 0, none⟩) hlb).trans hM.fz
  · rw [rowVals_succ]
    exact ownsRow_setCell_below hown' (by show b < b + 1; omega) _
  · by_cases e : i = k
    · simp only [e, if_true]
      refine ⟨?_, by omega, ?_⟩
      · rw [heap_set_far (by show w.heap.size ≠ b; omega), hgr.block _ (by rw [hsz]; omega) hnw]
        show (((w.alloc _).alloc _).heap)[w.heap.size]? = _
        rw [Below.heap_alloc _ _ _ (by simp), heap_alloc_new]
      · intro h
        have hg : g = w.heap.size := by simpa [Value.ownBlock] using h
        rcases hat with hat | hat
        · exact hnw (by rw [hat, hg])
        · omega
    · have hi' : i < k := by omega
      simp only [e, if_false]
      have h3 := hM.row i hi'
      have h4 := hrl i hi'
      refine ⟨?_, h3.2.1, ?_⟩
      · rw [heap_set_far (by show r i ≠ b; omega), hold _ h4 (fun h => h3.2.2 h.symm)]; exact h3.1
      · intro h
        have hg : g = r i := by simpa [Value.ownBlock] using h
        rcases hat with hat | hat
        · exact h3.2.2 (by rw [hat, hg])
        · omega
  · have hi : i ≠ k := by omega
    simp only [hi, if_false]
    by_cases e : j = k
    · simp only [e, if_true]; exact hrl i (by omega)
    · simp only [e, if_false]; exact hM.inj i j hij (by omega)

/-- The reference's precedence in memory. -/
structure RefAt (w : World) (b N : Nat) (r : Nat → Nat) (v : Value) (U : Nat → Nat → Bool) : Prop where
  head : w.cell? ⟨b, 0, none⟩ = some v
  form : (N = 0 ∧ v = .slice none 0 0) ∨ ∃ g cap, v = .slice (some ⟨g, 0, none⟩) N cap ∧ ∀ i, i < N → w.cell? ⟨g, i, none⟩ = some (.slice (some ⟨r i, 0, none⟩) N N) ∧ r i ≠ g ∧ b < g
  row : ∀ i, i < N → r i ≠ b ∧ ∀ j, j < N → w.cell? ⟨r i, j, none⟩ = some (.bool (U i j)) ∧ w.frozen? ⟨r i, j, none⟩ = false
  inj : ∀ i j, i < N → j < N → i ≠ j → r i ≠ r j
  above : ∀ i, i < N → b < r i
theorem RefAt.kept {w w' : World} {b N : Nat} {r : Nat → Nat} {v : Value} {U : Nat → Nat → Bool} (h : RefAt w b N r v U) (hb : Below w.heap.size w w') : RefAt w' b N r v U := by
  refine ⟨cell_kept hb h.head, ?_, fun i hi => ⟨(h.row i hi).1, fun j hj => ⟨cell_kept hb ((h.row i hi).2 j hj).1, ?_⟩⟩, h.inj, h.above⟩
  · rcases h.form with hf | ⟨g, cap, hv, hc⟩
    · exact .inl hf
    · exact .inr ⟨g, cap, hv, fun i hi => ⟨cell_kept hb (hc i hi).1, (hc i hi).2⟩⟩
  · exact (hb.frozen (p := ⟨r i, j, none⟩) (World.block_lt_of_cell? w _ ((h.row i hi).2 j hj).1)).trans ((h.row i hi).2 j hj).2
theorem RefMade.done {w : World} {b N : Nat} {r : Nat → Nat} {v : Value} (h : RefMade w b N N r v) : RefAt w b N r v (fun _ _ => false) := by
  refine ⟨h.head, ?_, fun i hi => ⟨by have := (h.row i hi).2.1; omega, fun j hj => ?_⟩, fun i j hi hj hne => ?_, fun i hi => (h.row i hi).2.1⟩
  · rcases Nat.eq_zero_or_pos N with h0 | h0
    · subst h0
      rcases h.own.2 with ⟨hv, _⟩ | ⟨g, cap, cur, hv, _⟩
      · exact .inl ⟨rfl, hv⟩
      · exact .inr ⟨g, cap, hv, fun i hi => by omega⟩
    · obtain ⟨g, cap, hv, hg, _⟩ := h.own.form h0
      refine .inr ⟨g, cap, hv, fun i hi => ⟨?_, fun e => (h.row i hi).2.2 (by rw [hv, e]; rfl), by omega⟩⟩
      have ho := h.own
      rw [hv] at ho
      rw [ho.cellAt i (by omega)]
      simp [rowVals, hi]
  · have hr := (h.row i hi).1
    have hm : (madeCells #[Value.bool false] N)[j]? = some (.bool false) := by simp [madeCells, hj, Nat.mod_one]
    constructor
    · simp only [World.cell?, hr]; exact hm
    · simp [World.frozen?, hr]
  · rcases Nat.lt_or_gt_of_ne hne with hlt | hlt
    · have := h.inj i j hlt hj; omega
    · have := h.inj j i hlt hi; omega
theorem RefAt.set {w : World} {b N : Nat} {r : Nat → Nat} {v : Value} {U : Nat → Nat → Bool} (h : RefAt w b N r v U) {x y : Nat} (hx : x < N) (hy : y < N) (t : Bool) :
    RefAt (w.setCell ⟨r x, y, none⟩ (.bool t)) b N r v (fun i j => if i = x ∧ j = y then t else U i j) := by
  refine ⟨?_, ?_, fun i hi => ⟨(h.row i hi).1, fun j hj => ⟨?_, ?_⟩⟩, h.inj, h.above⟩
  · rw [set_blk (h.row x hx).1]; exact h.head
  · rcases h.form with hf | ⟨g, cap, hv, hc⟩
    · exact .inl hf
    · exact .inr ⟨g, cap, hv, fun i hi => ⟨by rw [set_blk (hc x hx).2.1]; exact (hc i hi).1, (hc i hi).2⟩⟩
  · by_cases e : i = x
    · subst e
      by_cases e2 : j = y
      · subst e2
        rw [set_same ((h.row i hi).2 j hj).1, if_pos ⟨rfl, rfl⟩]
      · rw [set_off (by omega), if_neg (fun h => e2 h.2)]; exact ((h.row i hi).2 j hj).1
    · rw [set_blk (h.inj x i hx hi (fun h => e h.symm)), if_neg (fun h => e h.1)]; exact ((h.row i hi).2 j hj).1
  · rw [World.frozen?_setCell]; exact ((h.row i hi).2 j hj).2
theorem RefAt.drawn {w : World} {b N : Nat} {r : Nat → Nat} {v : Value} {U : Nat → Nat → Bool} (h : RefAt w b N r v U) (k : Nat) : RefAt (w.drewN k) b N r v U := ⟨h.head, h.form, h.row, h.inj, h.above⟩
theorem RefAt.drew {w : World} {b N : Nat} {r : Nat → Nat} {v : Value} {U : Nat → Nat → Bool} (h : RefAt w b N r v U) : RefAt w.drew b N r v U := ⟨h.head, h.form, h.row, h.inj, h.above⟩
theorem RefAt.at_ {w : World} {b N : Nat} {r : Nat → Nat} {v : Value} {U : Nat → Nat → Bool} (h : RefAt w b N r v U) (h0 : 0 < N) :
    ∃ g cap, v = .slice (some ⟨g, 0, none⟩) N cap ∧ ∀ i, i < N → w.cell? ⟨g, i, none⟩ = some (.slice (some ⟨r i, 0, none⟩) N N) := by
  rcases h.form with hf | ⟨g, cap, hv, hc⟩
  · omega
  · exact ⟨g, cap, hv, fun i hi => (hc i hi).1⟩

/-- The reference's precedence: the closure of pairs. -/
def IsRef (w : World) (b : Nat) (n : Int) (l : List (Int × Int)) : Prop :=
  ∃ (N : Nat) (r : Nat → Nat) (v : Value) (U : Nat → Nat → Bool), n = N ∧ N ≤ 128 ∧ RefAt w b N r v U ∧ allGood n l ∧ ∀ f g : Nat, U f g = true ↔ TC l f g
theorem IsRef.kept {w w' : World} {b : Nat} {n : Int} {l : List (Int × Int)} (h : IsRef w b n l) (hb : Below w.heap.size w w') : IsRef w' b n l := by
  obtain ⟨N, r, v, U, h1, h2, h3, h4⟩ := h
  exact ⟨N, r, v, U, h1, h2, h3.kept hb, h4⟩
theorem RefAt.frame {w w' : World} {b N : Nat} {r : Nat → Nat} {v : Value} {U : Nat → Nat → Bool} (h : RefAt w b N r v U) (hw : ∀ i, b ≤ i → w'.heap[i]? = w.heap[i]?) : RefAt w' b N r v U := by
  have hc : ∀ i j, b ≤ i → w'.cell? ⟨i, j, none⟩ = w.cell? ⟨i, j, none⟩ := fun i j hi => World.cell?_of_block (a := ⟨i, j, none⟩) (hw i hi)
  have hf : ∀ i j, b ≤ i → w'.frozen? ⟨i, j, none⟩ = w.frozen? ⟨i, j, none⟩ := fun i j hi => World.frozen?_of_block (a := ⟨i, j, none⟩) (hw i hi)
  refine ⟨(hc b 0 (Nat.le_refl _)).trans h.head, ?_, fun i hi => ⟨(h.row i hi).1, fun j hj => ⟨(hc _ _ (Nat.le_of_lt (h.above i hi))).trans ((h.row i hi).2 j hj).1, (hf _ _ (Nat.le_of_lt (h.above i hi))).trans ((h.row i hi).2 j hj).2⟩⟩, h.inj, h.above⟩
  rcases h.form with hf' | ⟨g, cap, hv, hg⟩
  · exact .inl hf'
  · exact .inr ⟨g, cap, hv, fun i hi => ⟨(hc g i (Nat.le_of_lt (hg i hi).2.2)).trans (hg i hi).1, (hg i hi).2⟩⟩
theorem IsRef.frame {w w' : World} {b : Nat} {n : Int} {l : List (Int × Int)} (h : IsRef w b n l) (hw : ∀ i, b ≤ i → w'.heap[i]? = w.heap[i]?) : IsRef w' b n l := by
  obtain ⟨N, r, v, U, h1, h2, h3, h4⟩ := h
  exact ⟨N, r, v, U, h1, h2, h3.frame hw, h4⟩
def RefPost (n : Int) (l : List (Int × Int)) (w : World) (e : Ending) (w' : World) : Prop :=
  Below w.heap.size w w' ∧ ((perr n l ≠ 0 ∧ e = .returned (.tuple #[.pointer none, .int .i64 (perr n l)])) ∨
    (perr n l = 0 ∧ e = .returned (.tuple #[.pointer (some ⟨w.heap.size, 0, none⟩), .int .i64 0]) ∧ IsRef w' w.heap.size n l))

set_option maxRecDepth 100000 in
theorem refclose_arg (n : Int) (A : Option Addr) (l : List (Int × Int)) (cap : Nat) (w : World) (h : n < 0 ∨ 128 < n) :
    Calls Tryd.prog 24 #[.int .i64 n, .slice A l.length cap] w (RefPost n l w) := by
  have hp : perr n l = 1 := by unfold perr; rw [if_pos h]
  have fin : ∀ w', w = w' → RefPost n l w (.returned (.tuple #[.pointer none, .int .i64 1])) w' := fun w' e => by
    subst e; exact ⟨Below.refl _ _, .inl ⟨by omega, by rw [hp]⟩⟩
  clear hp
  rcases h with h | h
  · go_enter Tryd.func24, Tryd.ntmps24
    go_wp2
    go_ret2
    exact fin _ rfl
  · have h' : ¬ n < 0 := by omega
    go_enter Tryd.func24, Tryd.ntmps24
    go_wp2
    go_ret2
    exact fin _ rfl

set_option maxRecDepth 100000 in
set_option maxHeartbeats 2000000 in
theorem refclose_any (n : Int) (A : Option Addr) (l : List (Int × Int)) (cap : Nat) (w : World) (h0 : 0 ≤ n) (h1 : n ≤ 128) (hl : Pairs w A l) :
    Calls Tryd.prog 24 #[.int .i64 n, .slice A l.length cap] w (RefPost n l w) := by
  have hll := hl.1
  obtain ⟨N, rfl⟩ := Int.eq_ofNat_of_zero_le h0
  obtain ⟨b0, hb0⟩ : ∃ b, b = w.heap.size := ⟨_, rfl⟩
  have fin1 : ∀ (x : Int) w', perr N l = x → x ≠ 0 → Below b0 w w' → RefPost N l w (.returned (.tuple #[.pointer none, .int .i64 x])) w' := fun x w' e hx hb => by
    subst hb0; exact ⟨hb, .inl ⟨by omega, by rw [e]⟩⟩
  have fin2 : ∀ w', perr N l = 0 → Below b0 w w' → IsRef w' b0 N l → RefPost N l w (.returned (.tuple #[.pointer (some ⟨b0, 0, none⟩), .int .i64 0])) w' := fun w' e hb hr => by
    subst hb0; exact ⟨hb, .inr ⟨e, rfl, hr⟩⟩
  have hlB : ∀ w', Below b0 w w' → Pairs w' A l := fun w' hb => hl.kept (by rw [← hb0]; exact hb)
  go_enter Tryd.func24, Tryd.ntmps24
  go_wp2_with fail
  obtain ⟨w1, hw1⟩ : ∃ w1, w1 = (w.alloc (Obj.cells #[Value.slice none 0 0] 100)) := ⟨_, rfl⟩
  rw [← hw1, ← hb0]
  have hB1 : Below b0 w w1 := by rw [hw1, hb0]; exact below_alloc0 _ _
  have hM1 : RefMade w1 b0 N 0 (fun _ => 0) (.slice none 0 0) := by
    refine ⟨by rw [hw1, hb0]; go_simp, by rw [hw1, hb0]; go_simp, ⟨by simp [rowVals], .inl ⟨rfl, rfl⟩⟩, fun i hi => by omega, fun i j _ hj => by omega⟩
  clear hw1
  have HB0 := Lib.hid hb0
  clear hb0
  go_loopg [7] N (fun g i wr => ∃ k : Nat, Aside (g + k = N) ∧ i = .int .i64 k ∧ Below b0 w wr ∧ ∃ r v, RefMade wr b0 N k r v)
  case atStart => exact ⟨0, (rfl : N + 0 = N), rfl, hB1, _, _, hM1⟩
  case round =>
    clear hB1 hM1
    obtain ⟨k, hgk, rfl, hB, r, v, hM⟩ := hrel
    have hk : k ≤ N := by have := hgk.out; omega
    have hlb : b0 < wr.heap.size := World.block_lt_of_cell? wr _ hM.head
    by_cases hlt : k < N
    · have hmk : ∀ W : World, (Instr.makeSlice 79 (.int .i64 (N : Int)) (.int .i64 (N : Int))).run Tryd.prog W = .ok (.slice (some ⟨W.heap.size, 0, none⟩) N N) (W.alloc (.cells (madeCells #[.bool false] N) 4)) := fun W =>
        run_make_row' 79 4 (.bool false) 1 Tryd.underlying79 infoBool rfl .i64 .i64 N (by omega) (by omega) W
      have hh := hM.head
      have hf := hM.fz
      go_wp2_with fail
      have hone : ∀ u ∈ [Value.slice (some ⟨wr.heap.size, 0, none⟩) N N], u.oneCell' = true := by intro u hu; simp at hu; rw [hu]; rfl
      have HOwn := hM.own
      have hne0 : some b0 ≠ v.ownBlock := by intro e; have := hM.own.lt b0 e.symm; omega
      go_region_law (first
        | (refine step_push (.tmp 30) (.tmp 33) 76 79 (.slice none 0 0) 1 24 rfl rfl Tryd.underlying76 infoRow rfl (by decide) (by decide) (b0 + 1) v k (rowVals r N k) [.slice (some ⟨wr.heap.size, 0, none⟩) N N] rfl ((HOwn.alloc _).alloc _).drew (wr.heap.size + 1) 0 1 rfl rfl (by intro j u hj; exact var_cells _ _ _ _ (by simp) j u hj) hone (by omega) (by simp; omega) ?_; intro g cap w' hown' hgr hat hg; have hh1 : w'.cell? ⟨b0, 0, none⟩ = some v := hgr.cell (a := ⟨b0, 0, none⟩) (by go_simp) hne0; have hf1 : w'.frozen? ⟨b0, 0, none⟩ = false := (hgr.frozen_far ⟨b0, 0, none⟩ (by simp; omega) hne0).trans (by go_simp)))
      all_goals
        go_wp2_with fail
        go_roundg (N - (k + 1))
        case measure => have := hgk.out; omega
        case rel =>
          refine ⟨k + 1, by have := hgk.out; show _ = _; omega, by go_num, ?_, _, _, hM.more hown' hgr hat⟩
          refine below_set (grown_below (below_draw (below_alloc (below_alloc hB (Nat.le_of_lt hlb) _) (by simp; omega) _)) (by simp; omega) hgr (fun j hj => ?_)) (Nat.le_refl _) _
          have := hM.own.lt j hj; omega
    · have hkN : k = N := by omega
      subst hkN
      have hR := hM.done
      clear hM hk hlt
      go_wp2_with fail
      go_loopg [8] l.length (fun g i wx => ∃ m : Nat, Aside (g + m = l.length) ∧ i = .int .i64 m ∧ Below b0 w wx ∧ RefAt wx b0 k r v (tabOf (l.take m)) ∧ allGood k (l.take m))
      case atStart => exact ⟨0, (rfl : l.length + 0 = l.length), rfl, hB, hR, fun p hp => by cases hp⟩
      case round =>
        clear hB hR hlb
        obtain ⟨m, hgm, rfl, hB, hR, hG⟩ := hrel
        have hlb : b0 < wr.heap.size := World.block_lt_of_cell? wr _ hR.head
        have hm : m ≤ l.length := by have := hgm.out; omega
        by_cases hlt : m < l.length
        · obtain ⟨b, off, x, y, rfl, hxy, hx, hy⟩ := (hlB _ hB).at_ hlt
          by_cases hbad : badPair k (x, y)
          · have hpe : perr k l = 100 := by
              unfold perr; rw [if_neg (by omega), if_pos (fun h => h _ (getD_mem hlt hxy) hbad)]
            have HX := Lib.hid hxy
            have HPE := Lib.hid hpe
            clear hxy hpe
            unfold badPair at hbad
            simp only at hbad
            by_cases q1 : x < 0
            · clear hbad
              go_wp2_with fail
              go_ret2
              exact fin1 _ _ HPE.out (by decide) hB
            by_cases q2 : (k : Int) ≤ x
            · clear hbad
              go_wp2_with fail
              go_ret2
              exact fin1 _ _ HPE.out (by decide) hB
            by_cases q3 : y < 0
            · clear hbad
              go_wp2_with fail
              go_ret2
              exact fin1 _ _ HPE.out (by decide) hB
            have q4 : (k : Int) ≤ y := by omega
            clear hbad
            go_wp2_with fail
            go_ret2
            exact fin1 _ _ HPE.out (by decide) hB
          · have hbad' : 0 ≤ x ∧ x < k ∧ 0 ≤ y ∧ y < k := by unfold badPair at hbad; simp only at hbad; omega
            obtain ⟨hx0, hx1, hy0, hy1⟩ := hbad'
            obtain ⟨x, rfl⟩ := Int.eq_ofNat_of_zero_le hx0
            obtain ⟨y, rfl⟩ := Int.eq_ofNat_of_zero_le hy0
            have HX := Lib.hid hxy
            have HBad := Lib.hid hbad
            clear hxy hbad
            obtain ⟨g, cap', rfl, hg⟩ := hR.at_ (by omega)
            have e1 := hR.head
            have e2 := hg x (by omega)
            have e3 := ((hR.row x (by omega)).2 y (by omega)).1
            have e4 := ((hR.row x (by omega)).2 y (by omega)).2
            clear hg
            go_wp2_with fail
            go_region
            go_wp2_with fail
            go_roundg (l.length - (m + 1))
            case measure => have := hgm.out; omega
            case rel =>
              refine ⟨m + 1, by have := hgm.out; show _ = _; omega, by go_num, ?_, ?_, ?_⟩
              · exact below_draw (below_set hB (by show b0 ≤ r x; have := hR.above x (by omega); omega) _)
              · rw [take_succ' l (0, 0) hlt, HX.out, tabOf_snoc]
                exact (hR.set (by omega) (by omega) true).drew
              · intro p hp
                rw [take_succ' l (0, 0) hlt, HX.out] at hp
                rcases List.mem_append.1 hp with hp | hp
                · exact hG p hp
                · have : p = ((x : Int), (y : Int)) := by simpa using hp
                  rw [this]; exact HBad.out
        · have hml : m = l.length := by omega
          subst hml
          rw [List.take_length] at hR hG
          clear hm hlt
          have hS := TSound.first hG
          go_wp2_with fail
          go_loopg [9] k (fun g i wx => ∃ (c : Nat) (U : Nat → Nat → Bool), Aside (g + c = k) ∧ i = .int .i64 c ∧ Below b0 w wx ∧ RefAt wx b0 k r v U ∧ TSound l U ∧ Aside (Via c U))
          case atStart => exact ⟨0, _, (rfl : k + 0 = k), rfl, hB, hR, hS, fun m hm => by omega⟩
          case round =>
            clear hB hR hlb hS
            obtain ⟨c, U, hgc, rfl, hB, hR, hS, hV⟩ := hrel
            have hlb : b0 < wr.heap.size := World.block_lt_of_cell? wr _ hR.head
            have hc : c ≤ k := by have := hgc.out; omega
            have hUL := hS.lt hG
            have HUL := Lib.hid hUL
            clear hUL
            by_cases hlt : c < k
            · go_wp2_with fail
              obtain ⟨wo, rfl⟩ : ∃ wo : World, wo = wr := ⟨_, rfl⟩
              go_loopg [10] k (fun g i wx => ∃ a : Nat, Aside (g + a = k) ∧ i = .int .i64 a ∧ Below b0 w wx ∧ RefAt wx b0 k r v (viaStep U c a 0))
              case atStart => exact ⟨0, (rfl : k + 0 = k), rfl, hB, by rw [viaStep_zero]; exact hR⟩
              case round =>
                clear hB hR hlb
                obtain ⟨a, hga, rfl, hB, hR⟩ := hrel
                have hlb : b0 < wr.heap.size := World.block_lt_of_cell? wr _ hR.head
                have ha : a ≤ k := by have := hga.out; omega
                by_cases hla : a < k
                · go_wp2_with fail
                  obtain ⟨wp, rfl⟩ : ∃ wp : World, wp = wr := ⟨_, rfl⟩
                  go_loopg [11] k (fun g i wx => ∃ d : Nat, Aside (g + d = k) ∧ i = .int .i64 d ∧ Below b0 w wx ∧ RefAt wx b0 k r v (viaStep U c a d))
                  case atStart => exact ⟨0, (rfl : k + 0 = k), rfl, hB, hR⟩
                  case round =>
                    clear hB hR hlb
                    obtain ⟨d, hgd, rfl, hB, hR⟩ := hrel
                    have hlb : b0 < wr.heap.size := World.block_lt_of_cell? wr _ hR.head
                    have hd : d ≤ k := by have := hgd.out; omega
                    obtain ⟨g, cap', rfl, hg⟩ := hR.at_ (by omega)
                    have e1 := hR.head
                    have e2 := hg a (by omega)
                    have e3 := ((hR.row a (by omega)).2 c (by omega)).1
                    rw [viaStep_row] at e3
                    cases hUac : U a c with
                    | false =>
                      rw [hUac] at e3
                      have HUac := Lib.hid hUac
                      clear hUac
                      go_wp2_with fail
                      go_roundg (k - (a + 1))
                      case measure => have := hga.out; omega
                      case rel => exact ⟨a + 1, by have := hga.out; show _ = _; omega, by go_num, hB, by rw [← viaStep_skip HUac.out]; exact hR⟩
                    | true =>
                      rw [hUac] at e3
                      have HUac := Lib.hid hUac
                      clear hUac
                      by_cases hld : d < k
                      · go_wp2_with fail
                        have e4 := (hR.row a (by omega)).2 d (by omega)
                        have e5 := (hR.row c (by omega)).2 d (by omega)
                        have e6 := hg c (by omega)
                        rw [viaStep_at] at e4
                        rw [viaStep_col] at e5
                        clear hg
                        refine wp_region_ext_tail (I := Over wr) 31 (by kernel_rfl) (by kernel_rfl) (Over.refl wr) ?_
                        have f1 := Over.cell e1
                        have f2 := Over.cell e2
                        have f4 := Over.cell e4.1
                        have f5 := Over.cell e5.1
                        have f6 := Over.cell e6
                        have e44 := e4.2
                        have e41 := e4.1
                        clear e1 e2 e3 e4 e5 e6
                        simp only [List.take_succ_cons, List.take_zero, List.drop_succ_cons, List.drop_zero]
                        cases hUad : U a d with
                        | true =>
                          rw [hUad] at f4 e41
                          have HUad := Lib.hid hUad
                          clear hUad
                          repeat (go_big_quiet_step (fail))
                          try refine wpQuiet_nil ?_
                          intro w' hw'
                          have g1 := cell_kept hw' e41
                          have g2 := (hw'.frozen (p := ⟨r a, d, none⟩) (World.block_lt_of_cell? wr _ e41)).trans e44
                          clear f1 f2 f4 f5 f6 e41 e44
                          go_wp2_with fail
                          go_roundg (k - (d + 1))
                          case measure => have := hgd.out; omega
                          case rel =>
                            refine ⟨d + 1, by have := hgd.out; show _ = _; omega, by go_num, ?_, ?_⟩
                            · exact below_set (below_then hB (Nat.le_of_lt hlb) hw') (by show b0 ≤ r a; have := hR.above a (by omega); omega) _
                            · rw [← viaStep_store HUac.out, HUad.out]
                              exact (hR.kept hw').set (by omega) (by omega) true
                        | false =>
                          rw [hUad] at f4 e41
                          have HUad := Lib.hid hUad
                          clear hUad
                          repeat (go_big_quiet_step (fail))
                          try refine wpQuiet_nil ?_
                          intro w' hw'
                          have g1 := cell_kept hw' e41
                          have g2 := (hw'.frozen (p := ⟨r a, d, none⟩) (World.block_lt_of_cell? wr _ e41)).trans e44
                          clear f1 f2 f4 f5 f6 e41 e44
                          go_wp2_with fail
                          go_roundg (k - (d + 1))
                          case measure => have := hgd.out; omega
                          case rel =>
                            refine ⟨d + 1, by have := hgd.out; show _ = _; omega, by go_num, ?_, ?_⟩
                            · exact below_set (below_then hB (Nat.le_of_lt hlb) hw') (by show b0 ≤ r a; have := hR.above a (by omega); omega) _
                            · rw [← viaStep_store HUac.out, HUad.out]
                              exact (hR.kept hw').set (by omega) (by omega) (U c d)
                      · have hdk : d = k := by omega
                        subst hdk
                        go_wp2_with fail
                        go_roundg (d - (a + 1))
                        case measure => have := hga.out; omega
                        case rel => exact ⟨a + 1, by have := hga.out; show _ = _; omega, by go_num, hB, by rw [← viaStep_full HUL.out]; exact hR⟩
                · have hak : a = k := by omega
                  subst hak
                  go_wp2_with fail
                  go_roundg (a - (c + 1))
                  case measure => have := hgc.out; omega
                  case rel => exact ⟨c + 1, _, by have := hgc.out; show _ = _; omega, by go_num, hB, by rw [← viaStep_all HUL.out]; exact hR, hS.next c, hV.out.next⟩
            · have hck : c = k := by omega
              subst hck
              have hall := Via.all hG hS hV.out
              have HAll := Lib.hid hall
              clear hall
              go_wp2_with fail
              go_loopg [12] c (fun g i wx => ∃ m : Nat, Aside (g + m = c) ∧ i = .int .i64 m ∧ Below b0 w wx ∧ RefAt wx b0 c r v U ∧ Aside (∀ f, f < m → U f f = false))
              case atStart => exact ⟨0, (rfl : c + 0 = c), rfl, hB, hR, fun f hf => by omega⟩
              case round =>
                clear hB hR hlb
                obtain ⟨m, hgm, rfl, hB, hR, hN⟩ := hrel
                have hlb : b0 < wr.heap.size := World.block_lt_of_cell? wr _ hR.head
                have hm : m ≤ c := by have := hgm.out; omega
                by_cases hlm : m < c
                · obtain ⟨g, cap', rfl, hg⟩ := hR.at_ (by omega)
                  have e1 := hR.head
                  have e2 := hg m (by omega)
                  have e3 := ((hR.row m (by omega)).2 m (by omega)).1
                  clear hg
                  cases hbit : U m m with
                  | true =>
                    have hpe : perr c l = 101 := by
                      unfold perr; rw [if_neg (by omega), if_neg (fun h => h hG), if_pos ⟨m, (HAll.out m m).1 hbit⟩]
                    have HPE := Lib.hid hpe
                    rw [hbit] at e3
                    clear hpe hbit
                    go_wp2_with fail
                    go_ret2
                    exact fin1 _ _ HPE.out (by decide) hB
                  | false =>
                    have HBit := Lib.hid hbit
                    rw [hbit] at e3
                    clear hbit
                    go_wp2_with fail
                    go_roundg (c - (m + 1))
                    case measure => have := hgm.out; omega
                    case rel =>
                      refine ⟨m + 1, by have := hgm.out; show _ = _; omega, by go_num, hB, hR, fun f hf => ?_⟩
                      by_cases e : f = m
                      · rw [e]; exact HBit.out
                      · exact hN.out f (by omega)
                · have hmc : m = c := by omega
                  subst hmc
                  have hpe : perr m l = 0 := by
                    unfold perr; rw [if_neg (by omega), if_neg (fun h => h hG), if_neg]
                    rintro ⟨f, hf⟩
                    have hr := hf.range hG
                    obtain ⟨f, rfl⟩ := Int.eq_ofNat_of_zero_le hr.1
                    have h2 := hN.out f (by omega)
                    rw [(HAll.out f f).2 hf] at h2
                    cases h2
                  have HPE := Lib.hid hpe
                  clear hpe
                  go_wp2_with fail
                  go_ret2
                  exact fin2 _ HPE.out hB ⟨m, r, v, U, rfl, by omega, hR, hG, HAll.out⟩
end Go.Proofs.YthpdfkhmhaobgaaDoor
