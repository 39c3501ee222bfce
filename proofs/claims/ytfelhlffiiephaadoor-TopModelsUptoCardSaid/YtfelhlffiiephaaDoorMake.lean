/- Rows of numbers that a call makes, and copies into them, as laws for the walk. Conditions: none. -/
import Derived.Test.YtfelhlffiiephaaDoorRow
import Derived.OwnWalk
import Derived.Laws.CopyOwn
import Derived.Maps.Range
set_option linter.unusedVariables false
set_option linter.unusedSimpArgs false
namespace Go.Proofs.YtfelhlffiiephaaDoor
open Go.RowKit Go.Lib

theorem madeInts : ∀ n : Nat, (madeCells (Value.int .i64 0).cells (n * 1)).toList = icells (List.replicate n 0) := by
  intro n
  rw [Nat.mul_one]
  apply List.ext_getElem
  · simp [madeCells, icells]
  · intro i h1 h2
    simp [madeCells, icells, Value.cells, Nat.mod_one]
theorem grown_none {w w' : World} (h : w.grownBy w' none) : Below w.heap.size w w' := ⟨h.os, h.tape, h.output, h.size, fun i hi => h.block i hi (by simp)⟩
theorem RowO.block {w : World} {base g n cap : Nat} {t : List Int} (h : RowO w base (.slice (some ⟨g, 0, none⟩) n cap) t) : base ≤ g ∧ g < w.heap.size := h.1.lt g rfl
/-- 'make([]int, n)'. -/
theorem wpList_make_ints {w : World} {ops : Array Oper} {rest : List Oper} {o : Oper} {a : Act} {Q : Exit → Act → World → Prop} (hg : o.guard = none) (l c : Operand) (hop : o.op = Op.makeSlice 38 l c)
    (L C : Int) (n : Nat) (hl : a.eval l = .int .i64 L) (hc : a.eval c = .int .i64 C) (hL : L = (n : Int)) (hC : C = (n : Int)) (h8 : n * 8 ≤ 140737488355328)
    (hK : ∀ w', RowO w' w.heap.size (.slice (some ⟨w.heap.size, 0, none⟩) n n) (List.replicate n 0) → Below w.heap.size w w' → wpList Tryd.prog ops Q rest (a.put o.dst (.slice (some ⟨w.heap.size, 0, none⟩) n n)) w') : wpList Tryd.prog ops Q (o :: rest) a w := by
  obtain ⟨i, hi, hz0, hz1, hz2⟩ := info_parts infoInt
  refine wpList_make_full w hg l c 38 hop w.heap.size 3 i (.int .i64 0) 1 Tryd.underlying38 hi hz0 hz1 .i64 .i64 L C n hl hc hL hC (by rw [hz2]; omega) (by simp only [maxLen]; omega) (Nat.le_refl _) ?_
  intro w' h1 h2
  refine hK w' ⟨?_, by rw [List.length_replicate]; exact h8, fun x hx => ?_⟩ (grown_none h2)
  · rw [List.length_replicate, ← madeInts]; exact h1
  · rw [(List.mem_replicate.1 hx).2]; exact ⟨by omega, by omega⟩
/-- 'copy(out, t)': into the head of a row of the call's own. -/
theorem wpList_copy_ints {w : World} {ops : Array Oper} {rest : List Oper} {o : Oper} {a : Act} {Q : Exit → Act → World → Prop} (hg : o.guard = none) (d s : Operand)
    (hop : o.op = .call { callee := .builtin .copy, args := #[d, s], argTypes := #[38, 38] }) (g n cap : Nat) (old : List Int) (B : Option Addr) (t : List Int) (tc base : Nat)
    (hd : a.eval d = .slice (some ⟨g, 0, none⟩) n cap) (hs : a.eval s = .slice B t.length tc) (hO : RowO w base (.slice (some ⟨g, 0, none⟩) n cap) old) (hn : n = old.length) (ht : Ints w B t) (hle : t.length ≤ n) (w0 : World) (B0 : Nat) (hb : Below B0 w0 w) (hB0 : B0 ≤ g)
    (hK : ∀ w', RowO w' base (.slice (some ⟨g, 0, none⟩) n cap) (t ++ old.drop t.length) → Below B0 w0 w' → wpList Tryd.prog ops Q rest (a.put o.dst (.int .i64 t.length)) w') : wpList Tryd.prog ops Q (o :: rest) a w := by
  obtain ⟨⟨hl, hrow⟩, h8, hr⟩ := hO
  rcases hrow with ⟨h, _⟩ | ⟨g', cap', cur, he, hbg, hgt, hnc, hcm, hcs, htk⟩
  · cases h
  injection he with e1 e2 e3
  injection e1 with e1
  injection e1 with e1
  subst e1 e3 hn
  have hcl : cur.toList.length = cap := by rw [Array.length_toList, hcs, Nat.mul_one]
  have hnc' : old.length ≤ cap := hnc
  refine wpList_copy_splice hg d s 38 38 hop 3 Tryd.underlying38 (by obtain ⟨i, hi, _, hz1, _⟩ := info_parts infoInt; rw [hi]; exact congrArg some hz1) _ B old.length cap t.length tc hd hs g 0 cur.toList 3 (by rw [Array.toArray_toList]; exact hgt) (icells t)
    (by rw [icells_length, Nat.mul_one]; exact (Nat.min_eq_left hle).symm) ?_ (by rw [icells_length, hcl]; omega) (icells_one t) B0 w0 hb hB0 ?_
  · intro h0
    rw [icells_length] at h0
    obtain ⟨b, off, rfl, hc⟩ := ht.cells (by omega)
    refine ⟨rfl, _, rfl, fun j v hj => ?_⟩
    have := hc j v hj
    rw [Addr.add]; split
    · rename_i h0; subst h0; exact this
    · exact this
  · intro w' hw' hb'
    have e9 : goInt (icells t).length = .int .i64 (t.length : Int) := by rw [icells_length, Nat.mul_one]; rfl
    rw [e9]
    refine hK w' ⟨⟨by rw [icells_length], .inr ⟨g, cap, _, ?_, hbg, hw'.out, ?_, hcm, ?_, ?_⟩⟩, ?_, ?_⟩ hb'
    · rw [List.length_append, List.length_drop]; congr 1 <;> omega
    · rw [List.length_append, List.length_drop]; omega
    · have := length_splice cur.toList 0 (icells t) (by rw [icells_length, hcl]; omega)
      rw [← Array.length_toList, List.toList_toArray, this, hcl, Nat.mul_one]
    · rw [List.toList_toArray]
      unfold splice
      rw [List.take_zero, List.nil_append, Nat.zero_add, Nat.mul_one, icells_append, List.length_append, List.length_drop, icells_length, Nat.mul_one]
      have e1 : t.length + (old.length - t.length) = old.length := by omega
      rw [e1, List.take_append, icells_length, Nat.mul_one, List.take_of_length_le (by rw [icells_length]; omega)]
      congr 1
      rw [← List.drop_take]
      have : List.take old.length cur.toList = icells old := by rw [Nat.mul_one] at htk; exact htk
      rw [this]
      simp [icells, List.map_drop]
    · rw [List.length_append, List.length_drop]; omega
    · intro x hx
      rcases List.mem_append.1 hx with hx | hx
      · exact ht.1 x hx
      · exact hr x (List.mem_of_mem_drop hx)
/-- A store in a row of the call's own, seen from a world before. -/
theorem below_store {B : Nat} {w0 w : World} {base g n cap k : Nat} {t : List Int} {u : Value} (h : RowO w base (.slice (some ⟨g, 0, none⟩) n cap) t) (hb : Below B w0 w) (hB : B ≤ base) : Below B w0 (w.setCell ⟨g, k, none⟩ u) :=
  below_set hb (Nat.le_trans hB h.block.1) u
end Go.Proofs.YtfelhlffiiephaaDoor
