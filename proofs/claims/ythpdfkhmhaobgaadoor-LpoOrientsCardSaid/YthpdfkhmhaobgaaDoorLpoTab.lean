/- The path order's table of pairs of places, in memory. Conditions: none. -/
import Derived.Test.YthpdfkhmhaobgaaDoorLpoSame
import Derived.Test.YthpdfkhmhaobgaaDoorLpoStep
import Derived.Test.YthpdfkhmhaobgaaDoorLpoGrow
import Derived.Test.YthpdfkhmhaobgaaDoorMapsP
import Derived.Test.YthpdfkhmhaobgaaDoorPrecD
set_option linter.unusedVariables false
set_option linter.unusedSimpArgs false
set_option linter.unnecessarySimpa false
namespace Go.Proofs.YthpdfkhmhaobgaaDoor
open Go.RowKit Go.Lib

open Classical in
noncomputable def gB (l : List Sy) (q : List (Int × Int)) (s t : List Int) (i j : Nat) : Bool := decide (G l q s t i j)
theorem gB_true {l : List Sy} {q : List (Int × Int)} {s t : List Int} {i j : Nat} (h : G l q s t i j) : gB l q s t i j = true := by unfold gB; simp [h]
theorem gB_false {l : List Sy} {q : List (Int × Int)} {s t : List Int} {i j : Nat} (h : ¬ G l q s t i j) : gB l q s t i j = false := by unfold gB; simp [h]
theorem gB_iff {l : List Sy} {q : List (Int × Int)} {s t : List Int} {i j : Nat} : gB l q s t i j = true ↔ G l q s t i j := by unfold gB; simp
/-- An entry is right. -/
def RightAt (l : List Sy) (q : List (Int × Int)) (s t : List Int) (f : Int × Int → Option Value) (x y : Nat) : Prop :=
  f ((x : Int), (y : Int)) = none ∨ f ((x : Int), (y : Int)) = some (.int .i64 (if gB l q s t x y then 1 else 2))
/-- How many pairs have no entry. -/
def free (f : Int × Int → Option Value) : Nat := ((List.range 262144).filter fun z => (f (((z / 512 : Nat) : Int), ((z % 512 : Nat) : Int))).isNone).length
theorem free_le (f : Int × Int → Option Value) : free f ≤ 262144 := by
  unfold free
  exact Nat.le_trans (List.length_filter_le _ _) (by simp)
theorem free_put (f : Int × Int → Option Value) (v : Value) {x y : Nat} (hx : x < 512) (hy : y < 512) :
    (if (f ((x : Int), (y : Int))).isSome then 0 else 1) + free (fun d => if d = ((x : Int), (y : Int)) then some v else f d) ≤ free f := by
  have hle : ∀ z, (if (((z / 512 : Nat) : Int), ((z % 512 : Nat) : Int)) = ((x : Int), (y : Int)) then some v else f (((z / 512 : Nat) : Int), ((z % 512 : Nat) : Int))).isNone = true → (f (((z / 512 : Nat) : Int), ((z % 512 : Nat) : Int))).isNone = true := fun z hz => by
    split at hz
    · cases hz
    · exact hz
  cases hf : f ((x : Int), (y : Int)) with
  | some u =>
    simp only [Option.isSome_some, if_true, Nat.zero_add]
    unfold free
    exact filter_len_le _ _ _ (fun z _ hz => hle z hz)
  | none =>
    have h1 : (x * 512 + y) / 512 = x := by omega
    have h2 : (x * 512 + y) % 512 = y := by omega
    have := filter_len_lt (fun z => (if (((z / 512 : Nat) : Int), ((z % 512 : Nat) : Int)) = ((x : Int), (y : Int)) then some v else f (((z / 512 : Nat) : Int), ((z % 512 : Nat) : Int))).isNone) (fun z => (f (((z / 512 : Nat) : Int), ((z % 512 : Nat) : Int))).isNone) (List.range 262144) (fun z _ hz => hle z hz) (y := x * 512 + y) (by simp; omega) (by simp only [h1, h2]; simp) (by simp only [h1, h2, hf]; rfl)
    simp only [Option.isSome_none, Bool.false_eq_true, if_false]
    unfold free
    rw [Nat.add_comm]
    exact this
/-- The order's struct, its precedence and its table. -/
structure Tab (w : World) (ob pb mb : Nat) (n : Int) (q : List (Int × Int)) (f : Int × Int → Option Value) (size : Nat) : Prop where
  c0 : w.cell? ⟨ob, 0, none⟩ = some (.pointer (some ⟨pb, 0, none⟩))
  c1 : w.cell? ⟨ob, 1, none⟩ = some (.map (some mb))
  prec : IsPrec w pb n q
  map : MapP w mb size f
  small : size + free f ≤ 262144
  ne1 : ob ≠ mb
  ne2 : pb ≠ mb
theorem Tab.below {w w' : World} {ob pb mb : Nat} {n : Int} {q : List (Int × Int)} {f : Int × Int → Option Value} {size : Nat} (h : Tab w ob pb mb n q f size) (hb : Below w.heap.size w w') : Tab w' ob pb mb n q f size :=
  ⟨cell_kept hb h.c0, cell_kept hb h.c1, h.prec.kept hb, h.map.below hb, h.small, h.ne1, h.ne2⟩
theorem Tab.lt {w : World} {ob pb mb : Nat} {n : Int} {q : List (Int × Int)} {f : Int × Int → Option Value} {size : Nat} (h : Tab w ob pb mb n q f size) : pb < w.heap.size := by
  obtain ⟨D, hP, _⟩ := h.prec
  exact hP.lt
theorem Tab.put {w w' : World} {ob pb mb : Nat} {n : Int} {q : List (Int × Int)} {f : Int × Int → Option Value} {size : Nat} (h : Tab w ob pb mb n q f size) {x y : Nat} (hx : x < 512) (hy : y < 512) {v : Value}
    (hm : MapP w' mb (if (f ((x : Int), (y : Int))).isSome then size else size + 1) (fun d => if d = ((x : Int), (y : Int)) then some v else f d)) (hg : w.grownBy w' (some mb)) :
    Tab w' ob pb mb n q (fun d => if d = ((x : Int), (y : Int)) then some v else f d) (if (f ((x : Int), (y : Int))).isSome then size else size + 1) := by
  refine ⟨hg.cell h.c0 (by simpa using h.ne1), hg.cell h.c1 (by simpa using h.ne1), h.prec.frame (hg.block pb h.lt (by simpa using h.ne2)), hm, ?_, h.ne1, h.ne2⟩
  have h1 := free_put f v hx hy
  have h2 := h.small
  split
  · rename_i hs; rw [if_pos hs] at h1; omega
  · rename_i hs; rw [if_neg hs] at h1; omega
/-- What a comparison has done. -/
def GPost (l : List Sy) (s t : List Int) (ob pb mb : Nat) (n : Int) (q : List (Int × Int)) (P : Nat → Nat → Prop) (M : Nat) (f0 : Int × Int → Option Value) (w : World) (r : Bool) (e : Ending) (w' : World) : Prop :=
  e = .returned (.bool r) ∧ w.grownBy w' (some mb) ∧ ∃ f size, Tab w' ob pb mb n q f size ∧ (∀ x y, P x y → RightAt l q s t f x y) ∧ ∀ x y : Nat, x + y < M → f ((x : Int), (y : Int)) = f0 ((x : Int), (y : Int))
theorem keeps_turn {S : Nat → Prop} {mb : Nat} {w w' : World} (hS : ¬ S mb) (h : w.grownBy w' (some mb)) : Keeps S S w w' := ⟨h.size, fun b hb hlt => ⟨hb, h.block b hlt (fun e => by cases e; exact hS hb)⟩⟩
theorem keeps_over {S : Nat → Prop} {w w' : World} (h : Below w.heap.size w w') : Keeps S S w w' := ⟨h.size, fun b hb hlt => ⟨hb, h.block b hlt⟩⟩
theorem grown_below_left {w w1 w2 : World} {row : Option Nat} (h : Below w.heap.size w w1) (k : w1.grownBy w2 row) : w.grownBy w2 row :=
  (show w.grownBy w1 row from ⟨h.os, h.tape, h.output, h.size, fun i hi _ => h.block i hi⟩).trans k
theorem grown_below_right {w w1 w2 : World} {row : Option Nat} (h : w.grownBy w1 row) (k : Below w1.heap.size w1 w2) : w.grownBy w2 row :=
  h.trans ⟨k.os, k.tape, k.output, k.size, fun i hi _ => k.block i hi⟩
end Go.Proofs.YthpdfkhmhaobgaaDoor
