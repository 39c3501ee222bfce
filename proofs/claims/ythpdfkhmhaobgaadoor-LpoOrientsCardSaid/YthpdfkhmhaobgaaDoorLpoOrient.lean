/- A rule turned by the path order, as the program tells it. Conditions: the precedence is an order. -/
import Derived.Test.YthpdfkhmhaobgaaDoorLpoTop
set_option linter.unusedVariables false
set_option linter.unusedSimpArgs false
set_option linter.unnecessarySimpa false
namespace Go.Proofs.YthpdfkhmhaobgaaDoor
open Go.RowKit Go.Lib

/-- What the program answers. -/
noncomputable def lor (l : List Sy) (q : List (Int × Int)) (s t : List Int) : Int := if lg l q s t = true then 1 else if lg l q t s = true then -1 else 0
set_option maxRecDepth 100000 in
set_option maxHeartbeats 4000000 in
theorem lorient_any (A B C : Option Addr) (l : List Sy) (q : List (Int × Int)) (s t : List Int) (pb : Nat) (n : Int) (lc sc tc : Nat) (hlc : l.length ≤ lc) (hsc : s.length ≤ sc) (htc : t.length ≤ tc) (w : World) (hcyc : ¬ Cyclic q) (hl : Sigs w A l) (hs : Ints w B s) (ht : Ints w C t) (hT : Tabs w) (hP : IsPrec w pb n q) :
    Calls Tryd.prog 14 #[.slice A l.length lc, .pointer (some ⟨pb, 0, none⟩), .agg #[.slice B s.length sc, .slice C t.length tc]] w fun e w' => e = .returned (.int .i64 (lor l q s t)) ∧ Below w.heap.size w w' := by
  have c1 := fun (w1 : World) (hb : Below w.heap.size w w1) => lgreater_any A B C l q s t pb n lc sc tc hlc hsc htc w1 hcyc (hl.kept hb) (hs.kept hb) (ht.kept hb) (hT.kept hb) (hP.kept hb)
  have c2 := fun (w1 : World) (hb : Below w.heap.size w w1) => lgreater_any A C B l q t s pb n lc tc sc hlc htc hsc w1 hcyc (hl.kept hb) (ht.kept hb) (hs.kept hb) (hT.kept hb) (hP.kept hb)
  obtain ⟨r, hr⟩ : ∃ r, r = lor l q s t := ⟨_, rfl⟩
  rw [← hr]
  have HR := Lib.hid hr
  have hbx : Below w.heap.size w (w.alloc (.cells #[.slice B s.length sc, .slice C t.length tc] 35)) := below_alloc0 _ _
  have C1 := Lib.hid c1
  have C2 := Lib.hid c2
  clear hr c1 c2 hl hs ht hT hP
  go_enter Tryd.func14, Tryd.ntmps14
  go_wp2_with fail
  cases h1 : lg l q s t with
  | true =>
    have hf : r = 1 := by rw [HR.out, lor, if_pos h1]
    subst hf
    refine (C1.out _ hbx).mono ?_
    rw [h1]
    rintro e w1 ⟨rfl, hb1⟩
    have hb2 := below_then hbx hbx.size hb1
    go_wp2_with fail
    go_ret
    exact ⟨rfl, hb2⟩
  | false =>
    refine (C1.out _ hbx).mono ?_
    rw [h1]
    rintro e w1 ⟨rfl, hb1⟩
    have hb2 := below_then hbx hbx.size hb1
    have k0 := cell_kept hb1 (World.cell?_alloc_new w #[.slice B s.length sc, .slice C t.length tc] 35 0)
    have k1 := cell_kept hb1 (World.cell?_alloc_new w #[.slice B s.length sc, .slice C t.length tc] 35 1)
    simp at k0 k1
    have c2 := C2.out _ hb2
    cases h2 : lg l q t s with
    | true =>
      rw [h2] at c2
      have hf : r = -1 := by rw [HR.out, lor, if_neg (by simp [h1]), if_pos h2]
      subst hf
      go_wp2_with fail
      refine c2.mono ?_
      rintro e w2 ⟨rfl, hb3⟩
      have hb4 := below_then hb2 hb2.size hb3
      go_wp2_with fail
      go_ret
      exact ⟨rfl, hb4⟩
    | false =>
      rw [h2] at c2
      have hf : r = 0 := by rw [HR.out, lor, if_neg (by simp [h1]), if_neg (by simp [h2])]
      subst hf
      go_wp2_with fail
      refine c2.mono ?_
      rintro e w2 ⟨rfl, hb3⟩
      have hb4 := below_then hb2 hb2.size hb3
      go_wp2_with fail
      go_ret
      exact ⟨rfl, hb4⟩
end Go.Proofs.YthpdfkhmhaobgaaDoor
