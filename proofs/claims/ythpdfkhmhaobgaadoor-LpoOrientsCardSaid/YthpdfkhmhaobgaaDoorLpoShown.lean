/- The examples at the head of the statements of layer 11, and the two helpers. Conditions: none. -/
import Derived.Test.YthpdfkhmhaobgaaDoorLpoEx
import Derived.Test.YthpdfkhmhaobgaaDoorPrecD
set_option linter.unusedVariables false
set_option linter.unusedSimpArgs false
set_option linter.unnecessarySimpa false
namespace Go.Proofs.YthpdfkhmhaobgaaDoor
open Go.RowKit Go.Lib

theorem fresh_two {w : World} (s t : List Int) (h1 : small s) (h2 : small t) : Below w.heap.size w (row3 (row3 w s) t) ∧ Ints (row3 (row3 w s) t) (some ⟨w.heap.size, 0, none⟩) s ∧ Ints (row3 (row3 w s) t) (some ⟨w.heap.size + 1, 0, none⟩) t := by
  refine ⟨(below_alloc0 w _).alloc (by simp) _, ?_, Ints.fresh t _ (by simp) h2.1 h2.2⟩
  exact (Ints.fresh s _ rfl h1.1 h1.2).kept (below_alloc0 _ _)
theorem lg_fresh (A : Option Addr) (s t : List Int) (p : Nat) (w0 w : World) (b : Bool) (hg : lg threeL q1 s t = b) (h1 : small s) (h2 : small t) (hb : Below w0.heap.size w0 w) (hS : Sigs w A threeL) (hT : Tabs w0) (hP : IsPrec w p 3 q1) :
    Calls Tryd.prog 12 #[.slice A 3 3, .pointer (some ⟨p, 0, none⟩), .slice (some ⟨w.heap.size, 0, none⟩) s.length s.length, .slice (some ⟨w.heap.size + 1, 0, none⟩) t.length t.length] (row3 (row3 w s) t) fun e w' => e = .returned (.bool b) ∧ Below w0.heap.size w0 w' ∧ Sigs w' A threeL ∧ IsPrec w' p 3 q1 := by
  obtain ⟨b1, i1, i2⟩ := fresh_two (w := w) s t h1 h2
  have := lgreater_any A _ _ threeL q1 s t p 3 3 s.length t.length (by decide) (Nat.le_refl _) (Nat.le_refl _) _ cyc_1 (hS.kept b1) i1 i2 ((hT.kept hb).kept b1) (hP.kept b1)
  rw [hg] at this
  refine this.mono ?_
  rintro e w' ⟨rfl, h⟩
  exact ⟨rfl, below_then (below_then hb hb.size b1) (below_then hb hb.size b1).size h, (hS.kept b1).kept h, (hP.kept b1).kept h⟩
set_option maxRecDepth 100000 in
set_option maxHeartbeats 4000000 in
theorem lshown_any (w : World) (hT : Tabs w) : Calls Tryd.prog 10 #[] w fun e w' => e = .returned (.bool true) ∧ Below w.heap.size w w' := by
  have HT := Lib.hid hT
  clear hT
  go_enter Tryd.func10, Tryd.ntmps10
  go_wp2_with fail
  refine (three_any w).mono ?_
  rintro e w1 ⟨A, rfl, hb1, hS⟩
  have HS := Lib.hid hS
  clear hS
  go_wp2_with fail
  refine (close_ok 3 _ q1 1 1 _ rfl (Pairs.one (by go_simp) (by go_simp)) perr_1).mono ?_
  rintro e w2 ⟨rfl, hb2, hP⟩
  have hb2' := below_then hb1 hb1.size (below_then (below_alloc0 w1 _) (by simp) hb2)
  obtain ⟨p, hp⟩ : ∃ p, p = (w1.alloc (Obj.cells #[.int .i64 2, .int .i64 1] 54)).heap.size := ⟨_, rfl⟩
  rw [← hp] at hP ⊢
  have hS2 := HS.out.kept (below_then (below_alloc0 w1 _) (by simp) hb2)
  have HS2 := Lib.hid hS2
  have HP := Lib.hid hP
  clear hp hS2 hP hb2
  go_wp2_with fail
  refine (lg_fresh A [2, 1, -1, -2] [1, 2, -1, -2] p w w2 true ex_ab (by decide) (by decide) hb2' HS2.out HT.out HP.out).mono ?_
  rintro e w3 ⟨rfl, hb3, hS3, hP3⟩
  have HS3 := Lib.hid hS3
  have HP3 := Lib.hid hP3
  clear hS3 hP3
  go_wp2_with fail
  refine (lg_fresh A [1, 2, -1, -2] [2, 1, -1, -2] p w w3 false ex_ba (by decide) (by decide) hb3 HS3.out HT.out HP3.out).mono ?_
  rintro e w4 ⟨rfl, hb4, hS4, hP4⟩
  have HS4 := Lib.hid hS4
  have HP4 := Lib.hid hP4
  clear hS4 hP4
  go_wp2_with fail
  refine (lg_fresh A [2, 1, 0, 0] [2, 0, 1, 0] p w w4 true ex_cd (by decide) (by decide) hb4 HS4.out HT.out HP4.out).mono ?_
  rintro e w5 ⟨rfl, hb5, hS5, hP5⟩
  have HS5 := Lib.hid hS5
  have HP5 := Lib.hid hP5
  clear hS5 hP5
  go_wp2_with fail
  refine (lg_fresh A [1, -1] [-2] p w w5 false ex_ef (by decide) (by decide) hb5 HS5.out HT.out HP5.out).mono ?_
  rintro e w6 ⟨rfl, hb6, hS6, hP6⟩
  have HS6 := Lib.hid hS6
  have HP6 := Lib.hid hP6
  clear hS6 hP6
  go_wp2_with fail
  obtain ⟨b1, i1, i2⟩ := fresh_two (w := w6) [1, -1] [2, -1, -1] (by decide) (by decide)
  have hc := lorient_any A _ _ threeL q1 [1, -1] [2, -1, -1] p 3 3 2 3 (by decide) (by decide) (by decide) _ cyc_1 (HS6.out.kept b1) i1 i2 ((HT.out.kept hb6).kept b1) (HP6.out.kept b1)
  rw [ex_orient] at hc
  refine hc.mono ?_
  rintro e w7 ⟨rfl, h⟩
  have hb7 := below_then (below_then hb6 hb6.size b1) (below_then hb6 hb6.size b1).size h
  clear b1 i1 i2 hc h
  go_wp2_with fail
  go_ret
  exact ⟨rfl, hb7⟩
end Go.Proofs.YthpdfkhmhaobgaaDoor
