/- The path order told of whole terms, and the document's examples. Conditions: none. -/
import Derived.Test.YthpdfkhmhaobgaaDoorLpoOrient
import Derived.Test.YthpdfkhmhaobgaaDoorThree
set_option linter.unusedVariables false
set_option linter.unusedSimpArgs false
set_option linter.unnecessarySimpa false
namespace Go.Proofs.YthpdfkhmhaobgaaDoor
open Go.RowKit Go.Lib

theorem root_tree {l : List Sy} {t : List Int} {a : Tm} (h : termErr l t = 0) (hf : a.flat = t) (hfit : a.fits (arOf l)) : treeAt l t 0 = a := by
  unfold treeAt subAt
  rw [endOf_ok (root_ok h), Nat.sub_zero, List.drop_zero, List.take_length]
  exact treeOf_is hf hfit
theorem lg_iff {l : List Sy} {q : List (Int × Int)} {s t : List Int} {a b : Tm} (h1 : termErr l s = 0) (h2 : termErr l t = 0) (h3 : s.length ≤ 512) (h4 : t.length ≤ 512) (fa : a.flat = s) (ta : a.fits (arOf l)) (fb : b.flat = t) (tb : b.fits (arOf l)) : lg l q s t = true ↔ Gt (Ab q) a b := by
  unfold lg
  rw [if_pos ⟨h1, h2, h3, h4⟩, gB_iff]
  unfold G
  rw [root_tree h1 fa ta, root_tree h2 fb tb]
abbrev q1 : List (Int × Int) := [(2, 1)]
theorem tc_1 {a b : Int} (h : TC q1 a b) : b < a := by
  induction h with
  | one h => simp at h; omega
  | step h _ ih => simp at h; omega
theorem cyc_1 : ¬ Cyclic q1 := fun ⟨f, hf⟩ => by have := tc_1 hf; omega
theorem perr_1 : perr 3 q1 = 0 := by
  rw [perr_zero]
  refine ⟨by omega, ?_, cyc_1⟩
  intro p hp; simp at hp; subst hp; simp [badPair]
theorem anti_1 {a b : Tm} (h : Gt (Ab q1) a b) : ¬ Gt (Ab q1) b a := fun k => Gt.irrefl (ab_trans q1) (ab_irrefl cyc_1) _ (h.trans (ab_trans q1) k)
abbrev exA : Tm := .fn 2 [.fn 1 [.var (-1)], .var (-2)]
abbrev exB : Tm := .fn 1 [.fn 2 [.var (-1), .var (-2)]]
abbrev exC : Tm := .fn 2 [.fn 1 [.fn 0 []], .fn 0 []]
abbrev exD : Tm := .fn 2 [.fn 0 [], .fn 1 [.fn 0 []]]
abbrev exE : Tm := .fn 1 [.var (-1)]
abbrev exF : Tm := .var (-2)
abbrev exG : Tm := .fn 2 [.var (-1), .var (-1)]
theorem above_1 : Ab q1 2 1 := .one (by simp)
theorem gt_AB : Gt (Ab q1) exA exB := .prec above_1 fun b hb => by
  simp at hb
  subst hb
  refine Gt.lex (pre := []) (.self (by simp)) fun x hx => ?_
  simp at hx
  rcases hx with rfl | rfl
  · exact .sub (a := .fn 1 [.var (-1)]) (by simp) (.self (by simp))
  · exact .self (by simp)
theorem gt_CD : Gt (Ab q1) exC exD := Gt.lex (pre := []) (.self (by simp)) fun x hx => by
  simp at hx
  rcases hx with rfl | rfl
  · exact .self (by simp)
  · exact .self (by simp)
theorem gt_EF : ¬ Gt (Ab q1) exE exF := fun h => by
  have key : ∀ {s t : Tm}, Gt (Ab q1) s t → s = exE → t = exF → False := fun h => by
    intro e1 e2
    cases h with
    | self h => cases e1; subst e2; simp at h
    | sub h g => cases e1; simp at h; subst h; cases g
    | prec _ _ => cases e2
    | lex _ _ => cases e2
  exact key h rfl rfl
theorem gt_GE : Gt (Ab q1) exG exE := .prec above_1 fun b hb => by
  simp at hb
  subst hb
  exact .self (by simp)
theorem not_lg {l : List Sy} {q : List (Int × Int)} {s t : List Int} {P : Prop} (h : lg l q s t = true ↔ P) (hn : ¬ P) : lg l q s t = false := by cases hx : lg l q s t with
  | true => exact absurd (h.1 hx) hn
  | false => rfl
theorem ex_ab : lg threeL q1 [2, 1, -1, -2] [1, 2, -1, -2] = true := (lg_iff (l := threeL) (q := q1) (s := [2, 1, -1, -2]) (t := [1, 2, -1, -2]) (a := exA) (b := exB) (by kernel_rfl) (by kernel_rfl) (by decide) (by decide) rfl (by simp [Tm.fits, Tm.allFit, arOf, threeL, sy0]) rfl (by simp [Tm.fits, Tm.allFit, arOf, threeL, sy0])).2 gt_AB
theorem ex_ba : lg threeL q1 [1, 2, -1, -2] [2, 1, -1, -2] = false := not_lg (lg_iff (l := threeL) (q := q1) (s := [1, 2, -1, -2]) (t := [2, 1, -1, -2]) (a := exB) (b := exA) (by kernel_rfl) (by kernel_rfl) (by decide) (by decide) rfl (by simp [Tm.fits, Tm.allFit, arOf, threeL, sy0]) rfl (by simp [Tm.fits, Tm.allFit, arOf, threeL, sy0])) (anti_1 gt_AB)
theorem ex_cd : lg threeL q1 [2, 1, 0, 0] [2, 0, 1, 0] = true := (lg_iff (l := threeL) (q := q1) (s := [2, 1, 0, 0]) (t := [2, 0, 1, 0]) (a := exC) (b := exD) (by kernel_rfl) (by kernel_rfl) (by decide) (by decide) rfl (by simp [Tm.fits, Tm.allFit, arOf, threeL, sy0]) rfl (by simp [Tm.fits, Tm.allFit, arOf, threeL, sy0])).2 gt_CD
theorem ex_ef : lg threeL q1 [1, -1] [-2] = false := not_lg (lg_iff (l := threeL) (q := q1) (s := [1, -1]) (t := [-2]) (a := exE) (b := exF) (by kernel_rfl) (by kernel_rfl) (by decide) (by decide) rfl (by simp [Tm.fits, Tm.allFit, arOf, threeL, sy0]) rfl (by simp [Tm.fits, Tm.allFit, arOf, threeL, sy0])) gt_EF
theorem ex_eg : lg threeL q1 [1, -1] [2, -1, -1] = false := not_lg (lg_iff (l := threeL) (q := q1) (s := [1, -1]) (t := [2, -1, -1]) (a := exE) (b := exG) (by kernel_rfl) (by kernel_rfl) (by decide) (by decide) rfl (by simp [Tm.fits, Tm.allFit, arOf, threeL, sy0]) rfl (by simp [Tm.fits, Tm.allFit, arOf, threeL, sy0])) (anti_1 gt_GE)
theorem ex_ge : lg threeL q1 [2, -1, -1] [1, -1] = true := (lg_iff (l := threeL) (q := q1) (s := [2, -1, -1]) (t := [1, -1]) (a := exG) (b := exE) (by kernel_rfl) (by kernel_rfl) (by decide) (by decide) rfl (by simp [Tm.fits, Tm.allFit, arOf, threeL, sy0]) rfl (by simp [Tm.fits, Tm.allFit, arOf, threeL, sy0])).2 gt_GE
theorem ex_orient : lor threeL q1 [1, -1] [2, -1, -1] = -1 := by rw [lor, ex_eg, ex_ge]; rfl
end Go.Proofs.YthpdfkhmhaobgaaDoor
