/- The walk of SubstShifts: for every row and every number it answers true. Conditions: utf8's tables as laid. -/
import Derived.Test.YtldnokeejinebaaDoorMore
set_option linter.unusedVariables false
set_option linter.unusedSimpArgs false
namespace Go.Proofs.YtldnokeejinebaaDoor
open Go.RowKit Go.Lib

theorem shiftOn_len {q : Int} : ∀ (t acc r : List Int), shiftOn q acc t = some r → r.length = acc.length + t.length
  | [], acc, r, h => by simp [shiftOn] at h; subst h; simp
  | c :: t, acc, r, h => by
    unfold shiftOn at h
    cases hd : shiftOne q c with
    | none => rw [hd] at h; cases h
    | some d =>
      rw [hd] at h
      have := shiftOn_len t (acc ++ [d]) r h
      rw [this]; simp; omega
set_option maxRecDepth 100000 in
set_option maxHeartbeats 1000000 in
theorem substShifts_walk (C : Option Addr) (t : List Int) (tc : Nat) (q : Int) (w : World) (hT : Tabs w) (htc : t.length ≤ tc) (hnt : C = none → t.length = 0 ∧ tc = 0) (h8 : t.length * 8 ≤ 140737488351232) (ht : Ints w C t)
    (hq : -9223372036854775808 ≤ q ∧ q ≤ 9223372036854775807) :
    Calls Tryd.prog 5 #[.slice C t.length tc, .int .i64 q] w fun e w' => e = .returned (.bool true) ∧ Below w.heap.size w w' := by
  go_enter Tryd.func5, Tryd.ntmps5
  go_wp2_with fail
  refine (shown_any w hT).mono ?_
  rintro e w1 ⟨rfl, hb1⟩
  obtain ⟨rb, hrb⟩ : ∃ x, x = w1.heap.size := ⟨_, rfl⟩
  have hown0 := own_empty w1 3 1 rb hrb
  have hB3 := below_alloc hb1 hb1.size (.cells #[] 3)
  have ht3 := ht.kept hB3
  rw [hrb] at hown0
  have hrng := ht.1
  go_wp2_with (at_builtin; refine push_all (.tmp 15) (.tmp 16) 30 3 (.int .i64 0) 1 8 rfl rfl Tryd.underlying30 infoInt rfl (by decide) (by decide) w1.heap.size _ 0 [] (icells t) rfl hown0 C t.length tc rfl hnt (icells_length _) ht3.cells (icells_one _) (by omega) (by simp) ?_; intro v3 w3 ho3 hg3 ha3; simp only [Nat.zero_add, List.nil_append] at ho3; obtain ⟨VA, VC, rfl, hvle, hvn⟩ := own_le ho3)
  have hB3' : Below w.heap.size w w3 := hB3.grown hg3 (by have := hb1.size; simp; omega) (fun j hj => by have := (hown0.lt j hj).1; have := hb1.size; omega)
  have hO3 : RowO w3 w1.heap.size (.slice VA t.length VC) t := ⟨ho3, by omega, hrng⟩
  have hI3 := hO3.ints'
  refine (shift_any VA t VC q hq w3 hI3 hvn (by omega)).mono ?_
  rintro e w4 ⟨va, rfl, hb4, hOa⟩
  have hB4 := below_then hB3' hB3'.size hb4
  clear hown0 ho3 hg3 ha3 hB3 ht3 hrb
  have cR := shift_ref_any C t tc q hq w4 (ht.kept hB4) (by omega)
  have hRl : ((shiftOn q [] t).getD []).length ≤ 140737488355328 := by have := hOa.2.1; omega
  generalize (shiftOn q [] t).getD [] = R at hOa cR hRl
  generalize (if (shiftOn q [] t).isSome then (0 : Int) else 40) = er at cR
  have hq1 : (er == er) = true := beq_self_eq_true _
  have hq2 : (er != er) = false := by simp
  go_wp2_with fail
  refine cR.mono ?_
  rintro e w5 ⟨vb, rfl, hb5, hOb⟩
  have hB5 := below_then hB4 hB4.size hb5
  obtain ⟨Aa, ca, rfl, hIa⟩ := hOa.ints
  obtain ⟨Ab, cb, rfl, hIb⟩ := hOb.ints
  have cS := same_self Aa Ab R ca cb w5 (hIa.kept hb5) hIb
  go_wp2_with fail
  refine cS.mono ?_
  rintro e w6 ⟨rfl, hb6⟩
  have hB6 := below_then hB5 hB5.size hb6
  have cS := same_self VA C t VC tc w6 (((hI3.kept hb4).kept hb5).kept hb6) (ht.kept hB6)
  go_wp2_with fail
  refine cS.mono ?_
  rintro e w7 ⟨rfl, hb7⟩
  have hB7 := below_then hB6 hB6.size hb7
  have hO7 := ((hOa.below hb5).below hb6).below hb7
  have h37 : Below w3.heap.size w3 w7 := below_then hb4 hb4.size (below_then hb5 hb5.size (below_then hb6 hb6.size hb7))
  clear hIa hIb hOb cS cR hb4 hb5 hb6 hb7 hB4 hB5 hB6 hOa
  go_wp2_with fail
  go_loopg [11] R.length (fun gk i wr => ∃ (k : Nat) (r : List Int), Aside (gk + k = R.length) ∧ i = .int .i64 k ∧ Below w3.heap.size w3 wr ∧ RowO wr w3.heap.size (.slice Aa R.length ca) r ∧ Aside (r.length = R.length))
  case atStart => exact ⟨0, R, (rfl : R.length + 0 = _), rfl, h37, hO7, rfl⟩
  case round =>
    clear h37 hO7 hB7
    obtain ⟨k, r, hg, rfl, hB, hO, hr⟩ := hrel
    have hk : k ≤ R.length := by have := hg.out; omega
    by_cases hlt : k < R.length
    · have hO2 := hO.1
      rw [hr.out] at hO2
      obtain ⟨g, cap, hv, hgb, hgl⟩ := hO2.form (by omega)
      injection hv with hv1 hv2 hv3
      subst hv1 hv3
      have hcell := hO2.cellAt k (by omega)
      rw [icells_at _ k (by have := hr.out; omega)] at hcell
      have hfz := hO2.frozenAt k
      have HR := Lib.hid hr.out
      clear hO2 hr
      go_wp2_with fail
      go_roundg (R.length - (k + 1))
      case measure => have := hg.out; omega
      case rel => exact ⟨k + 1, r.set k 99, by have := hg.out; show _ = _; omega, by go_num, below_set hB hgb _, hO.stored HR.out.symm (by decide), by have := HR.out; rw [List.length_set]; exact this⟩
    · have hkn : k = R.length := by omega
      subst hkn
      have hB8 := below_then hB3' hB3'.size hB
      have cS := same_self VA C t VC tc wr (hI3.kept hB) (ht.kept hB8)
      go_wp2_with fail
      refine cS.mono ?_
      rintro e w9 ⟨rfl, hb9⟩
      go_wp2_with fail
      go_ret
      exact ⟨rfl, below_then hB8 hB8.size hb9⟩
end Go.Proofs.YtldnokeejinebaaDoor
