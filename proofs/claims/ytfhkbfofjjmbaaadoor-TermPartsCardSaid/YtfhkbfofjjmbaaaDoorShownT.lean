/- The examples at the head of the statements on terms: they answer as they should. Conditions: utf8's tables as laid. -/
import Derived.Test.YtfhkbfofjjmbaaaDoorReplace
import Derived.Test.YtfhkbfofjjmbaaaDoorThree
import Derived.Test.YtfhkbfofjjmbaaaDoorSame
set_option linter.unusedVariables false
set_option linter.unusedSimpArgs false
namespace Go.Proofs.YtfhkbfofjjmbaaaDoor
open Go.RowKit Go.Lib

abbrev exT : List Int := [2, 1, -1, -2]
theorem ex_sig : sigErr threeL = 0 := by kernel_rfl
theorem ex_term : termErr threeL exT = 0 := by kernel_rfl
theorem ex_place (a : Int) (h : a = 0 ∨ a = 1 ∨ a = 2) : placeErr threeL exT a = 0 := by rcases h with rfl | rfl | rfl <;> kernel_rfl
theorem ex_kids : kidsAt threeL exT 0 = [1, 3] := by kernel_rfl
theorem ex_sub : subAt threeL exT 1 = [1, -1] := by kernel_rfl
theorem ex_repl : replErr threeL exT 1 [0] = 0 := by kernel_rfl
theorem ex_replAt : replAt threeL exT 1 [0] = [2, 0, -2] := by kernel_rfl
theorem ex_above : aboveOf threeL exT 2 = [0, 1] := by kernel_rfl
theorem ex_vars : varsOf [2, -5, 2, -1, -5] = [4, 0] := by kernel_rfl
theorem ex_short : termErr threeL [2, 0] = 31 := by kernel_rfl
abbrev badL : List Sy := [(⟨#[49, 102]⟩, 0)]
theorem ex_name : sigErr badL = 34 := by kernel_rfl
theorem ex_call {e : Ending} {w w' : World} {base : Nat} {t : List Int} {er : Int} (h : ∃ v, e = .returned (.tuple #[v, .int .i64 er]) ∧ Below w.heap.size w w' ∧ RowO w' base v t) (he : er = 0) :
    ∃ A c, e = .returned (.tuple #[.slice A t.length c, .int .i64 0]) ∧ Below w.heap.size w w' ∧ Ints w' A t := by
  obtain ⟨v, rfl, hb, hO⟩ := h
  obtain ⟨A, c, rfl, hI⟩ := hO.ints
  exact ⟨A, c, by rw [he], hb, hI⟩
theorem shown_kids (w : World) (A T : Option Addr) (hS : Sigs w A threeL) (hI : Ints w T exT) (hT : Tabs w) :
    Calls Tryd.prog 21 #[.slice A 3 3, .slice T 4 4, .int .i64 0] w fun e w' => ∃ B c, e = .returned (.tuple #[.slice B 2 c, .int .i64 0]) ∧ Below w.heap.size w w' ∧ Ints w' B [1, 3] := by
  have h := kids_any A T threeL exT 3 4 0 (by decide) (by decide) w hS hI hT (by decide)
  rw [ex_place 0 (by simp), if_pos rfl] at h
  exact h.mono fun e w' h => by rw [show (0 : Int).toNat = 0 from rfl, ex_kids] at h; exact ex_call h rfl
theorem shown_sub (w : World) (A T : Option Addr) (hS : Sigs w A threeL) (hI : Ints w T exT) (hT : Tabs w) :
    Calls Tryd.prog 22 #[.slice A 3 3, .slice T 4 4, .int .i64 1] w fun e w' => ∃ B c, e = .returned (.tuple #[.slice B 2 c, .int .i64 0]) ∧ Below w.heap.size w w' ∧ Ints w' B [1, -1] := by
  have h := sub_any A T threeL exT 3 4 1 (by decide) (by decide) (by decide) w hS hI hT (by decide)
  rw [ex_place 1 (by simp), if_pos rfl] at h
  exact h.mono fun e w' h => by rw [show (1 : Int).toNat = 1 from rfl, ex_sub] at h; exact ex_call h rfl
theorem shown_replace (w : World) (A T U : Option Addr) (hS : Sigs w A threeL) (hI : Ints w T exT) (hU : Ints w U [0]) (hUn : U ≠ none) (hT : Tabs w) :
    Calls Tryd.prog 27 #[.slice A 3 3, .slice T 4 4, .int .i64 1, .slice U 1 1] w fun e w' => ∃ B c, e = .returned (.tuple #[.slice B 3 c, .int .i64 0]) ∧ Below w.heap.size w w' ∧ Ints w' B [2, 0, -2] := by
  have h := replace_any A T U threeL exT [0] 3 4 1 1 (by decide) (by decide) (by decide) (by decide) (fun h => absurd h hUn) w hS hI hU hT (by decide) (by decide)
  rw [ex_repl, if_pos rfl] at h
  exact h.mono fun e w' h => by rw [show (1 : Int).toNat = 1 from rfl, ex_replAt] at h; exact ex_call h rfl
theorem shown_above (w : World) (A T : Option Addr) (hS : Sigs w A threeL) (hI : Ints w T exT) (hT : Tabs w) :
    Calls Tryd.prog 23 #[.slice A 3 3, .slice T 4 4, .int .i64 2] w fun e w' => ∃ B c, e = .returned (.tuple #[.slice B 2 c, .int .i64 0]) ∧ Below w.heap.size w w' ∧ Ints w' B [0, 1] := by
  have h := above_any A T threeL exT 3 4 2 (by decide) (by decide) w hS hI hT (by decide)
  rw [ex_place 2 (by simp), if_pos rfl] at h
  exact h.mono fun e w' h => by rw [show (2 : Int).toNat = 2 from rfl, ex_above] at h; exact ex_call h rfl
theorem shown_vars (w : World) : Calls Tryd.prog 16 #[.slice (some ⟨w.heap.size, 0, none⟩) 5 5] (row3 w [2, -5, 2, -1, -5]) fun e w' => ∃ B c, e = .returned (.slice B 2 c) ∧ Below w.heap.size w w' ∧ Ints w' B [4, 0] := by
  have h := vars_any (some ⟨w.heap.size, 0, none⟩) [2, -5, 2, -1, -5] 5 (row3 w [2, -5, 2, -1, -5]) (Ints.fresh _ _ rfl (by decide) (by decide)) (by decide)
  rw [ex_vars] at h
  refine h.mono ?_
  rintro e w' ⟨v, rfl, hb, hO⟩
  obtain ⟨B, c, rfl, hI⟩ := hO.ints
  exact ⟨B, c, rfl, below_then (below_row3 _ _) (below_row3 w _).size hb, hI⟩
theorem shown_check (w : World) (A : Option Addr) (hS : Sigs w A threeL) (hT : Tabs w) : Calls Tryd.prog 14 #[.slice A 3 3, .slice (some ⟨w.heap.size, 0, none⟩) 2 2] (row3 w [2, 0]) fun e w' => e = .returned (.int .i64 31) ∧ Below w.heap.size w w' := by
  have hb := below_row3 w [2, 0]
  have h := check_any A (some ⟨w.heap.size, 0, none⟩) threeL [2, 0] 3 3 2 2 rfl rfl (by decide) (row3 w [2, 0]) (hS.kept hb) (Ints.fresh _ _ rfl (by decide) (by decide)) (hT.kept hb)
  rw [ex_short] at h
  exact h.mono fun e w' h => ⟨h.1, below_then hb hb.size h.2⟩
theorem shown_right (w : World) (A T : Option Addr) (hS : Sigs w A threeL) (hI : Ints w T exT) (hT : Tabs w) : Calls Tryd.prog 14 #[.slice A 3 3, .slice T 4 4] w fun e w' => e = .returned (.int .i64 0) ∧ Below w.heap.size w w' := by
  have h := check_any A T threeL exT 3 3 4 4 rfl rfl (by decide) w hS hI hT
  rw [ex_term] at h
  exact h
theorem shown_name (w : World) (hT : Tabs w) : Calls Tryd.prog 11 #[.slice (some ⟨w.heap.size, 0, none⟩) 1 1] (w.alloc (.cells #[.string ⟨#[49, 102]⟩, .int .i64 0] 40)) fun e w' => e = .returned (.int .i64 34) ∧ Below w.heap.size w w' := by
  have hb := below_alloc0 w (.cells #[.string ⟨#[49, 102]⟩, .int .i64 0] 40)
  have hS : Sigs (w.alloc (.cells #[.string ⟨#[49, 102]⟩, .int .i64 0] 40)) (some ⟨w.heap.size, 0, none⟩) badL := by
    refine ⟨?_, by decide, fun _ => ⟨w.heap.size, 0, rfl, fun k hk => ?_⟩⟩
    · intro x hx
      simp at hx
      subst hx; decide
    · have hk' : k < 1 := hk
      rw [World.cell?_alloc_new, World.cell?_alloc_new]
      match k, hk' with
      | 0, _ => exact ⟨rfl, rfl⟩
  have h := sig_any (some ⟨w.heap.size, 0, none⟩) badL 1 1 rfl (by decide) _ hS (hT.kept hb)
  rw [ex_name] at h
  exact h.mono fun e w' h => ⟨h.1, below_then hb hb.size h.2⟩

set_option maxRecDepth 100000 in
set_option maxHeartbeats 4000000 in
theorem shown_any (w : World) (hT : Tabs w) : Calls Tryd.prog 10 #[] w fun e w' => e = .returned (.bool true) ∧ Below w.heap.size w w' := by
  go_enter Tryd.func10, Tryd.ntmps10
  go_wp2_with fail
  refine (three_any w).mono ?_
  rintro e w1 ⟨A, rfl, hb1, hS⟩
  go_wp2_with fail
  have hI : Ints (row3 w1 exT) (some ⟨w1.heap.size, 0, none⟩) exT := Ints.fresh _ _ rfl (by decide) (by decide)
  have hb2 := below_row3 w1 exT
  obtain ⟨w2, hw2⟩ : ∃ x, x = row3 w1 exT := ⟨_, rfl⟩
  obtain ⟨tb, htb⟩ : ∃ x, x = w1.heap.size := ⟨_, rfl⟩
  have e2 : w1.alloc (.cells #[.int .i64 2, .int .i64 1, .int .i64 (-1), .int .i64 (-2)] 3) = w2 := hw2.symm
  rw [← hw2] at hI hb2
  have hB2 := below_then hb1 hb1.size hb2
  have hS2 := hS.kept hb2
  rw [← htb] at hI
  rw [e2, ← htb]
  clear e2 hw2 htb hb1 hb2 hS
  refine (shown_kids w2 A _ hS2 hI (hT.kept hB2)).mono ?_
  rintro e w3 ⟨Ka, kc, rfl, hb3, hK⟩
  have hB3 := below_then hB2 hB2.size hb3
  have hS3 := hS2.kept hb3
  have hI3 := hI.kept hb3
  clear hS2 hI hb3 hB2
  go_wp2_with fail
  refine (shown_sub w3 A _ hS3 hI3 (hT.kept hB3)).mono ?_
  rintro e w4 ⟨Ua, uc, rfl, hb4, hU⟩
  have hB4 := below_then hB3 hB3.size hb4
  have hS4 := hS3.kept hb4
  have hI4 := hI3.kept hb4
  have hK4 := hK.kept hb4
  clear hS3 hI3 hb4 hB3 hK
  go_wp2_with fail
  have hb5 := below_row3 w4 [0]
  have hz : Ints (row3 w4 [0]) (some ⟨w4.heap.size, 0, none⟩) [0] := Ints.fresh _ _ rfl (by decide) (by decide)
  refine (shown_replace (row3 w4 [0]) A _ _ (hS4.kept hb5) (hI4.kept hb5) hz (fun h => by cases h) (hT.kept (below_then hB4 hB4.size hb5))).mono ?_
  rintro e w6 ⟨Va, vc, rfl, hb6, hV⟩
  have hb46 := below_then hb5 hb5.size hb6
  have hB6 := below_then hB4 hB4.size hb46
  have hS6 := hS4.kept hb46
  have hI6 := hI4.kept hb46
  have hK6 := hK4.kept hb46
  have hU6 := hU.kept hb46
  clear hS4 hI4 hK4 hU hb5 hb6 hb46 hB4 hz
  go_wp2_with fail
  refine (shown_above w6 A _ hS6 hI6 (hT.kept hB6)).mono ?_
  rintro e w7 ⟨Aa, ac, rfl, hb7, hA⟩
  have hB7 := below_then hB6 hB6.size hb7
  have hS7 := hS6.kept hb7
  have hI7 := hI6.kept hb7
  have hK7 := hK6.kept hb7
  have hU7 := hU6.kept hb7
  have hV7 := hV.kept hb7
  clear hS6 hI6 hK6 hU6 hV hb7 hB6
  go_wp2_with fail
  refine (shown_vars w7).mono ?_
  rintro e w8 ⟨La, lc, rfl, hb8, hL⟩
  have hB8 := below_then hB7 hB7.size hb8
  have hS8 := hS7.kept hb8
  have hI8 := hI7.kept hb8
  have hK8 := hK7.kept hb8
  have hU8 := hU7.kept hb8
  have hV8 := hV7.kept hb8
  have hA8 := hA.kept hb8
  clear hS7 hI7 hK7 hU7 hV7 hA hb8 hB7
  go_wp2_with fail
  refine (same_new w8 Ka [1, 3] kc hK8 (by decide)).mono ?_
  rintro e w9 ⟨rfl, hb9⟩
  go_wp2_with fail
  have hB9 := below_then hB8 hB8.size hb9
  have hb89 := hb9
  refine (same_new w9 Ua [1, -1] uc (hU8.kept hb89) (by decide)).mono ?_
  rintro e w10 ⟨rfl, hb10⟩
  go_wp2_with fail
  have hB10 := below_then hB9 hB9.size hb10
  have hb810 := below_then hb89 hb89.size hb10
  refine (same_new w10 Va [2, 0, -2] vc (hV8.kept hb810) (by decide)).mono ?_
  rintro e w11 ⟨rfl, hb11⟩
  go_wp2_with fail
  have hB11 := below_then hB10 hB10.size hb11
  have hb811 := below_then hb810 hb810.size hb11
  refine (same_new w11 Aa [0, 1] ac (hA8.kept hb811) (by decide)).mono ?_
  rintro e w12 ⟨rfl, hb12⟩
  go_wp2_with fail
  have hB12 := below_then hB11 hB11.size hb12
  have hb812 := below_then hb811 hb811.size hb12
  refine (same_new w12 La [4, 0] lc (hL.kept hb812) (by decide)).mono ?_
  rintro e w13 ⟨rfl, hb13⟩
  go_wp2_with fail
  have hB13 := below_then hB12 hB12.size hb13
  have hb813 := below_then hb812 hb812.size hb13
  have hS13 := hS8.kept hb813
  have hI13 := hI8.kept hb813
  clear hS8 hI8 hK8 hU8 hV8 hA8 hL hb9 hb10 hb11 hb12 hb13 hb89 hb810 hb811 hb812 hb813 hB8 hB9 hB10 hB11 hB12
  refine (shown_check w13 A hS13 (hT.kept hB13)).mono ?_
  rintro e w14 ⟨rfl, hb14⟩
  go_wp2_with fail
  have hB14 := below_then hB13 hB13.size hb14
  refine (shown_name w14 (hT.kept hB14)).mono ?_
  rintro e w15 ⟨rfl, hb15⟩
  have hB15 := below_then hB14 hB14.size hb15
  have hb1315 := below_then hb14 hb14.size hb15
  have cR := shown_right w15 A _ (hS13.kept hb1315) (hI13.kept hb1315) (hT.kept hB15)
  clear hS13 hI13 hb14 hb15 hb1315 hB13 hB14
  go_wp2_with fail
  refine cR.mono ?_
  rintro e w16 ⟨rfl, hb16⟩
  have hB16 := below_then hB15 hB15.size hb16
  go_wp2_with fail
  go_ret
  exact ⟨rfl, hB16⟩
end Go.Proofs.YtfhkbfofjjmbaaaDoor
