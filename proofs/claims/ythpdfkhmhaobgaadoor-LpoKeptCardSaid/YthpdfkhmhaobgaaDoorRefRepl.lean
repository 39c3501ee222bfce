/- The document's way to lay a term into a place. Conditions: both rows together hold at most 2^44 numbers. -/
import Derived.Test.YthpdfkhmhaobgaaDoorEnd
set_option linter.unusedVariables false
set_option linter.unusedSimpArgs false
namespace Go.Proofs.YthpdfkhmhaobgaaDoor
open Go.RowKit Go.Lib

theorem cells_as {w : World} {A : Option Addr} {t : List Int} {n : Nat} (h : Ints w A t) (hn : t.length = n) : 0 < n → ∃ b off, A = some ⟨b, off, none⟩ ∧ ∀ j u, (icells t)[j]? = some u → w.cell? ⟨b, off + j, none⟩ = some u := by
  subst hn; exact h.cells
set_option maxRecDepth 100000 in
set_option maxHeartbeats 4000000 in
theorem refreplace_any (A B C : Option Addr) (l : List Sy) (t u : List Int) (sc tc uc : Nat) (a : Int) (ha : -9223372036854775808 ≤ a ∧ a ≤ 9223372036854775807) (htc : t.length ≤ tc) (hCn : C = none → u.length = 0 ∧ uc = 0) (w : World) (hl : Sigs w A l) (ht : Ints w B t) (hu : Ints w C u)
    (h9 : (t.length + u.length) * 8 ≤ 140737488355328) :
    Calls Tryd.prog 19 #[.slice A l.length sc, .slice B t.length tc, .int .i64 a, .slice C u.length uc] w fun e w' => ∃ v, e = .returned (.tuple #[v, .int .i64 (replErr l t a u)]) ∧ Below w.heap.size w w' ∧ RowO w' w.heap.size v (if replErr l t a u = 0 then replAt l t a.toNat u else []) := by
  have m2 := ht.2.1
  have m3 := hu.2.1
  unfold replErr
  have cC := refcheck_any A B l t l.length sc t.length tc rfl rfl w hl ht
  by_cases h0 : termErr l t = 0
  · rw [if_neg (by simp [h0])]
    have hG := good_of (term_sig h0)
    have hR := root_ok h0
    rw [h0] at cC
    clear h0
    have cU := fun W h1 h2 => refcheck_any A C l u l.length sc u.length uc rfl rfl W h1 h2
    by_cases h0 : termErr l u = 0
    · rw [if_neg (by simp [h0])]
      rw [h0] at cU
      clear h0
      have cP := fun W h1 h2 => place_any A B l t sc tc a ha W h1 h2
      have hz := place_zero (l := l) (t := t) (a := a)
      generalize placeErr l t a = er at cP hz ⊢
      by_cases h0 : er = 0
      · subst h0
        rw [if_neg (by simp)]
        obtain ⟨_, h1, h2⟩ := hz rfl
        obtain ⟨p, rfl⟩ := Int.eq_ofNat_of_zero_le h1
        have hp : p < t.length := by omega
        obtain ⟨b, off, hBe, _⟩ := ht.2.2 (by omega)
        subst hBe
        rw [Int.toNat_natCast]
        obtain ⟨E, hE, hle, _⟩ := scan_inside t.length 1 0 t.length (by omega) hR p (Nat.zero_le _) hp
        have hlt : p < E := by have := (scanAt_ok hE).1; omega
        have cE := fun W h1 h2 => end_any A (some ⟨b, off, none⟩) l t sc tc p E hE W hG h1 h2
        have HRA : Hid (replAt l t p u = t.take p ++ u ++ t.drop E) := Lib.hid (by unfold replAt; rw [endOf_ok hE])
        rw [endOf_ok hE]
        obtain ⟨er9, hr9⟩ : ∃ e, e = if 512 < p + u.length + (t.length - E) then (2 : Int) else 0 := ⟨_, rfl⟩
        rw [← hr9]
        obtain ⟨R9, hR9⟩ : ∃ R, R = if er9 = 0 then replAt l t p u else [] := ⟨_, rfl⟩
        rw [← hR9]
        have HR9 := Lib.hid hR9
        have HE9 := Lib.hid hr9
        clear hR9 hr9 hz h1 h2 hE hR
        have hx := fun (W : World) (h : Ints W (some ⟨b, off, none⟩) t) => h.upto p
        have hy := fun (W : World) (h : Ints W (some ⟨b, off, none⟩) t) => h.off E
        have hxl : (t.take p).length = p := by rw [List.length_take]; omega
        have hyl : (t.drop E).length = t.length - E := by rw [List.length_drop]
        generalize t.take p = X at hx hxl HRA
        generalize t.drop E = Y at hy hyl HRA
        go_enter Tryd.func19, Tryd.ntmps19
        go_wp2_with fail
        refine cC.mono ?_
        rintro e w1 ⟨rfl, hb1⟩
        have cU := cU w1 (hl.kept hb1) (hu.kept hb1)
        clear cC
        go_wp2_with fail
        refine cU.mono ?_
        rintro e w2 ⟨rfl, hb2⟩
        have hB2 := below_then hb1 hb1.size hb2
        have cP := cP w2 (hl.kept hB2) (ht.kept hB2)
        clear cU hb1 hb2
        go_wp2_with fail
        refine cP.mono ?_
        rintro e w3 ⟨rfl, hb3⟩
        have hB3 := below_then hB2 hB2.size hb3
        obtain ⟨hb, hhb⟩ : ∃ x, x = w3.heap.size := ⟨_, rfl⟩
        have hown0 := own_empty w3 3 1 hb hhb
        rw [hhb] at hown0
        have hba := below_alloc0 w3 (.cells #[] 3)
        have hB4 := below_then hB3 hB3.size hba
        have hx4 := cells_as (hx _ (ht.kept hB4)) hxl
        have hxr := Lib.hid (hx _ (ht.kept hB4)).1
        clear hhb cP hb3 hB2 hx
        have hxi : (icells X).length = p * 1 := by rw [icells_length, hxl]
        have hyi : (icells Y).length = (t.length - E) * 1 := by rw [icells_length, hyl]
        have HXI := Lib.hid hxi
        have HYI := Lib.hid hyi
        have HXL := Lib.hid hxl
        have HYL := Lib.hid hyl
        clear hxi hyi hxl hyl
        go_wp2_with (first
          | (at_builtin
             refine push_all (.tmp 29) (.tmp 32) 24 3 (.int .i64 0) 1 8 rfl rfl Tryd.underlying24 infoInt rfl (by decide) (by decide) w3.heap.size _ 0 [] (icells X) rfl hown0 (some ⟨b, off, none⟩) p tc rfl (fun h => by cases h) HXI.out hx4 (icells_one _) (by omega) (by simp) ?_
             intro v5 w5 ho5 hg5 ha5
             obtain ⟨A5, c5, rfl, _⟩ := own_slice ho5
             simp only [Nat.zero_add, List.nil_append] at ho5
             have hb5 : Below w3.heap.size w3 w5 := below_row hba (by simp) hown0 hg5
             have hB5 := below_then hB3 hB3.size hb5
             have hu5 := (hu.kept hB5).cells
             clear hown0 hx4 hg5 ha5)
          | (at_builtin
             refine push_all (.tmp 34) (.tmp 35) 24 3 (.int .i64 0) 1 8 rfl rfl Tryd.underlying24 infoInt rfl (by decide) (by decide) w3.heap.size _ p (icells X) (icells u) rfl ho5 C u.length uc rfl hCn (icells_length _) hu5 (icells_one _) (by omega) hb5.size ?_
             intro v6 w6 ho6 hg6 ha6
             obtain ⟨A6, c6, rfl, _⟩ := own_slice ho6
             have hb6 : Below w3.heap.size w3 w6 := below_row hb5 hb5.size ho5 hg6
             have hB6 := below_then hB3 hB3.size hb6
             have hl6 := hl.kept hB6
             have ht6 := ht.kept hB6
             have hy6 := cells_as (hy _ ht6) HYL.out
             have hyr := Lib.hid (hy _ ht6).1
             clear ho5 hu5 hg6 ha6 hy)
          | (go_at_call 17; refine (cE _ hl6 ht6).mono ?_; rintro e' w' ⟨rfl, rfl⟩)
          | (at_builtin
             refine push_all (.tmp 37) (.tmp 43) 24 3 (.int .i64 0) 1 8 rfl rfl Tryd.underlying24 infoInt rfl (by decide) (by decide) w3.heap.size _ (p + u.length) (icells X ++ icells u) (icells Y) rfl ho6 (if tc = E then some ⟨b, off, none⟩ else some ⟨b, off + E, none⟩) (t.length - E) (tc - E) rfl (fun h => by split at h <;> cases h) HYI.out
               (fun h => by obtain ⟨b', o', he, hc⟩ := hy6 h; exact ⟨b', o', by rw [if_neg (by omega)]; exact he, hc⟩) (icells_one _) (by omega) hb6.size ?_
             intro v7 w7 ho7 hg7 ha7
             obtain ⟨A7, c7, rfl, _⟩ := own_slice ho7
             have hb7 : Below w3.heap.size w3 w7 := below_row hb6 hb6.size ho6 hg7
             have hB7 := below_then hB3 hB3.size hb7
             have HO7 : Hid (RowO w7 w3.heap.size (.slice A7 (p + u.length + (t.length - E)) c7) (replAt l t p u)) := Lib.hid (by
               rw [HRA.out]
               refine ⟨by rw [List.length_append, List.length_append, HXL.out, HYL.out, icells_append, icells_append]; exact ho7, by rw [List.length_append, List.length_append, HXL.out, HYL.out]; omega, fun x hx => ?_⟩
               rcases List.mem_append.1 hx with hx | hx
               · rcases List.mem_append.1 hx with hx | hx
                 · exact hxr.out x hx
                 · exact hu.1 x hx
               · exact hyr.out x hx)
             obtain ⟨N, hN⟩ : ∃ N, N = p + u.length + (t.length - E) := ⟨_, rfl⟩
             rw [← hN] at HO7 HE9
             have hNm : N ≤ 140737488355328 := by omega
             rw [← hN]
             clear ho6 hy6 hyr hg7 ha7 ho7 hN hb6 hB6 hl6 ht6))
        all_goals
          first
          | (have h2 : er9 = 2 := by rw [HE9.out, if_pos (by omega)]
             subst h2
             have h3 : R9 = [] := HR9.out
             subst h3
             go_ret2
             exact ⟨_, rfl, hB7, RowO.nil _ _⟩)
          | (have h2 : er9 = 0 := by rw [HE9.out, if_neg (by omega)]
             subst h2
             have h3 : R9 = replAt l t p u := HR9.out
             subst h3
             go_ret2
             exact ⟨_, rfl, hB7, HO7.out.base hB3.size⟩)
      · have hq1 : (er == 0) = false := beq_eq_false_iff_ne.2 h0
        have hq2 : (er != 0) = true := bne_iff_ne.2 h0
        rw [if_pos h0]
        simp only [h0, if_false]
        clear hz h0
        go_enter Tryd.func19, Tryd.ntmps19
        go_wp2_with fail
        refine cC.mono ?_
        rintro e w1 ⟨rfl, hb1⟩
        have cU := cU w1 (hl.kept hb1) (hu.kept hb1)
        clear cC
        go_wp2_with fail
        refine cU.mono ?_
        rintro e w2 ⟨rfl, hb2⟩
        have hB2 := below_then hb1 hb1.size hb2
        have cP := cP w2 (hl.kept hB2) (ht.kept hB2)
        clear cU hb1 hb2
        go_wp2_with fail
        refine cP.mono ?_
        rintro e w3 ⟨rfl, hb3⟩
        have hB3 := below_then hB2 hB2.size hb3
        go_wp2_with fail
        go_ret2
        exact ⟨_, rfl, hB3, RowO.nil _ _⟩
    · rw [if_pos h0]
      generalize termErr l u = er at cU h0 ⊢
      have hq1 : (er == 0) = false := beq_eq_false_iff_ne.2 h0
      have hq2 : (er != 0) = true := bne_iff_ne.2 h0
      rw [if_neg h0]
      clear h0
      go_enter Tryd.func19, Tryd.ntmps19
      go_wp2_with fail
      refine cC.mono ?_
      rintro e w1 ⟨rfl, hb1⟩
      have cU := cU w1 (hl.kept hb1) (hu.kept hb1)
      clear cC
      go_wp2_with fail
      refine cU.mono ?_
      rintro e w2 ⟨rfl, hb2⟩
      have hB2 := below_then hb1 hb1.size hb2
      go_wp2_with fail
      go_ret2
      exact ⟨_, rfl, hB2, RowO.nil _ _⟩
  · rw [if_pos h0]
    generalize termErr l t = er at cC h0 ⊢
    have hq1 : (er == 0) = false := beq_eq_false_iff_ne.2 h0
    have hq2 : (er != 0) = true := bne_iff_ne.2 h0
    rw [if_neg h0]
    clear h0
    go_enter Tryd.func19, Tryd.ntmps19
    go_wp2_with fail
    refine cC.mono ?_
    rintro e w1 ⟨rfl, hb1⟩
    go_wp2_with fail
    go_ret2
    exact ⟨_, rfl, hb1, RowO.nil _ _⟩
end Go.Proofs.YthpdfkhmhaobgaaDoor
