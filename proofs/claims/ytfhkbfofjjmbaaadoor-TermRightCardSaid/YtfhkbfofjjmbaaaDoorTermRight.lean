/- The walk of TermRight: over every signature, for any two rows and any place it answers true. Conditions: utf8's tables as laid. -/
import Derived.Test.YtfhkbfofjjmbaaaDoorWhich
import Derived.Test.YtfhkbfofjjmbaaaDoorTermReplaces
set_option linter.unusedVariables false
set_option linter.unusedSimpArgs false
namespace Go.Proofs.YtfhkbfofjjmbaaaDoor
open Go.RowKit Go.Lib

theorem repl_codes (l : List Sy) (t : List Int) (p : Nat) (u : List Int) : ∀ c ∈ replAt l t p u, c ∈ t ++ u := fun c hc => by
  unfold replAt at hc
  rcases List.mem_append.1 hc with hc | hc
  · rcases List.mem_append.1 hc with hc | hc
    · exact List.mem_append.2 (.inl (List.mem_of_mem_take hc))
    · exact List.mem_append.2 (.inr hc)
  · exact List.mem_append.2 (.inl (List.mem_of_mem_drop hc))
/-- Whether a number is among the first few of a row. -/
def amid (l : List Int) (x : Int) (k : Nat) : Bool := decide (x ∈ l.take k)
theorem amid_step {l : List Int} {x : Int} {k : Nat} (hk : k < l.length) : amid l x (k + 1) = (amid l x k || decide (l.getD k 0 = x)) := by
  unfold amid
  rw [take_succ' l 0 hk]
  by_cases h1 : x ∈ l.take k
  · simp [h1]
  · simp only [List.mem_append, List.mem_singleton, h1, false_or, decide_false, Bool.false_or]
    by_cases h2 : x = l.getD k 0
    · rw [decide_eq_true h2, decide_eq_true h2.symm]
    · rw [decide_eq_false h2, decide_eq_false (fun e => h2 e.symm)]
set_option maxRecDepth 100000 in
set_option maxHeartbeats 8000000 in
theorem termRight_walk (A : Option Addr) (l : List Sy) (sc : Nat) (B : Option Addr) (t : List Int) (tc : Nat) (C : Option Addr) (u : List Int) (uc : Nat) (a : Int) (w : World) (hT : Tabs w) (hcap : l.length ≤ sc) (hl : Sigs w A l)
    (htc : t.length ≤ tc) (hnt : B = none → t.length = 0 ∧ tc = 0) (h8 : t.length * 8 ≤ 140737488351232) (ht : Ints w B t)
    (huc : u.length ≤ uc) (hnu : C = none → u.length = 0 ∧ uc = 0) (h9 : u.length * 8 ≤ 140737488351232) (hu : Ints w C u) (ha : -9223372036854775808 ≤ a ∧ a ≤ 9223372036854775807) :
    Calls Tryd.prog 9 #[.slice A l.length sc, .agg #[.slice B t.length tc, .slice C u.length uc], .int .i64 a] w fun e w' => e = .returned (.bool true) ∧ Below w.heap.size w w' := by
  have m2 := ht.2.1
  have m3 := hu.2.1
  have h88 : t.length * 8 ≤ 140737488355328 := by omega
  have h99 : u.length * 8 ≤ 140737488355328 := by omega
  have q1 := box2 w (.slice B t.length tc) (.slice C u.length uc) 36
  have hB1 := below_alloc0 w (.cells #[.slice B t.length tc, .slice C u.length uc] 36)
  obtain ⟨w1, hw1⟩ : ∃ x, x = w.alloc (.cells #[.slice B t.length tc, .slice C u.length uc] 36) := ⟨_, rfl⟩
  rw [← hw1] at q1 hB1
  obtain ⟨q1a, q1b⟩ := q1
  obtain ⟨c0, hc0⟩ : ∃ x, x = w.heap.size := ⟨_, rfl⟩
  rw [← hc0] at q1a q1b
  go_enter Tryd.func9, Tryd.ntmps9
  go_wp2_with fail
  rw [← hw1, ← hc0]
  clear hw1 hc0
  have cS := shown_any w1 (hT.kept hB1)
  refine cS.mono ?_
  rintro e w3 ⟨rfl, hb3⟩
  have hB3 := below_then hB1 hB1.size hb3
  have q1a := cell_kept hb3 q1a
  have q1b := cell_kept hb3 q1b
  clear cS hb3 hB1
  have cT := refcheck_any A B l t l.length sc t.length tc rfl rfl w3 (hl.kept hB3) (ht.kept hB3)
  generalize hte : termErr l t = er at cT
  go_wp2_with fail
  refine cT.mono ?_
  rintro e w4 ⟨rfl, hb4⟩
  have hB4 := below_then hB3 hB3.size hb4
  have q1a := cell_kept hb4 q1a
  have q1b := cell_kept hb4 q1b
  clear cT hb4 hB3
  have cU := refcheck_any A C l u l.length sc u.length uc rfl rfl w4 (hl.kept hB4) (hu.kept hB4)
  generalize hue : termErr l u = ef at cU
  have HTE := Lib.hid hte
  have HUE := Lib.hid hue
  clear hte hue
  by_cases h1 : er = 0
  · by_cases h2 : ef = 0
    · subst h1 h2
      have hp := term_pos HTE.out
      have hkl := which_lt a hp
      have cW := fun W => which_any a t.length ha hp (by omega) W
      generalize whichOf a t.length = k at cW hkl
      go_wp2_with fail
      refine cU.mono ?_
      rintro e w5 ⟨rfl, hb5⟩
      have hB5 := below_then hB4 hB4.size hb5
      have q1a := cell_kept hb5 q1a
      have q1b := cell_kept hb5 q1b
      clear cU hb5 hB4
      go_wp2_with fail
      refine (cW _).mono ?_
      rintro e w' ⟨rfl, rfl⟩
      have x1 := sub_term HTE.out hkl
      have cS1 := sub_right_any A B l t sc tc k HTE.out hkl hcap htc w5 (hl.kept hB5) (ht.kept hB5) (hT.kept hB5) h88
      generalize subAt l t k = S at x1 cS1
      clear cW
      go_wp2_with fail
      refine cS1.mono ?_
      rintro e w6 ⟨v1, rfl, hb6, hO1⟩
      have hB6 := below_then hB5 hB5.size hb6
      have q1a := cell_kept hb6 q1a
      have q1b := cell_kept hb6 q1b
      obtain ⟨SA, ss, rfl, hSI⟩ := hO1.ints
      have cC1 := check_any A SA l S l.length sc S.length ss rfl rfl hcap w6 (hl.kept hB6) hSI (hT.kept hB6)
      rw [x1] at cC1
      clear cS1 hb6 hO1 hB5 x1 hSI
      go_wp2_with fail
      refine cC1.mono ?_
      rintro e w7 ⟨rfl, hb7⟩
      have hB7 := below_then hB6 hB6.size hb7
      have q1a := cell_kept hb7 q1a
      have q1b := cell_kept hb7 q1b
      have cR1 := replace_right A B C l t u sc tc uc k HTE.out HUE.out hkl hcap htc huc hnu w7 (hl.kept hB7) (ht.kept hB7) (hu.kept hB7) (hT.kept hB7) h88 h99
      have x2 := repl_term HTE.out HUE.out hkl
      have x3 := repl_codes l t k u
      have x4 := repl_length (u := u) HTE.out hkl
      have x5 := place_end HTE.out hkl
      obtain ⟨X, hX⟩ : ∃ X, X = replAt l t k u := ⟨_, rfl⟩
      rw [← hX] at cR1 x2 x3 x4
      have X3 := Lib.hid (vars_sub x3)
      clear hX cC1 hb7 hB6 x3
      by_cases hbig : 512 < X.length
      · rw [show bigErr X.length = 2 from if_pos hbig, if_neg (by omega)] at cR1
        clear x4
        go_wp2_with fail
        refine cR1.mono ?_
        rintro e w8 ⟨v2, rfl, hb8, hO2⟩
        go_wp2_with fail
        go_ret
        exact ⟨rfl, below_then hB7 hB7.size hb8⟩
      · rw [show bigErr X.length = 0 from if_neg hbig, if_pos (by omega)] at cR1
        have hu5 : u.length ≤ 512 := by omega
        clear x4 x5
        go_wp2_with fail
        refine cR1.mono ?_
        rintro e w8 ⟨v2, rfl, hb8, hO2⟩
        have hB8 := below_then hB7 hB7.size hb8
        have q1a := cell_kept hb8 q1a
        have q1b := cell_kept hb8 q1b
        obtain ⟨XA, xc, rfl, hXI⟩ := hO2.ints
        have cC2 := check_any A XA l X l.length sc X.length xc rfl rfl hcap w8 (hl.kept hB8) hXI (hT.kept hB8)
        rw [x2] at cC2
        clear cR1 hb8 hO2 hB7 x2
        go_wp2_with fail
        refine cC2.mono ?_
        rintro e w9 ⟨rfl, hb9⟩
        have hB9 := below_then hB8 hB8.size hb9
        have q1a := cell_kept hb9 q1a
        have q1b := cell_kept hb9 q1b
        have hXI := hXI.kept hb9
        have ht9 := ht.kept hB9
        have hu9 := hu.kept hB9
        have hrow0 : (w9.alloc (.cells #[] 3)).ownsRow w9.heap.size 3 1 (.slice (some ⟨w9.heap.size, 0, none⟩) 0 0) 0 [] := World.ownsRow_made w9 #[] 0 (Nat.le_refl _) (by simp) (by simp)
        clear cC2 hb9 hB8
        have p1a := cell_kept (below_alloc0 w9 (.cells #[] 3)) q1a
        have p1b := cell_kept (below_alloc0 w9 (.cells #[] 3)) q1b
        go_wp2_with fail
        go_region_law (first
          | (refine step_push_all (.tmp 84) (.tmp 86) 27 3 (.int .i64 0) 1 8 rfl rfl Tryd.underlying27 infoInt rfl (by decide) (by decide) w9.heap.size (.slice (some ⟨w9.heap.size, 0, none⟩) 0 0) 0 [] (icells t) rfl hrow0 B t.length tc rfl hnt (icells_length t) (ht9.kept (below_alloc0 _ _)).cells (icells_one t) (by omega) (by simp) ?_
             intro va wa hoa hga haa
             simp only [Nat.zero_add, List.nil_append] at hoa
             obtain ⟨AA, ca, rfl, hna⟩ := own_slice hoa
             have hWa : w9.grownBy wa none := by first | exact copy_between hga | exact copy_between' hga
             have q1b' : wa.cell? ⟨c0, 1, none⟩ = some (.slice C u.length uc) := hWa.cell q1b (by simp)
             have hua := (hu9.kept (grown_none hWa)).cells
             have hba := (grown_none hWa).size)
          | (refine step_push_all (.tmp 87) (.tmp 89) 27 3 (.int .i64 0) 1 8 rfl rfl Tryd.underlying27 infoInt rfl (by decide) (by decide) w9.heap.size _ t.length (icells t) (icells u) rfl hoa C u.length uc rfl hnu (icells_length u) hua (icells_one u) (by omega) hba ?_
             intro vb wb hob hgb hab
             obtain ⟨AB, cb, rfl, hnb⟩ := own_slice hob))
        all_goals
          have hBa := grown_none hWa
          have hb10 : Below w9.heap.size w9 wb := hBa.grown hgb hBa.size (fun j hj => (hoa.lt j hj).1)
          have HO : Hid (RowO wb w9.heap.size (.slice AB (t.length + u.length) cb) (t ++ u)) := Lib.hid ⟨by rw [List.length_append, icells_append]; exact hob, by rw [List.length_append]; omega, fun x hx => by
            rcases List.mem_append.1 hx with hx | hx
            · exact ht.1 x hx
            · exact hu.1 x hx⟩
          have hB10 := below_then hB9 hB9.size hb10
          have hX10 := hXI.kept hb10
          clear hrow0 hga haa hgb hab hoa hob hWa hBa hua hba q1b' p1a p1b q1a q1b hXI hb10 ht9 hu9
          have cV := vars_any XA X xc wb hX10 (by omega)
          obtain ⟨V, hV⟩ : ∃ V, V = varsOf X := ⟨_, rfl⟩
          rw [← hV] at cV
          obtain ⟨M, hM⟩ : ∃ M, M = t ++ u := ⟨_, rfl⟩
          have hMl : M.length = t.length + u.length := by rw [hM, List.length_append]
          have HO2 := Lib.hid (show RowO wb w9.heap.size (.slice AB M.length cb) M by rw [hMl, hM]; exact HO.out)
          have hM8 : M.length * 8 ≤ 140737488355328 := by omega
          have HIN : Hid (∀ x ∈ V, x ∈ varsOf M) := Lib.hid (by rw [hV, hM]; exact X3.out)
          rw [← hMl]
          clear hV HO hMl hM
          go_wp2_with fail
          refine cV.mono ?_
          rintro e w11 ⟨v3, rfl, hb11, hO3⟩
          have hB11 := below_then hB10 hB10.size hb11
          have cW := refvars_any AB M cb w11 (HO2.out.below hb11).ints' hM8
          obtain ⟨VA, vc, rfl, hVI⟩ := hO3.ints
          have hV8 := hVI.2.1
          clear cV hX10 hO3 hb11 hB10 HO2
          go_wp2_with fail
          refine cW.mono ?_
          rintro e w12 ⟨v4, rfl, hb12, hO4⟩
          have hB12 := below_then hB11 hB11.size hb12
          obtain ⟨KA, kc, rfl, hKI⟩ := hO4.ints
          have hVI := hVI.kept hb12
          generalize varsOf M = K at HIN hKI
          have hK8 := hKI.2.1
          clear cW hb12 hO4 hB11
          go_wp2_with fail
          go_loopg [20] V.length (fun gi iv wx => ∃ i : Nat, Aside (gi + i = V.length) ∧ iv = .int .i64 i ∧ Below w12.heap.size w12 wx)
          case atStart => exact ⟨0, (rfl : V.length + 0 = _), rfl, Below.refl _ _⟩
          case round =>
            obtain ⟨i, hgi, rfl, hB⟩ := hrel
            have hi : i ≤ V.length := by have := hgi.out; omega
            by_cases hlt : i < V.length
            · obtain ⟨b, off, x, rfl, hx, hx1, hx2, hxc⟩ := (hVI.kept hB).at_ hlt
              have HX : Hid (x ∈ K) := Lib.hid (HIN.out x (getD_mem hlt hx))
              clear hx
              go_wp2_with fail
              go_loopg [21, 22] K.length (fun gj isv jv wx => ∃ j : Nat, Aside (gj + j = K.length) ∧ jv = .int .i64 j ∧ isv = .bool (amid K x j) ∧ Below wr.heap.size wr wx)
              case atStart => exact ⟨0, (rfl : K.length + 0 = _), by go_num, by simp [amid], Below.refl _ _⟩
              case round =>
                obtain ⟨j, hgj, rfl, rfl, hBj⟩ := hrel
                have hj : j ≤ K.length := by have := hgj.out; omega
                have hBB := below_then hB hB.size hBj
                have hxc2 := cell_kept hBj hxc
                by_cases hjl : j < K.length
                · obtain ⟨b2, off2, y, rfl, hy, hy1, hy2, hyc⟩ := (hKI.kept hBB).at_ hjl
                  have HST := Lib.hid (amid_step (l := K) (x := x) hjl)
                  have HY := Lib.hid hy
                  clear hy
                  generalize amid K x j = mm at HST ⊢
                  cases mm with
                  | true =>
                    go_wp2_with fail
                    go_quiet (fail)
                    go_wp2_with fail
                    go_roundg (K.length - (j + 1))
                    case measure => have := hgj.out; omega
                    case rel => exact ⟨j + 1, by have := hgj.out; show _ = _; omega, by go_num, by rw [HST.out]; rfl, below_drawN hBj _⟩
                  | false =>
                    by_cases hyx : y = x
                    · have hq1 : (y == x) = true := beq_iff_eq.2 hyx
                      have HQ := Lib.hid hyx
                      clear hyx
                      go_wp2_with fail
                      go_quiet (fail)
                      go_wp2_with fail
                      go_roundg (K.length - (j + 1))
                      case measure => have := hgj.out; omega
                      case rel => exact ⟨j + 1, by have := hgj.out; show _ = _; omega, by go_num, by rw [HST.out, HY.out, decide_eq_true HQ.out]; rfl, below_drawN hBj _⟩
                    · have hq1 : (y == x) = false := beq_eq_false_iff_ne.2 hyx
                      have HQ := Lib.hid hyx
                      clear hyx
                      go_wp2_with fail
                      go_quiet (fail)
                      go_wp2_with fail
                      go_roundg (K.length - (j + 1))
                      case measure => have := hgj.out; omega
                      case rel => exact ⟨j + 1, by have := hgj.out; show _ = _; omega, by go_num, by rw [HST.out, HY.out, decide_eq_false HQ.out]; rfl, below_drawN hBj _⟩
                · have hje : j = K.length := by omega
                  subst hje
                  have hm : amid K x K.length = true := by unfold amid; rw [List.take_length]; exact decide_eq_true HX.out
                  rw [hm]
                  clear hm
                  go_wp2_with fail
                  go_roundg (V.length - (i + 1))
                  case measure => have := hgi.out; omega
                  case rel => exact ⟨i + 1, by have := hgi.out; show _ = _; omega, by go_num, hBB⟩
            · go_wp2_with fail
              go_ret
              exact ⟨rfl, below_then hB12 hB12.size hB⟩
    · have hq1 : (ef == 0) = false := beq_eq_false_iff_ne.2 h2
      have hq2 : (ef != 0) = true := bne_iff_ne.2 h2
      clear h2
      subst h1
      go_wp2_with fail
      refine cU.mono ?_
      rintro e w5 ⟨rfl, hb5⟩
      go_wp2_with fail
      go_ret
      exact ⟨rfl, below_then hB4 hB4.size hb5⟩
  · have hq1 : (er == 0) = false := beq_eq_false_iff_ne.2 h1
    have hq2 : (er != 0) = true := bne_iff_ne.2 h1
    clear h1
    go_wp2_with fail
    refine cU.mono ?_
    rintro e w5 ⟨rfl, hb5⟩
    go_wp2_with fail
    go_ret
    exact ⟨rfl, below_then hB4 hB4.size hb5⟩
end Go.Proofs.YtfhkbfofjjmbaaaDoor
