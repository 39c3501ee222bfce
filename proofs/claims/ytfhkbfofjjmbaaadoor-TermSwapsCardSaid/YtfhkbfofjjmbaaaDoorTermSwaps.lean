/- The walk of TermSwaps: over every signature, for any two rows and any two places it answers true. Conditions: utf8's tables as laid. -/
import Derived.Test.YtfhkbfofjjmbaaaDoorWhich
import Derived.Test.YtfhkbfofjjmbaaaDoorTermReplaces
set_option linter.unusedVariables false
set_option linter.unusedSimpArgs false
namespace Go.Proofs.YtfhkbfofjjmbaaaDoor
open Go.RowKit Go.Lib

/-- A row of the call's own, as it is read. -/
theorem RowO.full {w : World} {base : Nat} {v : Value} {t : List Int} (h : RowO w base v t) : ∃ A c, v = .slice A t.length c ∧ t.length ≤ c ∧ (A = none → t.length = 0 ∧ c = 0) ∧ t.length * 8 ≤ 140737488355328 ∧ Ints w A t := h.reads
/-- What the law compares, in plain words. -/
theorem swaps_plain {l : List Sy} {t u : List Int} {i : Nat} (hte : termErr l t = 0) (hue : termErr l u = 0) (hi : i < t.length) :
    termErr l (replAt l t i u) = 0 ∧ i < (replAt l t i u).length ∧ termErr l (subAt l t i) = 0 ∧ subAt l (replAt l t i u) i = u ∧ replAt l (replAt l t i u) i (subAt l t i) = t ∧
      endOf l t i = i + (subAt l t i).length ∧ i + (subAt l t i).length ≤ t.length ∧ (replAt l t i u).length + (subAt l t i).length = t.length + u.length ∧ 0 < (subAt l t i).length := by
  obtain ⟨hE, hE1, hE2⟩ := place_end hte hi
  have h1 := sub_length hte hi
  have h2 := repl_length (u := u) hte hi
  have h3 := term_pos hue
  exact ⟨repl_term hte hue hi, by omega, sub_term hte hi, repl_sub hte hue hi, repl_back hte hue hi, by omega, by omega, by omega, by omega⟩
theorem swaps_apart {l : List Sy} {t u : List Int} {i d : Nat} (hte : termErr l t = 0) (hue : termErr l u = 0) (hi : i < t.length) (hk : i + (subAt l t i).length + d < t.length) :
    termErr l (replAt l t (i + (subAt l t i).length + d) u) = 0 ∧ i < (replAt l t (i + (subAt l t i).length + d) u).length ∧ i + u.length + d < (replAt l t i u).length ∧
      replAt l (replAt l t (i + (subAt l t i).length + d) u) i u = replAt l (replAt l t i u) (i + u.length + d) u := by
  obtain ⟨_, _, _, _, _, h1, h2, h3, h4⟩ := swaps_plain hte hue hi
  have h5 := repl_twice hte hue hi (q := i + (subAt l t i).length + d) (by omega) hk
  have h6 := repl_length (u := u) hte hk
  obtain ⟨_, hF1, hF2⟩ := place_end hte hk
  have h7 := term_pos hue
  refine ⟨repl_term hte hue hk, by omega, by omega, ?_⟩
  rw [h5, h1, show i + (subAt l t i).length + d - (i + (subAt l t i).length) = d by omega]
set_option maxRecDepth 100000 in
set_option maxHeartbeats 8000000 in
theorem termSwaps_walk (A : Option Addr) (l : List Sy) (sc : Nat) (B : Option Addr) (t : List Int) (tc : Nat) (C : Option Addr) (u : List Int) (uc : Nat) (a0 a1 : Int) (w : World) (hT : Tabs w) (hcap : l.length ≤ sc) (hl : Sigs w A l)
    (htc : t.length ≤ tc) (hnt : B = none → t.length = 0 ∧ tc = 0) (h8 : t.length * 8 ≤ 140737488351232) (ht : Ints w B t)
    (huc : u.length ≤ uc) (hnu : C = none → u.length = 0 ∧ uc = 0) (h9 : u.length * 8 ≤ 140737488351232) (hu : Ints w C u) (ha0 : -9223372036854775808 ≤ a0 ∧ a0 ≤ 9223372036854775807) (ha1 : -9223372036854775808 ≤ a1 ∧ a1 ≤ 9223372036854775807) :
    Calls Tryd.prog 8 #[.slice A l.length sc, .agg #[.slice B t.length tc, .slice C u.length uc], .agg #[.int .i64 a0, .int .i64 a1]] w fun e w' => e = .returned (.bool true) ∧ Below w.heap.size w w' := by
  have m2 := ht.2.1
  have m3 := hu.2.1
  have h88 : t.length * 8 ≤ 140737488355328 := by omega
  have h99 : u.length * 8 ≤ 140737488355328 := by omega
  have q1 := box2 w (.slice B t.length tc) (.slice C u.length uc) 36
  have hb0 := below_alloc0 w (.cells #[.slice B t.length tc, .slice C u.length uc] 36)
  obtain ⟨w0, hw0⟩ : ∃ x, x = w.alloc (.cells #[.slice B t.length tc, .slice C u.length uc] 36) := ⟨_, rfl⟩
  rw [← hw0] at q1 hb0
  have q2 := box2 w0 (.int .i64 a0) (.int .i64 a1) 41
  have hb1 := below_alloc0 w0 (.cells #[.int .i64 a0, .int .i64 a1] 41)
  obtain ⟨w1, hw1⟩ : ∃ x, x = w0.alloc (.cells #[.int .i64 a0, .int .i64 a1] 41) := ⟨_, rfl⟩
  rw [← hw1] at q2 hb1
  have q1a := cell_kept hb1 q1.1
  have q1b := cell_kept hb1 q1.2
  obtain ⟨q2a, q2b⟩ := q2
  have hB1 := below_then hb0 hb0.size hb1
  obtain ⟨c0, hc0⟩ : ∃ x, x = w.heap.size := ⟨_, rfl⟩
  have hc1 : w0.heap.size = c0 + 1 := by rw [hw0, hc0]; simp
  rw [← hc0] at q1a q1b
  rw [hc1] at q2a q2b
  clear q1 hb0 hb1 hnt
  go_enter Tryd.func8, Tryd.ntmps8
  go_wp2_with fail
  rw [← hw0, ← hw1, ← hc0]
  clear hw0 hw1 hc0 hc1
  have cS := shown_any w1 (hT.kept hB1)
  refine cS.mono ?_
  rintro e w2 ⟨rfl, hb2⟩
  have hB2 := below_then hB1 hB1.size hb2
  have q1a := cell_kept hb2 q1a
  have q1b := cell_kept hb2 q1b
  have q2a := cell_kept hb2 q2a
  have q2b := cell_kept hb2 q2b
  clear cS hb2 hB1
  go_wp2_with fail
  go_quiet (fail)
  obtain ⟨w3, hw3⟩ : ∃ x, x = w2.drewN nq := ⟨_, rfl⟩
  have hb3 : Below w2.heap.size w2 w3 := by rw [hw3]; exact below_drawN (Below.refl _ _) _
  rw [← hw3]
  have hB3 := below_then hB2 hB2.size hb3
  have q2a := cell_kept hb3 q2a
  have q2b := cell_kept hb3 q2b
  clear hw3 hb3 hB2 q1a q1b
  have cT := refcheck_any A B l t l.length sc t.length tc rfl rfl w3 (hl.kept hB3) (ht.kept hB3)
  generalize hte : termErr l t = er at cT
  go_wp2_with fail
  refine cT.mono ?_
  rintro e w4 ⟨rfl, hb4⟩
  have hB4 := below_then hB3 hB3.size hb4
  have q2a := cell_kept hb4 q2a
  have q2b := cell_kept hb4 q2b
  clear cT hb4 hB3
  have cU := refcheck_any A C l u l.length sc u.length uc rfl rfl w4 (hl.kept hB4) (hu.kept hB4)
  generalize hue : termErr l u = ef at cU
  have HTE := Lib.hid hte
  have HUE := Lib.hid hue
  clear hte hue
  by_cases h1 : er = 0
  · by_cases h2 : ef = 0
    · subst h1 h2
      have hp := term_pos HTE.out
      have hil := which_lt a0 hp
      have hkl := which_lt a1 hp
      have cW := fun W => which_any a0 t.length ha0 hp (by omega) W
      have cX := fun W => which_any a1 t.length ha1 hp (by omega) W
      generalize whichOf a0 t.length = i at cW hil
      generalize whichOf a1 t.length = k at cX hkl
      go_wp2_with fail
      refine cU.mono ?_
      rintro e w5 ⟨rfl, hb5⟩
      have hB5 := below_then hB4 hB4.size hb5
      have q2a := cell_kept hb5 q2a
      have q2b := cell_kept hb5 q2b
      clear cU hb5 hB4
      go_wp2_with fail
      refine (cW _).mono ?_
      rintro e w' ⟨rfl, rfl⟩
      go_wp2_with fail
      refine (cX _).mono ?_
      rintro e w' ⟨rfl, rfl⟩
      clear q2a q2b cW cX
      obtain ⟨x1, x2, x3, x4, x5, x6, x7, x8, x9⟩ := swaps_plain (u := u) HTE.out HUE.out hil
      have cS1 := sub_right_any A B l t sc tc i HTE.out hil hcap htc w5 (hl.kept hB5) (ht.kept hB5) (hT.kept hB5) h88
      have hAP := fun d => swaps_apart (u := u) (d := d) HTE.out HUE.out hil
      have cR1 := fun W h1 h2 h3 h4 => replace_right A B C l t u sc tc uc i HTE.out HUE.out hil hcap htc huc hnu W h1 h2 h3 h4 h88 h99
      obtain ⟨S, hS⟩ : ∃ S, S = subAt l t i := ⟨_, rfl⟩
      rw [← hS] at x3 x5 x7 x8 x9 cS1 hAP
      obtain ⟨X, hX⟩ : ∃ X, X = replAt l t i u := ⟨_, rfl⟩
      rw [← hX] at x1 x2 x4 x5 x8 cR1 hAP
      have X1 := Lib.hid x1
      have X3 := Lib.hid x3
      have X4 := Lib.hid x4
      have X5 := Lib.hid x5
      clear hS hX x1 x3 x4 x5 x6
      go_wp2_with fail
      refine cS1.mono ?_
      rintro e w6 ⟨v1, rfl, hb6, hO1⟩
      have hB6 := below_then hB5 hB5.size hb6
      obtain ⟨SA, ss, rfl, hsc, hsn, hs8, hSI⟩ := hO1.full
      have cR1 := cR1 w6 (hl.kept hB6) (ht.kept hB6) (hu.kept hB6) (hT.kept hB6)
      clear cS1 hb6 hO1 hB5
      by_cases hbig : 512 < X.length
      · rw [show bigErr X.length = 2 from if_pos hbig, if_neg (by omega)] at cR1
        have hbig' : (512 : Int) < (t.length : Int) - (S.length : Int) + (u.length : Int) := by omega
        clear x8
        go_wp2_with fail
        refine cR1.mono ?_
        rintro e w7 ⟨v2, rfl, hb7, hO2⟩
        obtain ⟨XA, xc, rfl, _⟩ := hO2.ints
        go_wp2_with fail
        go_ret
        exact ⟨rfl, below_then hB6 hB6.size hb7⟩
      · rw [show bigErr X.length = 0 from if_neg hbig, if_pos (by omega)] at cR1
        have hbig' : ¬ (512 : Int) < (t.length : Int) - (S.length : Int) + (u.length : Int) := by omega
        have hne : ((X.length : Int) != (t.length : Int) - (S.length : Int) + (u.length : Int)) = false := by
          have : (X.length : Int) = (t.length : Int) - (S.length : Int) + (u.length : Int) := by omega
          rw [this]; simp
        go_wp2_with fail
        refine cR1.mono ?_
        rintro e w7 ⟨v2, rfl, hb7, hO2⟩
        have hB7 := below_then hB6 hB6.size hb7
        obtain ⟨XA, xc, rfl, hxc, hxn, hx8, hXI⟩ := hO2.full
        have hSI := hSI.kept hb7
        have cS2 := sub_right_any A XA l X sc xc i X1.out x2 hcap hxc w7 (hl.kept hB7) hXI (hT.kept hB7) hx8
        rw [X4.out] at cS2
        clear cR1 hb7 hO2 hB6
        go_wp2_with fail
        refine cS2.mono ?_
        rintro e w8 ⟨v3, rfl, hb8, hO3⟩
        have hB8 := below_then hB7 hB7.size hb8
        have hSI := hSI.kept hb8
        have hXI := hXI.kept hb8
        obtain ⟨UA, uuc, rfl, hUI⟩ := hO3.ints
        have cE1 := same_self UA C u uuc uc w8 hUI (hu.kept hB8)
        clear cS2 hb8 hO3 hUI hB7
        go_wp2_with fail
        refine cE1.mono ?_
        rintro e w9 ⟨rfl, hb9⟩
        have hB9 := below_then hB8 hB8.size hb9
        have hSI := hSI.kept hb9
        have hXI := hXI.kept hb9
        have cR2 := replace_right A XA SA l X S sc xc ss i X1.out X3.out x2 hcap hxc hsc hsn w9 (hl.kept hB9) hXI hSI (hT.kept hB9) hx8 hs8
        rw [X5.out] at cR2
        clear cE1 hb9 hSI hB8
        by_cases ht5 : t.length ≤ 512
        · have ht5' : (t.length : Int) ≤ 512 := by omega
          rw [show bigErr t.length = 0 from if_neg (by omega), if_pos ht5] at cR2
          go_wp2_with fail
          refine cR2.mono ?_
          rintro e w10 ⟨v4, rfl, hb10, hO4⟩
          have hB10 := below_then hB9 hB9.size hb10
          have hXI := hXI.kept hb10
          obtain ⟨TA, ttc, rfl, hTI⟩ := hO4.ints
          have cE2 := same_self TA B t ttc tc w10 hTI (ht.kept hB10)
          clear cR2 hb10 hO4 hTI hB9
          go_wp2_with fail
          refine cE2.mono ?_
          rintro e w11 ⟨rfl, hb11⟩
          have hB11 := below_then hB10 hB10.size hb11
          have hXI := hXI.kept hb11
          clear cE2 hb11 hB10
          by_cases hk : k < i + S.length
          · have hk' : (k : Int) < (i : Int) + (S.length : Int) := by omega
            go_wp2_with fail
            go_ret
            exact ⟨rfl, hB11⟩
          · obtain ⟨d, hd⟩ : ∃ d, k = i + S.length + d := ⟨k - (i + S.length), by omega⟩
            obtain ⟨y1, y2, y3, y4⟩ := hAP d (by omega)
            rw [← hd] at y1 y2 y4
            obtain ⟨k2, hk2⟩ : ∃ k2, k2 = i + u.length + d := ⟨_, rfl⟩
            rw [← hk2] at y3 y4
            have hke : ((k : Int) - (S.length : Int) + (u.length : Int)) = (k2 : Int) := by omega
            have HKE := Lib.hid hke
            have hk' : ¬ (k : Int) < (i : Int) + (S.length : Int) := by omega
            have cR3 := replace_right A B C l t u sc tc uc k HTE.out HUE.out hkl hcap htc huc hnu w11 (hl.kept hB11) (ht.kept hB11) (hu.kept hB11) (hT.kept hB11) h88 h99
            obtain ⟨Y, hY⟩ : ∃ Y, Y = replAt l t k u := ⟨_, rfl⟩
            rw [← hY] at y1 y2 y4 cR3
            have Y1 := Lib.hid y1
            have Y4 := Lib.hid y4
            clear hke hd hk2 hY y1 y4 hAP
            by_cases hYb : 512 < Y.length
            · rw [show bigErr Y.length = 2 from if_pos hYb, if_neg (by omega)] at cR3
              go_wp2_with fail
              refine cR3.mono ?_
              rintro e wa ⟨va, rfl, hba, _⟩
              go_wp2_with fail
              go_ret
              exact ⟨rfl, below_then hB11 hB11.size hba⟩
            · rw [show bigErr Y.length = 0 from if_neg hYb, if_pos (by omega)] at cR3
              go_wp2_with fail
              refine cR3.mono ?_
              rintro e wa ⟨va, rfl, hba, hOY⟩
              have hBa := below_then hB11 hB11.size hba
              have hXa := hXI.kept hba
              obtain ⟨YA, yc, rfl, hyc, hyn, hy8, hYI⟩ := hOY.full
              have cR4 := replace_right A YA C l Y u sc yc uc i Y1.out HUE.out y2 hcap hyc huc hnu wa (hl.kept hBa) hYI (hu.kept hBa) (hT.kept hBa) hy8 h99
              have cR5 := fun W h1 h2 h3 h4 => replace_right A XA C l X u sc xc uc k2 X1.out HUE.out y3 hcap hxc huc hnu W h1 h2 h3 h4 hx8 h99
              rw [← Y4.out] at cR5
              obtain ⟨Z, hZ⟩ : ∃ Z, Z = if (replAt l Y i u).length ≤ 512 then replAt l Y i u else [] := ⟨_, rfl⟩
              rw [← hZ] at cR4 cR5
              generalize bigErr (replAt l Y i u).length = ez at cR4 cR5
              clear hZ cR3 hOY hYI hXI hba
              go_wp2_with fail
              refine cR4.mono ?_
              rintro e wb ⟨vb, rfl, hbb, hOZ⟩
              have hBb := below_then hBa hBa.size hbb
              have cR5 := cR5 wb (hl.kept hBb) (hXa.kept hbb) (hu.kept hBb) (hT.kept hBb)
              obtain ⟨ZA, zc, rfl, hZI⟩ := hOZ.ints
              clear cR4 hXa hbb hOZ hBa
              go_wp2_with fail
              rw [HKE.out]
              refine cR5.mono ?_
              rintro e wc ⟨vc, rfl, hbc, hOW⟩
              have hBc := below_then hBb hBb.size hbc
              obtain ⟨WA, wcc, rfl, hWI⟩ := hOW.ints
              have cS5 := same_self ZA WA Z zc wcc wc (hZI.kept hbc) hWI
              clear cR5 hZI hWI hbc hOW hBb
              go_wp2_with fail
              refine cS5.mono ?_
              rintro e wd ⟨rfl, hbd⟩
              have hq : (ez == ez) = true := beq_self_eq_true _
              go_wp2_with fail
              go_ret
              exact ⟨rfl, below_then hBc hBc.size hbd⟩
        · have ht5' : ¬ (t.length : Int) ≤ 512 := by omega
          rw [show bigErr t.length = 2 from if_pos (by omega), if_neg ht5] at cR2
          go_wp2_with fail
          refine cR2.mono ?_
          rintro e w10 ⟨v4, rfl, hb10, hO4⟩
          have hB10 := below_then hB9 hB9.size hb10
          have hXI := hXI.kept hb10
          clear cR2 hb10 hO4 hB9
          by_cases hk : k < i + S.length
          · have hk' : (k : Int) < (i : Int) + (S.length : Int) := by omega
            go_wp2_with fail
            go_ret
            exact ⟨rfl, hB10⟩
          · obtain ⟨d, hd⟩ : ∃ d, k = i + S.length + d := ⟨k - (i + S.length), by omega⟩
            obtain ⟨y1, y2, y3, y4⟩ := hAP d (by omega)
            rw [← hd] at y1 y2 y4
            obtain ⟨k2, hk2⟩ : ∃ k2, k2 = i + u.length + d := ⟨_, rfl⟩
            rw [← hk2] at y3 y4
            have hke : ((k : Int) - (S.length : Int) + (u.length : Int)) = (k2 : Int) := by omega
            have HKE := Lib.hid hke
            have hk' : ¬ (k : Int) < (i : Int) + (S.length : Int) := by omega
            have cR3 := replace_right A B C l t u sc tc uc k HTE.out HUE.out hkl hcap htc huc hnu w10 (hl.kept hB10) (ht.kept hB10) (hu.kept hB10) (hT.kept hB10) h88 h99
            obtain ⟨Y, hY⟩ : ∃ Y, Y = replAt l t k u := ⟨_, rfl⟩
            rw [← hY] at y1 y2 y4 cR3
            have Y1 := Lib.hid y1
            have Y4 := Lib.hid y4
            clear hke hd hk2 hY y1 y4 hAP
            by_cases hYb : 512 < Y.length
            · rw [show bigErr Y.length = 2 from if_pos hYb, if_neg (by omega)] at cR3
              go_wp2_with fail
              refine cR3.mono ?_
              rintro e wa ⟨va, rfl, hba, _⟩
              go_wp2_with fail
              go_ret
              exact ⟨rfl, below_then hB10 hB10.size hba⟩
            · rw [show bigErr Y.length = 0 from if_neg hYb, if_pos (by omega)] at cR3
              go_wp2_with fail
              refine cR3.mono ?_
              rintro e wa ⟨va, rfl, hba, hOY⟩
              have hBa := below_then hB10 hB10.size hba
              have hXa := hXI.kept hba
              obtain ⟨YA, yc, rfl, hyc, hyn, hy8, hYI⟩ := hOY.full
              have cR4 := replace_right A YA C l Y u sc yc uc i Y1.out HUE.out y2 hcap hyc huc hnu wa (hl.kept hBa) hYI (hu.kept hBa) (hT.kept hBa) hy8 h99
              have cR5 := fun W h1 h2 h3 h4 => replace_right A XA C l X u sc xc uc k2 X1.out HUE.out y3 hcap hxc huc hnu W h1 h2 h3 h4 hx8 h99
              rw [← Y4.out] at cR5
              obtain ⟨Z, hZ⟩ : ∃ Z, Z = if (replAt l Y i u).length ≤ 512 then replAt l Y i u else [] := ⟨_, rfl⟩
              rw [← hZ] at cR4 cR5
              generalize bigErr (replAt l Y i u).length = ez at cR4 cR5
              clear hZ cR3 hOY hYI hXI hba
              go_wp2_with fail
              refine cR4.mono ?_
              rintro e wb ⟨vb, rfl, hbb, hOZ⟩
              have hBb := below_then hBa hBa.size hbb
              have cR5 := cR5 wb (hl.kept hBb) (hXa.kept hbb) (hu.kept hBb) (hT.kept hBb)
              obtain ⟨ZA, zc, rfl, hZI⟩ := hOZ.ints
              clear cR4 hXa hbb hOZ hBa
              go_wp2_with fail
              rw [HKE.out]
              refine cR5.mono ?_
              rintro e wc ⟨vc, rfl, hbc, hOW⟩
              have hBc := below_then hBb hBb.size hbc
              obtain ⟨WA, wcc, rfl, hWI⟩ := hOW.ints
              have cS5 := same_self ZA WA Z zc wcc wc (hZI.kept hbc) hWI
              clear cR5 hZI hWI hbc hOW hBb
              go_wp2_with fail
              refine cS5.mono ?_
              rintro e wd ⟨rfl, hbd⟩
              have hq : (ez == ez) = true := beq_self_eq_true _
              go_wp2_with fail
              go_ret
              exact ⟨rfl, below_then hBc hBc.size hbd⟩
    · have hq1 : (ef == 0) = false := beq_eq_false_iff_ne.2 h2
      have hq2 : (ef != 0) = true := bne_iff_ne.2 h2
      clear h2
      subst h1
      go_wp2_with fail
      refine cU.mono ?_
      rintro e w5 ⟨rfl, hb5⟩
      go_wp2_with fail
      go_ret
      exact ⟨rfl, below_then hB4 hB4.size hb5⟩
  · have hq1 : (er == 0) = false := beq_eq_false_iff_ne.2 h1
    have hq2 : (er != 0) = true := bne_iff_ne.2 h1
    clear h1
    go_wp2_with fail
    refine cU.mono ?_
    rintro e w5 ⟨rfl, hb5⟩
    go_wp2_with fail
    go_ret
    exact ⟨rfl, below_then hB4 hB4.size hb5⟩
end Go.Proofs.YtfhkbfofjjmbaaaDoor
