/- LpoOrder: the walk. Conditions: none. -/
import Derived.Test.YthpdfkhmhaobgaaDoorLpoBoth
import Derived.Test.YthpdfkhmhaobgaaDoorLpoParts
import Derived.Test.YthpdfkhmhaobgaaDoorEnd
set_option linter.unusedVariables false
set_option linter.unusedSimpArgs false
set_option linter.unnecessarySimpa false
namespace Go.Proofs.YthpdfkhmhaobgaaDoor
open Go.RowKit Go.Lib

set_option maxRecDepth 100000 in
set_option maxHeartbeats 4000000 in
theorem lorder_any (A B C D E : Option Addr) (l : List Sy) (q : List (Int × Int)) (s t u : List Int) (lc qc sc tc uc : Nat) (hlc : l.length ≤ lc) (hsc : s.length ≤ sc) (htc : t.length ≤ tc) (huc : u.length ≤ uc) (w : World) (hl : Sigs w A l) (hq : Pairs w B q) (hs : Ints w C s) (ht : Ints w D t) (hu : Ints w E u) (hT : Tabs w) :
    Calls Tryd.prog 5 #[.slice A l.length lc, .slice B q.length qc, .agg #[.slice C s.length sc, .slice D t.length tc, .slice E u.length uc]] w fun e w' => e = .returned (.bool true) ∧ Below w.heap.size w w' := by
  have m1 := hs.2.1
  have hbx : Below w.heap.size w (w.alloc (.cells #[.slice C s.length sc, .slice D t.length tc, .slice E u.length uc] 39)) := below_alloc0 _ _
  have k0 : (w.alloc (.cells #[.slice C s.length sc, .slice D t.length tc, .slice E u.length uc] 39)).cell? ⟨w.heap.size, 0, none⟩ = some (.slice C s.length sc) := World.cell?_alloc_new w _ _ 0
  have k1 : (w.alloc (.cells #[.slice C s.length sc, .slice D t.length tc, .slice E u.length uc] 39)).cell? ⟨w.heap.size, 1, none⟩ = some (.slice D t.length tc) := World.cell?_alloc_new w _ _ 1
  have k2 : (w.alloc (.cells #[.slice C s.length sc, .slice D t.length tc, .slice E u.length uc] 39)).cell? ⟨w.heap.size, 2, none⟩ = some (.slice E u.length uc) := World.cell?_alloc_new w _ _ 2
  have cG := fun (a b : List Int) (F G : Option Addr) (ac bc : Nat) (pb : Nat) (hcyc : ¬ Cyclic q) (h1 : a.length ≤ ac) (h2 : b.length ≤ bc) (w1 : World) (hb : Below w.heap.size w w1) (ha : Ints w F a) (hb' : Ints w G b) (hP : IsPrec w1 pb l.length q) => lgreater_any A F G l q a b pb l.length lc ac bc hlc h1 h2 w1 hcyc (hl.kept hb) (ha.kept hb) (hb'.kept hb) (hT.kept hb) hP
  have cB := fun (w1 : World) (hb : Below w.heap.size w w1) => both_any A B l.length lc qc q w1 (hq.kept hb)
  have cT := fun (a : List Int) (F : Option Addr) (ac : Nat) (w1 : World) (hb : Below w.heap.size w w1) (ha : Ints w F a) => lterm_any A F l a lc ac w1 (hl.kept hb) (ha.kept hb)
  have cS := lshown_any _ (hT.kept hbx)
  have HG := Lib.hid cG
  have HB := Lib.hid cB
  have HC := Lib.hid cT
  have HL := Lib.hid hl
  have HS := Lib.hid hs
  have HTT := Lib.hid ht
  have HU := Lib.hid hu
  clear cG cB cT hl hs ht hu hT hq
  go_enter Tryd.func5, Tryd.ntmps5
  go_wp2_with fail
  refine cS.mono ?_
  rintro e w1 ⟨rfl, hb1⟩
  have hb01 := below_then hbx hbx.size hb1
  have k01 := cell_kept hb1 k0
  have k11 := cell_kept hb1 k1
  have k21 := cell_kept hb1 k2
  obtain ⟨bx, hbxd⟩ : ∃ bx, bx = w.heap.size := ⟨_, rfl⟩
  rw [← hbxd] at k01 k11 k21
  rw [← hbxd]
  have HBX := Lib.hid hbxd
  clear cS k0 k1 k2 hbx hb1 hbxd
  have c2 := HB.out w1 hb01
  go_wp2_with fail
  refine c2.mono ?_
  rintro e w2 ⟨hb2, h⟩
  have hb02 := below_then hb01 hb01.size hb2
  have k02 := cell_kept hb2 k01
  have k12 := cell_kept hb2 k11
  have k22 := cell_kept hb2 k21
  clear k01 k11 k21 c2 hb2
  have c3 := HC.out s C sc w2 hb02 HS.out
  rcases h with ⟨_, rfl⟩ | ⟨hx, pb, rb, rfl, hP, _⟩
  · go_wp2_with fail
    refine c3.mono ?_
    rintro e w3 ⟨rfl, hb3⟩
    have hb03 := below_then hb02 hb02.size hb3
    have k13 := cell_kept hb3 k12
    have k23 := cell_kept hb3 k22
    have c4 := HC.out t D tc w3 hb03 HTT.out
    generalize decide (termErr l s = 0 ∧ s.length ≤ 512) = b0 at *
    clear c3 k02 k12 k22
    go_wp2_with fail
    refine c4.mono ?_
    rintro e w4 ⟨rfl, hb4⟩
    have hb04 := below_then hb03 hb03.size hb4
    have k24 := cell_kept hb4 k23
    have c5 := HC.out u E uc w4 hb04 HU.out
    generalize decide (termErr l t = 0 ∧ t.length ≤ 512) = b1 at *
    clear c4 k13 k23
    go_wp2_with fail
    refine c5.mono ?_
    rintro e w5 ⟨rfl, hb5⟩
    generalize decide (termErr l u = 0 ∧ u.length ≤ 512) = b2 at *
    have hb05 := below_then hb04 hb04.size hb5
    clear c5
    go_wp2_with fail
    go_ret
    exact ⟨rfl, hb05⟩
  · obtain ⟨_, _, hcyc⟩ := perr_zero.1 hx
    obtain ⟨b0, hd0⟩ : ∃ b, b = decide (termErr l s = 0 ∧ s.length ≤ 512) := ⟨_, rfl⟩
    obtain ⟨b1, hd1⟩ : ∃ b, b = decide (termErr l t = 0 ∧ t.length ≤ 512) := ⟨_, rfl⟩
    obtain ⟨b2, hd2⟩ : ∃ b, b = decide (termErr l u = 0 ∧ u.length ≤ 512) := ⟨_, rfl⟩
    rw [← hd0] at c3
    have HD0 := Lib.hid hd0
    have HD1 := Lib.hid hd1
    have HD2 := Lib.hid hd2
    have HX := Lib.hid hx
    have HP := Lib.hid hP
    clear hd0 hd1 hd2 hx hP
    go_wp2_with fail
    refine c3.mono ?_
    rintro e w3 ⟨rfl, hb3⟩
    have hb03 := below_then hb02 hb02.size hb3
    have hP3 := HP.out.kept hb3
    have HP3 := Lib.hid hP3
    have k03 := cell_kept hb3 k02
    have k13 := cell_kept hb3 k12
    have k23 := cell_kept hb3 k22
    have c4 := HC.out t D tc w3 hb03 HTT.out
    rw [← HD1.out] at c4
    clear c3 k02 k12 k22 hP3 HP
    go_wp2_with fail
    refine c4.mono ?_
    rintro e w4 ⟨rfl, hb4⟩
    have hb04 := below_then hb03 hb03.size hb4
    have hP4 := HP3.out.kept hb4
    have HP4 := Lib.hid hP4
    have k04 := cell_kept hb4 k03
    have k14 := cell_kept hb4 k13
    have k24 := cell_kept hb4 k23
    have c5 := HC.out u E uc w4 hb04 HU.out
    rw [← HD2.out] at c5
    clear c4 k03 k13 k23 hP4 HP3
    go_wp2_with fail
    refine c5.mono ?_
    rintro e w5 ⟨rfl, hb5⟩
    have hb05 := below_then hb04 hb04.size hb5
    have hP5 := HP4.out.kept hb5
    have HP5 := Lib.hid hP5
    have k05 := cell_kept hb5 k04
    have k15 := cell_kept hb5 k14
    have k25 := cell_kept hb5 k24
    clear c5 k04 k14 k24 hP5 HP4 hb3 hb4 hb5 hb01 hb02 hb03 hb04
    cases b0 with
    | false =>
      go_wp2_with fail
      go_ret
      exact ⟨rfl, hb05⟩
    | true =>
    cases b1 with
    | false =>
      go_wp2_with fail
      go_ret
      exact ⟨rfl, hb05⟩
    | true =>
    cases b2 with
    | false =>
      go_wp2_with fail
      go_ret
      exact ⟨rfl, hb05⟩
    | true =>
    have c6 := HG.out s t C D sc tc pb hcyc hsc htc w5 hb05 HS.out HTT.out HP5.out
    obtain ⟨x, hxd⟩ : ∃ b, b = lg l q s t := ⟨_, rfl⟩
    obtain ⟨y, hyd⟩ : ∃ b, b = lg l q t u := ⟨_, rfl⟩
    obtain ⟨z, hzd⟩ : ∃ b, b = lg l q s u := ⟨_, rfl⟩
    have hxyz : x = true → y = true → z = true := by rw [hxd, hyd, hzd]; exact lg_trans
    rw [← hxd] at c6
    have HXD := Lib.hid hxd
    have HYD := Lib.hid hyd
    have HZD := Lib.hid hzd
    have HXYZ := Lib.hid hxyz
    clear hxd hyd hzd hxyz
    go_wp2_with fail
    refine c6.mono ?_
    rintro e w6 ⟨rfl, hb6⟩
    have hb06 := below_then hb05 hb05.size hb6
    have HP6 := Lib.hid (HP5.out.kept hb6)
    have k06 := cell_kept hb6 k05
    have k16 := cell_kept hb6 k15
    have k26 := cell_kept hb6 k25
    have c7 := HG.out t u D E tc uc pb hcyc htc huc w6 hb06 HTT.out HU.out HP6.out
    rw [← HYD.out] at c7
    clear c6 k05 k15 k25 hb6 hb05 HP5
    go_wp2_with fail
    refine c7.mono ?_
    rintro e w7 ⟨rfl, hb7⟩
    have hb07 := below_then hb06 hb06.size hb7
    have HP7 := Lib.hid (HP6.out.kept hb7)
    have k07 := cell_kept hb7 k06
    have k27 := cell_kept hb7 k26
    have c8 := HG.out s u C E sc uc pb hcyc hsc huc w7 hb07 HS.out HU.out HP7.out
    rw [← HZD.out] at c8
    clear c7 k06 k16 k26 hb7 hb06 HP6
    go_wp2_with fail
    refine c8.mono ?_
    rintro e w8 ⟨rfl, hb8⟩
    have hb08 := below_then hb07 hb07.size hb8
    have HP8 := Lib.hid (HP7.out.kept hb8)
    have k08 := cell_kept hb8 k07
    have c9 := HG.out s s C C sc sc pb hcyc hsc hsc w8 hb08 HS.out HS.out HP8.out
    rw [lg_self hcyc] at c9
    clear c8 k07 k27 hb8 hb07 HP7
    go_wp2_with fail
    refine c9.mono ?_
    rintro e w9 ⟨rfl, hb9⟩
    have hb09 := below_then hb08 hb08.size hb9
    have HP9 := Lib.hid (HP8.out.kept hb9)
    have k09 := cell_kept hb9 k08
    clear c9 k08 hb9 hb08 HP8
    obtain ⟨hs0, hs5⟩ := of_decide_eq_true HD0.out.symm
    have hG := good_of (term_sig hs0)
    have hcase : (x = true ∧ y = true ∧ z = true) ∨ x = false ∨ (x = true ∧ y = false) := by
      cases x <;> cases y <;> simp
      exact HXYZ.out rfl rfl
    have HS0 := Lib.hid hs0
    have HGD := Lib.hid hG
    clear hs0 hG HXD HYD HZD HXYZ HD0 HD1 HD2
    rcases hcase with ⟨rfl, rfl, rfl⟩ | rfl | ⟨rfl, rfl⟩
    all_goals
      go_wp2_with fail
      go_loopg [18, 19, 20, 21] s.length (fun gk i u19 u20 u21 wr => ∃ k : Nat, Aside (gk + k = s.length + 1) ∧ i = .int .i64 k ∧ 1 ≤ k ∧ Aside (Below w.heap.size w wr) ∧ wr.cell? ⟨bx, 0, none⟩ = some (.slice C s.length sc) ∧ Aside (IsPrec wr pb l.length q))
      case atStart => exact ⟨1, (rfl : s.length + 1 = _), rfl, Nat.le_refl _, hb09, k09, HP9.out⟩
      case round =>
        obtain ⟨k, hg, rfl, hk1, hB, kc, hPr⟩ := hrel
        have HBW := Lib.hid hB.out
        have HPW := Lib.hid hPr.out
        clear hB hPr
        by_cases hlt : k < s.length
        · by_cases h60 : k < 60
          · obtain ⟨cb, off, _, rfl, _, _, _, _⟩ := HS.out.at_ hlt
            have hpe := place_end HS0.out hlt
            obtain ⟨hE, hE1, hE2⟩ := hpe
            obtain ⟨e, he⟩ : ∃ e, e = endOf l s k := ⟨_, rfl⟩
            rw [← he] at hE hE1 hE2
            have HE := Lib.hid hE
            have HEE := Lib.hid he
            clear hE he
            go_wp2_with fail
            refine wp_region_ext (I := Over wr) (by kernel_rfl) (by kernel_rfl) (Over.refl wr) ?_
            have f1 := Over.cell kc
            repeat (go_big_quiet_step ((go_at_call 17; exact Calls.over ((end_any A _ l s lc sc k e HE.out _ HGD.out ((HL.out.kept HBW.out).kept (Ext.ok _)) ((HS.out.kept HBW.out).kept (Ext.ok _))).mono (by rintro _ _ ⟨rfl, rfl⟩; exact ⟨rfl, Below.refl _ _⟩)))))
            try refine wpQuiet_nil ?_
            intro wa hwa
            clear f1
            have hsub : subAt l s k = (s.drop k).take (e - k) := by unfold subAt; rw [← HEE.out]
            have hpl : (subAt l s k).length = e - k := by rw [hsub, List.length_take, List.length_drop]; omega
            have hpi := HS.out.part k (e - k)
            rw [← hsub] at hpi
            have hba := below_then HBW.out HBW.out.size hwa
            have ka := cell_kept hwa kc
            have HPA := Lib.hid (HPW.out.kept hwa)
            have g1 := HG.out s (subAt l s k) (some ⟨cb, off, none⟩) (some ⟨cb, off + k, none⟩) sc (sc - k) pb hcyc hsc (by omega) wa hba HS.out hpi HPA.out
            have g2 := fun (wb : World) (hb : Below w.heap.size w wb) (hP : IsPrec wb pb l.length q) => HG.out (subAt l s k) s (some ⟨cb, off + k, none⟩) (some ⟨cb, off, none⟩) (sc - k) sc pb hcyc (by omega) hsc wb hb hpi HS.out hP
            have hgt : lg l q s (subAt l s k) = true := lg_part HS0.out hs5 (by omega) hlt
            rw [hgt, hpl] at g1
            rw [lg_back hcyc hgt, hpl] at g2
            have HG2 := Lib.hid g2
            clear hgt hpl hsub hpi g2 kc
            go_wp2_with fail
            refine g1.mono ?_
            rintro e' wb ⟨rfl, hbb⟩
            have hbb0 := below_then hba hba.size hbb
            have kb := cell_kept hbb ka
            have HPB := Lib.hid (HPA.out.kept hbb)
            have g2 := HG2.out wb hbb0 HPB.out
            clear g1 ka hbb hba
            go_wp2_with fail
            refine g2.mono ?_
            rintro e' wd ⟨rfl, hbd⟩
            have hbd0 := below_then hbb0 hbb0.size hbd
            have kd := cell_kept hbd kb
            have HPD := Lib.hid (HPB.out.kept hbd)
            clear g2 kb hbd hbb0
            go_wp2_with fail
            go_roundg (s.length - k)
            case measure => have := hg.out; omega
            case rel => exact ⟨k + 1, by have := hg.out; show _ = _; omega, by go_num, by omega, hbd0, kd, HPD.out⟩
          · go_wp2_with fail
            go_ret
            exact ⟨rfl, HBW.out⟩
        · go_wp2_with fail
          go_ret
          exact ⟨rfl, HBW.out⟩
theorem lpoOrder_walk (A : Option Addr) (l : List Sy) (lc : Nat) (B : Option Addr) (q : List (Int × Int)) (qc : Nat) (C : Option Addr) (s : List Int) (sc : Nat) (D : Option Addr) (t : List Int) (tc : Nat) (E : Option Addr) (u : List Int) (uc : Nat) (w : World) (hT : Tabs w)
    (hlc : l.length ≤ lc) (hl : Sigs w A l) (hq : Pairs w B q) (hsc : s.length ≤ sc) (hs : Ints w C s) (htc : t.length ≤ tc) (ht : Ints w D t) (huc : u.length ≤ uc) (hu : Ints w E u) :
    Calls Tryd.prog 5 #[.slice A l.length lc, .slice B q.length qc, .agg #[.slice C s.length sc, .slice D t.length tc, .slice E u.length uc]] w fun e w' => e = .returned (.bool true) ∧ Below w.heap.size w w' :=
  lorder_any A B C D E l q s t u lc qc sc tc uc hlc hsc htc huc w hl hq hs ht hu hT
end Go.Proofs.YthpdfkhmhaobgaaDoor
