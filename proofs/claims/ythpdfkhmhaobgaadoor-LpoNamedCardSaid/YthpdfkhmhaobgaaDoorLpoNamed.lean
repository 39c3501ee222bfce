/- LpoNamed: the walk. Conditions: none. -/
import Derived.Test.YthpdfkhmhaobgaaDoorLpoBoth
import Derived.Test.YthpdfkhmhaobgaaDoorLpoPlain
set_option linter.unusedVariables false
set_option linter.unusedSimpArgs false
set_option linter.unnecessarySimpa false
namespace Go.Proofs.YthpdfkhmhaobgaaDoor
open Go.RowKit Go.Lib

theorem lor_cases (l : List Sy) (q : List (Int × Int)) (s t : List Int) : lor l q s t = 1 ∨ lor l q s t = -1 ∨ lor l q s t = 0 := by
  unfold lor
  split
  · exact .inl rfl
  · split
    · exact .inr (.inl rfl)
    · exact .inr (.inr rfl)
set_option maxRecDepth 100000 in
set_option maxHeartbeats 4000000 in
theorem lnamed_any (A B C D : Option Addr) (l : List Sy) (q : List (Int × Int)) (s t : List Int) (d : Int) (lc qc sc tc : Nat) (hlc : l.length ≤ lc) (hsc : s.length ≤ sc) (htc : t.length ≤ tc) (hd : -9223372036854775808 ≤ d ∧ d ≤ 9223372036854775807) (w : World) (hl : Sigs w A l) (hq : Pairs w B q) (hs : Ints w C s) (ht : Ints w D t) (hs8 : s.length * 8 ≤ 140737488355328) (ht8 : t.length * 8 ≤ 140737488355328) (hT : Tabs w) :
    Calls Tryd.prog 9 #[.slice A l.length lc, .slice B q.length qc, .agg #[.slice C s.length sc, .slice D t.length tc, .int .i64 d]] w fun e w' => e = .returned (.bool true) ∧ Below w.heap.size w w' := by
  have m1 := hs.2.1
  have hbx : Below w.heap.size w (w.alloc (.cells #[.slice C s.length sc, .slice D t.length tc, .int .i64 d] 59)) := below_alloc0 _ _
  have k0 : (w.alloc (.cells #[.slice C s.length sc, .slice D t.length tc, .int .i64 d] 59)).cell? ⟨w.heap.size, 0, none⟩ = some (.slice C s.length sc) := World.cell?_alloc_new w _ _ 0
  have k1 : (w.alloc (.cells #[.slice C s.length sc, .slice D t.length tc, .int .i64 d] 59)).cell? ⟨w.heap.size, 1, none⟩ = some (.slice D t.length tc) := World.cell?_alloc_new w _ _ 1
  have k2 : (w.alloc (.cells #[.slice C s.length sc, .slice D t.length tc, .int .i64 d] 59)).cell? ⟨w.heap.size, 2, none⟩ = some (.int .i64 d) := World.cell?_alloc_new w _ _ 2
  have cG := fun (a b : List Int) (F G : Option Addr) (ac bc : Nat) (pb : Nat) (hcyc : ¬ Cyclic q) (h1 : a.length ≤ ac) (h2 : b.length ≤ bc) (w1 : World) (hb : Below w.heap.size w w1) (ha : Ints w1 F a) (hb' : Ints w1 G b) (hP : IsPrec w1 pb l.length q) => lgreater_any A F G l q a b pb l.length lc ac bc hlc h1 h2 w1 hcyc (hl.kept hb) ha hb' (hT.kept hb) hP
  have cO := fun (a b : List Int) (F G : Option Addr) (ac bc : Nat) (pb : Nat) (hcyc : ¬ Cyclic q) (h1 : a.length ≤ ac) (h2 : b.length ≤ bc) (w1 : World) (hb : Below w.heap.size w w1) (ha : Ints w1 F a) (hb' : Ints w1 G b) (hP : IsPrec w1 pb l.length q) => lorient_any A F G l q a b pb l.length lc ac bc hlc h1 h2 w1 hcyc (hl.kept hb) ha hb' (hT.kept hb) hP
  have cB := fun (w1 : World) (hb : Below w.heap.size w w1) => both_any A B l.length lc qc q w1 (hq.kept hb)
  have cT := fun (a : List Int) (F : Option Addr) (ac : Nat) (w1 : World) (hb : Below w.heap.size w w1) (ha : Ints w F a) => lterm_any A F l a lc ac w1 (hl.kept hb) (ha.kept hb)
  have cM := fun (a : List Int) (F : Option Addr) (ac : Nat) (w1 : World) (hb : Below w.heap.size w w1) (ha : Ints w F a) (h8 : a.length * 8 ≤ 140737488355328) => shift_ref_any F a ac d hd w1 (ha.kept hb) h8
  have cS := lshown_any _ (hT.kept hbx)
  have HG := Lib.hid cG
  have HO := Lib.hid cO
  have HB := Lib.hid cB
  have HC := Lib.hid cT
  have HM := Lib.hid cM
  have HS := Lib.hid hs
  have HTT := Lib.hid ht
  have HS8 := Lib.hid hs8
  have HT8 := Lib.hid ht8
  clear cG cO cB cT cM hl hs ht hT hq hs8 ht8
  go_enter Tryd.func9, Tryd.ntmps9
  go_wp2_with fail
  refine cS.mono ?_
  rintro e w1 ⟨rfl, hb1⟩
  have hb01 := below_then hbx hbx.size hb1
  have k01 := cell_kept hb1 k0
  have k11 := cell_kept hb1 k1
  have k21 := cell_kept hb1 k2
  obtain ⟨bx, hbxd⟩ : ∃ bx, bx = w.heap.size := ⟨_, rfl⟩
  rw [← hbxd] at k01 k11 k21
  rw [← hbxd]
  have HBX := Lib.hid hbxd
  clear cS k0 k1 k2 hbx hb1 hbxd
  have c2 := HB.out w1 hb01
  go_wp2_with fail
  refine c2.mono ?_
  rintro e w2 ⟨hb2, h⟩
  have hb02 := below_then hb01 hb01.size hb2
  have k02 := cell_kept hb2 k01
  have k12 := cell_kept hb2 k11
  have k22 := cell_kept hb2 k21
  clear k01 k11 k21 c2 hb2
  have c3 := HC.out s C sc w2 hb02 HS.out
  obtain ⟨b0, hd0⟩ : ∃ b, b = decide (termErr l s = 0 ∧ s.length ≤ 512) := ⟨_, rfl⟩
  obtain ⟨b1, hd1⟩ : ∃ b, b = decide (termErr l t = 0 ∧ t.length ≤ 512) := ⟨_, rfl⟩
  rw [← hd0] at c3
  have HD0 := Lib.hid hd0
  have HD1 := Lib.hid hd1
  obtain ⟨e0, he0⟩ : ∃ x, x = if (shiftOn d [] s).isSome then (0 : Int) else 40 := ⟨_, rfl⟩
  obtain ⟨e1, he1⟩ : ∃ x, x = if (shiftOn d [] t).isSome then (0 : Int) else 40 := ⟨_, rfl⟩
  have HE0 := Lib.hid he0
  have HE1 := Lib.hid he1
  clear hd0 hd1 he0 he1
  rcases h with ⟨_, rfl⟩ | ⟨hx, pb, rb, rfl, hP, _⟩
  · go_wp2_with fail
    refine c3.mono ?_
    rintro e w3 ⟨rfl, hb3⟩
    have hb03 := below_then hb02 hb02.size hb3
    have k03 := cell_kept hb3 k02
    have k13 := cell_kept hb3 k12
    have k23 := cell_kept hb3 k22
    have c4 := HC.out t D tc w3 hb03 HTT.out
    rw [← HD1.out] at c4
    clear c3 k02 k12 k22
    go_wp2_with fail
    refine c4.mono ?_
    rintro e w4 ⟨rfl, hb4⟩
    have hb04 := below_then hb03 hb03.size hb4
    have k04 := cell_kept hb4 k03
    have k14 := cell_kept hb4 k13
    have k24 := cell_kept hb4 k23
    have c5 := HM.out s C sc w4 hb04 HS.out HS8.out
    rw [← HE0.out] at c5
    clear c4 k03 k13 k23
    go_wp2_with fail
    refine c5.mono ?_
    rintro e w5 ⟨u, rfl, hb5, hU⟩
    have hb05 := below_then hb04 hb04.size hb5
    have k15 := cell_kept hb5 k14
    have k25 := cell_kept hb5 k24
    have c6 := HM.out t D tc w5 hb05 HTT.out HT8.out
    rw [← HE1.out] at c6
    clear c5 k04 k14 k24 hU
    go_wp2_with fail
    refine c6.mono ?_
    rintro e w6 ⟨v, rfl, hb6, hV⟩
    have hb06 := below_then hb05 hb05.size hb6
    clear c6 hV
    go_wp2_with fail
    go_ret
    exact ⟨rfl, hb06⟩
  · obtain ⟨_, _, hcyc⟩ := perr_zero.1 hx
    have HP := Lib.hid hP
    clear hx hP
    go_wp2_with fail
    refine c3.mono ?_
    rintro e w3 ⟨rfl, hb3⟩
    have hb03 := below_then hb02 hb02.size hb3
    have HP3 := Lib.hid (HP.out.kept hb3)
    have k03 := cell_kept hb3 k02
    have k13 := cell_kept hb3 k12
    have k23 := cell_kept hb3 k22
    have c4 := HC.out t D tc w3 hb03 HTT.out
    rw [← HD1.out] at c4
    clear c3 k02 k12 k22 HP hb3
    go_wp2_with fail
    refine c4.mono ?_
    rintro e w4 ⟨rfl, hb4⟩
    have hb04 := below_then hb03 hb03.size hb4
    have HP4 := Lib.hid (HP3.out.kept hb4)
    have k04 := cell_kept hb4 k03
    have k14 := cell_kept hb4 k13
    have k24 := cell_kept hb4 k23
    have c5 := HM.out s C sc w4 hb04 HS.out HS8.out
    rw [← HE0.out] at c5
    clear c4 k03 k13 k23 HP3 hb4
    go_wp2_with fail
    refine c5.mono ?_
    rintro e w5 ⟨u, rfl, hb5, hU⟩
    have hb05 := below_then hb04 hb04.size hb5
    have HP5 := Lib.hid (HP4.out.kept hb5)
    have HU := Lib.hid hU
    have k05 := cell_kept hb5 k04
    have k15 := cell_kept hb5 k14
    have k25 := cell_kept hb5 k24
    have c6 := HM.out t D tc w5 hb05 HTT.out HT8.out
    rw [← HE1.out] at c6
    clear c5 k04 k14 k24 hU HP4 hb5
    go_wp2_with fail
    refine c6.mono ?_
    rintro e w6 ⟨v, rfl, hb6, hV⟩
    have hb06 := below_then hb05 hb05.size hb6
    have HP6 := Lib.hid (HP5.out.kept hb6)
    have HU6 := Lib.hid (HU.out.below hb6)
    have HV6 := Lib.hid hV
    have k06 := cell_kept hb6 k05
    have k16 := cell_kept hb6 k15
    clear c6 k05 k15 k25 hV HP5 hb6 HU hb05 hb04 hb03 hb02 hb01
    cases b0 with
    | false =>
      go_wp2_with fail
      go_ret
      exact ⟨rfl, hb06⟩
    | true =>
    cases b1 with
    | false =>
      go_wp2_with fail
      go_ret
      exact ⟨rfl, hb06⟩
    | true =>
    cases hsu : shiftOn d [] s with
    | none =>
      have he : e0 = 40 := by rw [HE0.out, hsu]; rfl
      subst he
      clear hsu
      go_wp2_with fail
      go_ret
      exact ⟨rfl, hb06⟩
    | some us =>
    cases htv : shiftOn d [] t with
    | none =>
      have he : e1 = 40 := by rw [HE1.out, htv]; rfl
      subst he
      have he : e0 = 0 := by rw [HE0.out, hsu]; rfl
      subst he
      clear hsu htv
      go_wp2_with fail
      go_ret
      exact ⟨rfl, hb06⟩
    | some vs =>
    have he : e1 = 0 := by rw [HE1.out, htv]; rfl
    subst he
    have he : e0 = 0 := by rw [HE0.out, hsu]; rfl
    subst he
    have hU := HU6.out
    have hV := HV6.out
    rw [hsu] at hU
    rw [htv] at hV
    obtain ⟨U, uc, rfl, huc, _, _, hUI⟩ := hU.reads
    obtain ⟨V, vc, rfl, hvc, _, _, hVI⟩ := hV.reads
    obtain ⟨hs0, hs5⟩ := of_decide_eq_true HD0.out.symm
    obtain ⟨ht0, ht5⟩ := of_decide_eq_true HD1.out.symm
    have e1' : lg l q us vs = lg l q s t := lg_moved hs0 ht0 hs5 ht5 hsu htv
    have e2' : lg l q vs us = lg l q t s := lg_moved ht0 hs0 ht5 hs5 htv hsu
    have o2 : lor l q vs us = -lor l q s t := by rw [lor_turned hcyc]; unfold lor; rw [e1', e2']
    obtain ⟨x, hxd⟩ : ∃ b, b = lg l q s t := ⟨_, rfl⟩
    obtain ⟨o, hod⟩ : ∃ b, b = lor l q s t := ⟨_, rfl⟩
    have hxo : x = (o == 1) := by rw [hxd, hod]; exact lg_lor hcyc
    have ho3 : o = 1 ∨ o = -1 ∨ o = 0 := by rw [hod]; exact lor_cases l q s t
    rw [← hod] at o2
    rw [← hxd] at e1'
    have HUI := Lib.hid hUI
    have HVI := Lib.hid hVI
    have E1 := Lib.hid e1'
    have O2 := Lib.hid o2
    have HXD := Lib.hid hxd
    have HOD := Lib.hid hod
    have HXO := Lib.hid hxo
    have HO3 := Lib.hid ho3
    clear hs0 hs5 ht0 ht5 hsu htv hU hV hUI hVI e1' e2' o2 hxd hod hxo ho3 HU6 HV6 HD0 HD1 HE0 HE1
    have c7 := HG.out s t C D sc tc pb hcyc hsc htc w6 hb06 (HS.out.kept hb06) (HTT.out.kept hb06) HP6.out
    rw [← HXD.out] at c7
    go_wp2_with fail
    refine c7.mono ?_
    rintro e w7 ⟨rfl, hb7⟩
    have hb07 := below_then hb06 hb06.size hb7
    have HP7 := Lib.hid (HP6.out.kept hb7)
    have HU7 := Lib.hid (HUI.out.kept hb7)
    have HV7 := Lib.hid (HVI.out.kept hb7)
    have k07 := cell_kept hb7 k06
    have k17 := cell_kept hb7 k16
    have c8 := HG.out us vs U V uc vc pb hcyc huc hvc w7 hb07 HU7.out HV7.out HP7.out
    rw [E1.out] at c8
    clear c7 k06 k16 hb7 hb06 HP6 HUI HVI
    go_wp2_with fail
    refine c8.mono ?_
    rintro e w8 ⟨rfl, hb8⟩
    have hb08 := below_then hb07 hb07.size hb8
    have HP8 := Lib.hid (HP7.out.kept hb8)
    have HU8 := Lib.hid (HU7.out.kept hb8)
    have HV8 := Lib.hid (HV7.out.kept hb8)
    have k08 := cell_kept hb8 k07
    have k18 := cell_kept hb8 k17
    have c9 := HO.out s t C D sc tc pb hcyc hsc htc w8 hb08 (HS.out.kept hb08) (HTT.out.kept hb08) HP8.out
    rw [← HOD.out] at c9
    clear c8 k07 k17 hb8 hb07 HP7 HU7 HV7
    go_wp2_with fail
    refine c9.mono ?_
    rintro e w9 ⟨rfl, hb9⟩
    have hb09 := below_then hb08 hb08.size hb9
    have c10 := HO.out vs us V U vc uc pb hcyc hvc huc w9 hb09 (HV8.out.kept hb9) (HU8.out.kept hb9) (HP8.out.kept hb9)
    rw [O2.out] at c10
    clear c9 k08 k18 hb9 hb08
    go_wp2_with fail
    refine c10.mono ?_
    rintro e w10 ⟨rfl, hb10⟩
    have hb010 := below_then hb09 hb09.size hb10
    have hxo := HXO.out
    clear c10 hb10 hb09 HXO HXD HOD E1 O2
    rcases HO3.out with rfl | rfl | rfl
    all_goals
      clear HO3
      subst hxo
      go_wp2_with fail
      go_ret
      exact ⟨rfl, hb010⟩
theorem lpoNamed_walk (A : Option Addr) (l : List Sy) (lc : Nat) (B : Option Addr) (q : List (Int × Int)) (qc : Nat) (C : Option Addr) (s : List Int) (sc : Nat) (D : Option Addr) (t : List Int) (tc : Nat) (d : Int) (w : World) (hT : Tabs w)
    (hlc : l.length ≤ lc) (hl : Sigs w A l) (hq : Pairs w B q) (hsc : s.length ≤ sc) (hs8 : s.length * 8 ≤ 140737488355328) (hs : Ints w C s) (htc : t.length ≤ tc) (ht8 : t.length * 8 ≤ 140737488355328) (ht : Ints w D t) (hd : -9223372036854775808 ≤ d ∧ d ≤ 9223372036854775807) :
    Calls Tryd.prog 9 #[.slice A l.length lc, .slice B q.length qc, .agg #[.slice C s.length sc, .slice D t.length tc, .int .i64 d]] w fun e w' => e = .returned (.bool true) ∧ Below w.heap.size w w' :=
  lnamed_any A B C D l q s t d lc qc sc tc hlc hsc htc hd w hl hq hs ht hs8 ht8 hT
end Go.Proofs.YthpdfkhmhaobgaaDoor
