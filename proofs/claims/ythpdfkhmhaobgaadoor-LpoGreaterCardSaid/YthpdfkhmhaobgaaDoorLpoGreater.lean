/- LpoGreater: the walk. Conditions: none. -/
import Derived.Test.YthpdfkhmhaobgaaDoorRefTable
import Derived.Test.YthpdfkhmhaobgaaDoorLpoParts
set_option linter.unusedVariables false
set_option linter.unusedSimpArgs false
set_option linter.unnecessarySimpa false
namespace Go.Proofs.YthpdfkhmhaobgaaDoor
open Go.RowKit Go.Lib

set_option maxRecDepth 100000 in
set_option maxHeartbeats 4000000 in
theorem lgreat_any (A B C D : Option Addr) (l : List Sy) (q : List (Int × Int)) (s t : List Int) (lc qc sc tc : Nat) (hlc : l.length ≤ lc) (hsc : s.length ≤ sc) (htc : t.length ≤ tc) (w : World) (hl : Sigs w A l) (hq : Pairs w B q) (hs : Ints w C s) (ht : Ints w D t) (hT : Tabs w) :
    Calls Tryd.prog 3 #[.slice A l.length lc, .slice B q.length qc, .agg #[.slice C s.length sc, .slice D t.length tc]] w fun e w' => e = .returned (.bool true) ∧ Below w.heap.size w w' := by
  have m1 := hs.2.1
  have hbx : Below w.heap.size w (w.alloc (.cells #[.slice C s.length sc, .slice D t.length tc] 25)) := below_alloc0 _ _
  have k0 : (w.alloc (.cells #[.slice C s.length sc, .slice D t.length tc] 25)).cell? ⟨w.heap.size, 0, none⟩ = some (.slice C s.length sc) := World.cell?_alloc_new w _ _ 0
  have k1 : (w.alloc (.cells #[.slice C s.length sc, .slice D t.length tc] 25)).cell? ⟨w.heap.size, 1, none⟩ = some (.slice D t.length tc) := World.cell?_alloc_new w _ _ 1
  have cG := fun (a b : List Int) (F G : Option Addr) (ac bc : Nat) (pb : Nat) (hcyc : ¬ Cyclic q) (h1 : a.length ≤ ac) (h2 : b.length ≤ bc) (w1 : World) (hb : Below w.heap.size w w1) (ha : Ints w F a) (hb' : Ints w G b) (hP : IsPrec w1 pb l.length q) => lgreater_any A F G l q a b pb l.length lc ac bc hlc h1 h2 w1 hcyc (hl.kept hb) (ha.kept hb) (hb'.kept hb) (hT.kept hb) hP
  have cR := fun (a b : List Int) (F G : Option Addr) (ac bc : Nat) (rb : Nat) (hcyc : ¬ Cyclic q) (h1 : a.length ≤ ac) (h2 : b.length ≤ bc) (w1 : World) (hb : Below w.heap.size w w1) (ha : Ints w F a) (hb' : Ints w G b) (hP : IsRef w1 rb l.length q) => rgreater_any A F G l q a b rb lc ac bc h1 h2 w1 hcyc (hl.kept hb) (ha.kept hb) (hb'.kept hb) hP
  have cB := fun (w1 : World) (hb : Below w.heap.size w w1) => both_any A B l.length lc qc q w1 (hq.kept hb)
  have cS := lshown_any _ (hT.kept hbx)
  have HG := Lib.hid cG
  have HRG := Lib.hid cR
  have HB := Lib.hid cB
  have HS := Lib.hid hs
  have HTT := Lib.hid ht
  clear cG cR cB hl hs ht hT hq
  go_enter Tryd.func3, Tryd.ntmps3
  go_wp2_with fail
  refine cS.mono ?_
  rintro e w1 ⟨rfl, hb1⟩
  have hb01 := below_then hbx hbx.size hb1
  have k01 := cell_kept hb1 k0
  have k11 := cell_kept hb1 k1
  obtain ⟨bx, hbxd⟩ : ∃ bx, bx = w.heap.size := ⟨_, rfl⟩
  rw [← hbxd] at k01 k11
  rw [← hbxd]
  have HBX := Lib.hid hbxd
  clear cS k0 k1 hbx hb1 hbxd
  have c2 := HB.out w1 hb01
  go_wp2_with fail
  refine c2.mono ?_
  rintro e w2 ⟨hb2, h⟩
  have hb02 := below_then hb01 hb01.size hb2
  have k02 := cell_kept hb2 k01
  have k12 := cell_kept hb2 k11
  clear k01 k11 c2 hb2 hb01
  rcases h with ⟨_, rfl⟩ | ⟨hx, pb, rb, rfl, hP, hR⟩
  · go_wp2_with fail
    go_ret
    exact ⟨rfl, hb02⟩
  · obtain ⟨_, _, hcyc⟩ := perr_zero.1 hx
    obtain ⟨x, hxd⟩ : ∃ b, b = lg l q s t := ⟨_, rfl⟩
    obtain ⟨y, hyd⟩ : ∃ b, b = lg l q t s := ⟨_, rfl⟩
    have hxy : x = true → y = false := by rw [hxd, hyd]; exact lg_back hcyc
    have HP := Lib.hid hP
    have HRf := Lib.hid hR
    have HXD := Lib.hid hxd
    have HYD := Lib.hid hyd
    have HXY := Lib.hid hxy
    have c3 := HG.out s t C D sc tc pb hcyc hsc htc w2 hb02 HS.out HTT.out hP
    rw [← HXD.out] at c3
    clear hx hP hR hxd hyd hxy
    go_wp2_with fail
    refine c3.mono ?_
    rintro e w3 ⟨rfl, hb3⟩
    have hb03 := below_then hb02 hb02.size hb3
    have HP3 := Lib.hid (HP.out.kept hb3)
    have HR3 := Lib.hid (HRf.out.kept hb3)
    have k03 := cell_kept hb3 k02
    have k13 := cell_kept hb3 k12
    have c4 := HRG.out s t C D sc tc rb hcyc hsc htc w3 hb03 HS.out HTT.out HR3.out
    rw [← HXD.out] at c4
    clear c3 HP HRf k02 k12 hb3 hb02
    go_wp2_with fail
    refine c4.mono ?_
    rintro e w4 ⟨rfl, hb4⟩
    have hb04 := below_then hb03 hb03.size hb4
    have HP4 := Lib.hid (HP3.out.kept hb4)
    have HR4 := Lib.hid (HR3.out.kept hb4)
    have k04 := cell_kept hb4 k03
    have k14 := cell_kept hb4 k13
    have c5 := HG.out t s D C tc sc pb hcyc htc hsc w4 hb04 HTT.out HS.out HP4.out
    rw [← HYD.out] at c5
    clear c4 HP3 HR3 k03 k13 hb4 hb03
    go_wp2_with fail
    refine c5.mono ?_
    rintro e w5 ⟨rfl, hb5⟩
    have hb05 := below_then hb04 hb04.size hb5
    have HR5 := Lib.hid (HR4.out.kept hb5)
    have k05 := cell_kept hb5 k04
    have k15 := cell_kept hb5 k14
    have c6 := HRG.out t s D C tc sc rb hcyc htc hsc w5 hb05 HTT.out HS.out HR5.out
    rw [← HYD.out] at c6
    clear c5 HP4 HR4 k04 k14 hb5 hb04
    go_wp2_with fail
    refine c6.mono ?_
    rintro e w6 ⟨rfl, hb6⟩
    have hb06 := below_then hb05 hb05.size hb6
    have hxy := HXY.out
    clear c6 HR5 HXD HYD HXY k05 k15 hb6 hb05
    have hcase : (x = true ∧ y = false) ∨ (x = false ∧ y = true) ∨ (x = false ∧ y = false) := by cases x <;> cases y <;> simp_all
    clear hxy
    rcases hcase with ⟨rfl, rfl⟩ | ⟨rfl, rfl⟩ | ⟨rfl, rfl⟩
    all_goals
      go_wp2_with fail
      go_ret
      exact ⟨rfl, hb06⟩
theorem lpoGreater_walk (A : Option Addr) (l : List Sy) (lc : Nat) (B : Option Addr) (q : List (Int × Int)) (qc : Nat) (C : Option Addr) (s : List Int) (sc : Nat) (D : Option Addr) (t : List Int) (tc : Nat) (w : World) (hT : Tabs w)
    (hlc : l.length ≤ lc) (hl : Sigs w A l) (hq : Pairs w B q) (hsc : s.length ≤ sc) (_ : C = none → s.length = 0 ∧ sc = 0) (_ : s.length * 8 ≤ 140737488351232) (hs : Ints w C s) (htc : t.length ≤ tc) (_ : D = none → t.length = 0 ∧ tc = 0) (_ : t.length * 8 ≤ 140737488351232) (ht : Ints w D t) :
    Calls Tryd.prog 3 #[.slice A l.length lc, .slice B q.length qc, .agg #[.slice C s.length sc, .slice D t.length tc]] w fun e w' => e = .returned (.bool true) ∧ Below w.heap.size w w' :=
  lgreat_any A B C D l q s t lc qc sc tc hlc hsc htc w hl hq hs ht hT
end Go.Proofs.YthpdfkhmhaobgaaDoor
