/- LpoKept: the walk. Conditions: none. -/
import Derived.Test.YthpdfkhmhaobgaaDoorLpoBoth
import Derived.Test.YthpdfkhmhaobgaaDoorLpoKeep
import Derived.Test.YthpdfkhmhaobgaaDoorRefRepl
import Derived.Deep.Cut
set_option linter.unusedVariables false
set_option linter.unusedSimpArgs false
set_option linter.unnecessarySimpa false
namespace Go.Proofs.YthpdfkhmhaobgaaDoor
open Go.RowKit Go.Lib

set_option maxRecDepth 100000 in
set_option maxHeartbeats 4000000 in
theorem lkept_any (A B C D E F : Option Addr) (l : List Sy) (q : List (Int × Int)) (s t r : List Int) (b : List Bd) (d : Int) (lc qc sc tc ec rc : Nat) (hlc : l.length ≤ lc) (hsc : s.length ≤ sc) (htc : t.length ≤ tc) (hrc : r.length ≤ rc) (hCn : C = none → s.length = 0 ∧ sc = 0) (hDn : D = none → t.length = 0 ∧ tc = 0) (hd : -9223372036854775808 ≤ d ∧ d ≤ 9223372036854775807) (w : World) (hl : Sigs w A l) (hq : Pairs w B q) (hs : Ints w C s) (ht : Ints w D t) (hbs : Binds w E b) (hr : Ints w F r) (hT : Tabs w) :
    Calls Tryd.prog 6 #[.slice A l.length lc, .slice B q.length qc, .agg #[.slice C s.length sc, .slice D t.length tc, .slice E b.length ec, .slice F r.length rc, .int .i64 d]] w fun e w' => e = .returned (.bool true) ∧ Below w.heap.size w w' := by
  have m1 := hs.2.1
  obtain ⟨hd1, hd2⟩ := hd
  have hbx : Below w.heap.size w (w.alloc (.cells #[.slice C s.length sc, .slice D t.length tc, .slice E b.length ec, .slice F r.length rc, .int .i64 d] 45)) := below_alloc0 _ _
  have kk : ∀ j u, (#[.slice C s.length sc, .slice D t.length tc, .slice E b.length ec, .slice F r.length rc, .int .i64 d] : Array Value)[j]? = some u → (w.alloc (.cells #[.slice C s.length sc, .slice D t.length tc, .slice E b.length ec, .slice F r.length rc, .int .i64 d] 45)).cell? ⟨w.heap.size, j, none⟩ = some u := fun j u h => (World.cell?_alloc_new w _ _ j).trans h
  have k0 := kk 0 _ rfl
  have k1 := kk 1 _ rfl
  have k2 := kk 2 _ rfl
  have k3 := kk 3 _ rfl
  have k4 := kk 4 _ rfl
  have cG := fun (a b : List Int) (F G : Option Addr) (ac bc : Nat) (pb : Nat) (hcyc : ¬ Cyclic q) (h1 : a.length ≤ ac) (h2 : b.length ≤ bc) (w1 : World) (hb : Below w.heap.size w w1) (ha : Ints w1 F a) (hb' : Ints w1 G b) (hP : IsPrec w1 pb l.length q) => lgreater_any A F G l q a b pb l.length lc ac bc hlc h1 h2 w1 hcyc (hl.kept hb) ha hb' (hT.kept hb) hP
  have cB := fun (w1 : World) (hb : Below w.heap.size w w1) => both_any A B l.length lc qc q w1 (hq.kept hb)
  have cT := fun (a : List Int) (F : Option Addr) (ac : Nat) (w1 : World) (hb : Below w.heap.size w w1) (ha : Ints w F a) => lterm_any A F l a lc ac w1 (hl.kept hb) (ha.kept hb)
  have cA := fun (a : List Int) (F : Option Addr) (ac : Nat) (hac : a.length ≤ ac) (w1 : World) (hb : Below w.heap.size w w1) (ha : Ints w F a) => apply_ref_any A E F l b a lc ec ac hac w1 (hl.kept hb) (hbs.kept hb) (ha.kept hb)
  have cR := fun (a : List Int) (G : Option Addr) (ac : Nat) (K : Nat) (hK : K < 512) (hn : G = none → a.length = 0 ∧ ac = 0) (h1 : r.length ≤ 512) (h2 : a.length ≤ 512) (w1 : World) (hb : Below w.heap.size w w1) (ha : Ints w G a) => refreplace_any A F G l r a lc rc ac (K : Int) (by omega) hrc hn w1 (hl.kept hb) (hr.kept hb) (ha.kept hb) (by omega)
  have cS := lshown_any _ (hT.kept hbx)
  have HG := Lib.hid cG
  have HB := Lib.hid cB
  have HC := Lib.hid cT
  have HA := Lib.hid cA
  have HRP := Lib.hid cR
  have HS := Lib.hid hs
  have HTT := Lib.hid ht
  have HR := Lib.hid hr
  have HCN := Lib.hid hCn
  have HDN := Lib.hid hDn
  clear cG cB cT cA cR hl hs ht hT hq hr hbs kk hCn hDn
  go_enter Tryd.func6, Tryd.ntmps6
  go_wp2_with fail
  refine cS.mono ?_
  rintro e w1 ⟨rfl, hb1⟩
  have hb01 := below_then hbx hbx.size hb1
  have k01 := cell_kept hb1 k0
  have k11 := cell_kept hb1 k1
  have k21 := cell_kept hb1 k2
  have k31 := cell_kept hb1 k3
  have k41 := cell_kept hb1 k4
  obtain ⟨bx, hbxd⟩ : ∃ bx, bx = w.heap.size := ⟨_, rfl⟩
  rw [← hbxd] at k01 k11 k21 k31 k41
  rw [← hbxd]
  have HBX := Lib.hid hbxd
  clear cS k0 k1 k2 k3 k4 hbx hb1 hbxd
  have c2 := HB.out w1 hb01
  go_wp2_with fail
  refine c2.mono ?_
  rintro e w2 ⟨hb2, h⟩
  have hb02 := below_then hb01 hb01.size hb2
  have k02 := cell_kept hb2 k01
  have k12 := cell_kept hb2 k11
  have k22 := cell_kept hb2 k21
  have k32 := cell_kept hb2 k31
  have k42 := cell_kept hb2 k41
  clear k01 k11 k21 k31 k41 c2 hb2 hb01
  have c3 := HC.out s C sc w2 hb02 HS.out
  obtain ⟨b0, hd0⟩ : ∃ b, b = decide (termErr l s = 0 ∧ s.length ≤ 512) := ⟨_, rfl⟩
  obtain ⟨b1, hd1⟩ : ∃ b, b = decide (termErr l t = 0 ∧ t.length ≤ 512) := ⟨_, rfl⟩
  rw [← hd0] at c3
  have HD0 := Lib.hid hd0
  have HD1 := Lib.hid hd1
  clear hd0 hd1
  rcases h with ⟨_, rfl⟩ | ⟨hx, pb, rb, rfl, hP, _⟩
  · go_wp2_with fail
    refine c3.mono ?_
    rintro e w3 ⟨rfl, hb3⟩
    have hb03 := below_then hb02 hb02.size hb3
    have k13 := cell_kept hb3 k12
    have c4 := HC.out t D tc w3 hb03 HTT.out
    rw [← HD1.out] at c4
    clear c3 k02 k12 k22 k32 k42
    go_wp2_with fail
    refine c4.mono ?_
    rintro e w4 ⟨rfl, hb4⟩
    have hb04 := below_then hb03 hb03.size hb4
    go_wp2_with fail
    go_ret
    exact ⟨rfl, hb04⟩
  · obtain ⟨_, _, hcyc⟩ := perr_zero.1 hx
    have HP := Lib.hid hP
    clear hx hP
    go_wp2_with fail
    refine c3.mono ?_
    rintro e w3 ⟨rfl, hb3⟩
    have hb03 := below_then hb02 hb02.size hb3
    have HP3 := Lib.hid (HP.out.kept hb3)
    have k03 := cell_kept hb3 k02
    have k13 := cell_kept hb3 k12
    have k23 := cell_kept hb3 k22
    have k33 := cell_kept hb3 k32
    have k43 := cell_kept hb3 k42
    have c4 := HC.out t D tc w3 hb03 HTT.out
    rw [← HD1.out] at c4
    clear c3 k02 k12 k22 k32 k42 HP hb3 hb02
    go_wp2_with fail
    refine c4.mono ?_
    rintro e w4 ⟨rfl, hb4⟩
    have hb04 := below_then hb03 hb03.size hb4
    have HP4 := Lib.hid (HP3.out.kept hb4)
    have k04 := cell_kept hb4 k03
    have k14 := cell_kept hb4 k13
    have k24 := cell_kept hb4 k23
    have k34 := cell_kept hb4 k33
    have k44 := cell_kept hb4 k43
    clear c4 k03 k13 k23 k33 k43 HP3 hb4 hb03
    cases b0 with
    | false =>
      go_wp2_with fail
      go_ret
      exact ⟨rfl, hb04⟩
    | true =>
    cases b1 with
    | false =>
      go_wp2_with fail
      go_ret
      exact ⟨rfl, hb04⟩
    | true =>
    obtain ⟨hs0, hs5⟩ := of_decide_eq_true HD0.out.symm
    obtain ⟨ht0, ht5⟩ := of_decide_eq_true HD1.out.symm
    have c5 := HG.out s t C D sc tc pb hcyc hsc htc w4 hb04 (HS.out.kept hb04) (HTT.out.kept hb04) HP4.out
    obtain ⟨x, hxd⟩ : ∃ b, b = lg l q s t := ⟨_, rfl⟩
    rw [← hxd] at c5
    have HXD := Lib.hid hxd
    have HS0 := Lib.hid hs0
    have HT0 := Lib.hid ht0
    clear hxd HD0 HD1 hs0 ht0
    go_wp2_with fail
    refine c5.mono ?_
    rintro e w5 ⟨rfl, hb5⟩
    have hb05 := below_then hb04 hb04.size hb5
    have HP5 := Lib.hid (HP4.out.kept hb5)
    have k05 := cell_kept hb5 k04
    have k15 := cell_kept hb5 k14
    have k25 := cell_kept hb5 k24
    have k35 := cell_kept hb5 k34
    have k45 := cell_kept hb5 k44
    clear c5 k04 k14 k24 k34 k44 HP4 hb5 hb04
    cases x with
    | false =>
      go_wp2_with fail
      go_ret
      exact ⟨rfl, hb05⟩
    | true =>
    have c6 := HA.out s C sc hsc w5 hb05 HS.out
    obtain ⟨e0, he0⟩ : ∃ x, x = applyErr l b s := ⟨_, rfl⟩
    obtain ⟨e1, he1⟩ : ∃ x, x = applyErr l b t := ⟨_, rfl⟩
    rw [← he0] at c6
    have HE0 := Lib.hid he0
    have HE1 := Lib.hid he1
    clear he0 he1
    go_wp2_with fail
    refine c6.mono ?_
    rintro e w6 ⟨u, rfl, hb6, hU⟩
    have hb06 := below_then hb05 hb05.size hb6
    have HP6 := Lib.hid (HP5.out.kept hb6)
    have HU := Lib.hid hU
    have k06 := cell_kept hb6 k05
    have k16 := cell_kept hb6 k15
    have k26 := cell_kept hb6 k25
    have k36 := cell_kept hb6 k35
    have k46 := cell_kept hb6 k45
    have c7 := HA.out t D tc htc w6 hb06 HTT.out
    rw [← HE1.out] at c7
    clear c6 k05 k15 k25 k35 k45 HP5 hb6 hb05 hU
    go_wp2_with fail
    refine c7.mono ?_
    rintro e w7 ⟨v, rfl, hb7, hV⟩
    have hb07 := below_then hb06 hb06.size hb7
    have HP7 := Lib.hid (HP6.out.kept hb7)
    have HU7 := Lib.hid (HU.out.below hb7)
    have HV7 := Lib.hid hV
    have k07 := cell_kept hb7 k06
    have k17 := cell_kept hb7 k16
    have k37 := cell_kept hb7 k36
    have k47 := cell_kept hb7 k46
    obtain ⟨b2, hd2⟩ : ∃ b, b = decide (termErr l r = 0 ∧ r.length ≤ 512) := ⟨_, rfl⟩
    have HD2 := Lib.hid hd2
    clear c7 k06 k16 k26 k36 k46 HP6 hb7 hb06 hV HU hd2
    have hcase : e0 ≠ 0 ∨ (e0 = 0 ∧ e1 ≠ 0) ∨ (e0 = 0 ∧ e1 = 0) := by omega
    rcases hcase with h0 | ⟨h0, h1⟩ | ⟨h0, h1⟩
    all_goals first
      | (have q0 : (e0 == 0) = false := by simpa using h0
         clear h0
         go_wp2_with fail
         obtain ⟨wz, rfl⟩ : ∃ x : World, x = w7 := ⟨_, rfl⟩
         have hbz := hb07
         have HPz := Lib.hid HP7.out
         have k0z := k07
         have k1z := k17
         have k3z := k37
         have k4z := k47
         clear hb07 HP7 k07 k17 k37 k47 HU7 HV7 HE0 HE1)
      | (subst h0
         have q0 : (e1 == 0) = false := by simpa using h1
         clear h1
         go_wp2_with fail
         obtain ⟨wz, rfl⟩ : ∃ x : World, x = w7 := ⟨_, rfl⟩
         have hbz := hb07
         have HPz := Lib.hid HP7.out
         have k0z := k07
         have k1z := k17
         have k3z := k37
         have k4z := k47
         clear hb07 HP7 k07 k17 k37 k47 HU7 HV7 HE0 HE1)
      | (subst h0
         subst h1
         obtain ⟨U, uc, rfl, huc, _, _, hUI⟩ := HU7.out.reads
         obtain ⟨V, vc, rfl, hvc, _, _, hVI⟩ := HV7.out.reads
         have hg : lg l q (applied l b s) (applied l b t) = true := lg_bound HXD.out.symm HE0.out.symm HE1.out.symm
         have c8 := HG.out _ _ U V uc vc pb hcyc huc hvc w7 hb07 hUI hVI HP7.out
         rw [hg] at c8
         have HUI := Lib.hid hUI
         have HVI := Lib.hid hVI
         clear hg hUI hVI HU7 HV7 HE0 HE1
         go_wp2_with fail
         refine c8.mono ?_
         rintro e w8 ⟨rfl, hb8⟩
         have hb08 := below_then hb07 hb07.size hb8
         have HP8 := Lib.hid (HP7.out.kept hb8)
         have k08 := cell_kept hb8 k07
         have k18 := cell_kept hb8 k17
         have k38 := cell_kept hb8 k37
         have k48 := cell_kept hb8 k47
         clear c8 hb8 hb07 HP7 k07 k17 k37 k47
         go_wp2_with fail
         obtain ⟨wz, rfl⟩ : ∃ x : World, x = w8 := ⟨_, rfl⟩
         have hbz := hb08
         have HPz := Lib.hid HP8.out
         have k0z := k08
         have k1z := k18
         have k3z := k38
         have k4z := k48
         clear hb08 HP8 k08 k18 k38 k48)
    all_goals
      have c9 := HC.out r F rc wz hbz HR.out
      rw [← HD2.out] at c9
      refine c9.mono ?_
      rintro e w9 ⟨rfl, hb9⟩
      have hb09 := below_then hbz hbz.size hb9
      have HP9 := Lib.hid (HPz.out.kept hb9)
      have k09 := cell_kept hb9 k0z
      have k19 := cell_kept hb9 k1z
      have k39 := cell_kept hb9 k3z
      have k49 := cell_kept hb9 k4z
      clear c9 k0z k1z k3z k4z HPz hb9 hbz
      cases b2 with
      | false =>
        go_wp2_with fail
        go_ret
        exact ⟨rfl, hb09⟩
      | true =>
      obtain ⟨hr0, hr5⟩ := of_decide_eq_true HD2.out.symm
      have hrp := term_pos hr0
      have HR0 := Lib.hid hr0
      clear HD2 hr0
      obtain ⟨wy, rfl⟩ : ∃ x : World, x = w9 := ⟨_, rfl⟩
      go_upto_if 103 with (fail)
      go_cut [20] (fun v wx => ∃ m : Nat, v = .int .i64 m ∧ Aside (m ≤ 9223372036854775807) ∧ wy = wx)
      case first =>
        by_cases hneg : d < 0
        · go_wp2_with fail
          go_meet
          case rel => exact ⟨(-(d + 1)).toNat, by congr 1; omega, by show _ ≤ _; omega, rfl⟩
        · go_wp2_with fail
          go_meet
          case rel => exact ⟨d.toNat, by congr 1; omega, by show _ ≤ _; omega, rfl⟩
      case rest =>
        obtain ⟨m, rfl, hm, rfl⟩ := hcut
        have hm' : m ≤ 9223372036854775807 := hm.out
        obtain ⟨K, hK⟩ : ∃ K : Nat, (m : Int) % (r.length : Int) = (K : Int) := ⟨m % r.length, by rw [Int.natCast_emod]⟩
        have hK1 : K < r.length := by have := Int.emod_lt_of_pos (m : Int) (show (0 : Int) < (r.length : Int) by omega); omega
        have c10 := HRP.out s C sc K (by omega) HCN.out hr5 hs5 wy hb09 HS.out
        obtain ⟨e2, he2⟩ : ∃ x, x = replErr l r (K : Int) s := ⟨_, rfl⟩
        obtain ⟨e3, he3⟩ : ∃ x, x = replErr l r (K : Int) t := ⟨_, rfl⟩
        rw [← he2] at c10
        have HE2 := Lib.hid he2
        have HE3 := Lib.hid he3
        clear he2 he3
        go_wp2_with fail
        refine c10.mono ?_
        rintro e w10 ⟨u2, rfl, hb10, hU2⟩
        have hb010 := below_then hb09 hb09.size hb10
        have HP10 := Lib.hid (HP9.out.kept hb10)
        have HU10 := Lib.hid hU2
        have k010 := cell_kept hb10 k09
        have k110 := cell_kept hb10 k19
        have k310 := cell_kept hb10 k39
        have c11 := HRP.out t D tc K (by omega) HDN.out hr5 ht5 w10 hb010 HTT.out
        rw [← HE3.out] at c11
        clear c10 hU2 HP9 k09 k19 k39 k49 hb10 hb09
        go_wp2_with fail
        refine c11.mono ?_
        rintro e w11 ⟨v2, rfl, hb11, hV2⟩
        have hb011 := below_then hb010 hb010.size hb11
        have HP11 := Lib.hid (HP10.out.kept hb11)
        have HU11 := Lib.hid (HU10.out.below hb11)
        have HV11 := Lib.hid hV2
        clear c11 hV2 HP10 HU10 k010 k110 k310 hb11 hb010
        by_cases h2 : e2 = 0
        · subst h2
          by_cases h3 : e3 = 0
          · subst h3
            have hU := HU11.out
            have hV := HV11.out
            rw [if_pos rfl, Int.toNat_natCast] at hU hV
            obtain ⟨U, uc, rfl, huc, _, _, hUI⟩ := hU.reads
            obtain ⟨V, vc, rfl, hvc, _, _, hVI⟩ := hV.reads
            have hg : lg l q (replAt l r K s) (replAt l r K t) = true := lg_round HXD.out.symm HR0.out hK1 HE2.out.symm HE3.out.symm
            have c12 := HG.out _ _ U V uc vc pb hcyc huc hvc w11 hb011 hUI hVI HP11.out
            rw [hg] at c12
            clear hg hU hV hUI hVI HU11 HV11 HE2 HE3
            go_wp2_with fail
            refine c12.mono ?_
            rintro e w12 ⟨rfl, hb12⟩
            have hb012 := below_then hb011 hb011.size hb12
            clear c12 hb12 hb011
            go_wp2_with fail
            go_ret
            exact ⟨rfl, hb012⟩
          · have q3 : (e3 != 0) = true := by simpa using h3
            clear h3
            go_wp2_with fail
            go_ret
            exact ⟨rfl, hb011⟩
        · have q2 : (e2 != 0) = true := by simpa using h2
          clear h2
          go_wp2_with fail
          go_ret
          exact ⟨rfl, hb011⟩
theorem lpoKept_walk (A : Option Addr) (l : List Sy) (lc : Nat) (B : Option Addr) (q : List (Int × Int)) (qc : Nat) (C : Option Addr) (s : List Int) (sc : Nat) (D : Option Addr) (t : List Int) (tc : Nat) (E : Option Addr) (b : List Bd) (ec : Nat) (F : Option Addr) (r : List Int) (rc : Nat) (d : Int) (w : World) (hT : Tabs w)
    (hlc : l.length ≤ lc) (hl : Sigs w A l) (hq : Pairs w B q) (hsc : s.length ≤ sc) (hCn : C = none → s.length = 0 ∧ sc = 0) (_ : s.length * 8 ≤ 140737488355328) (hs : Ints w C s) (htc : t.length ≤ tc) (hDn : D = none → t.length = 0 ∧ tc = 0) (_ : t.length * 8 ≤ 140737488355328) (ht : Ints w D t)
    (_ : b.length ≤ ec) (_ : E = none → b.length = 0 ∧ ec = 0) (_ : b.length * 32 ≤ 140737488351232) (hbs : Binds w E b) (hrc : r.length ≤ rc) (_ : F = none → r.length = 0 ∧ rc = 0) (_ : r.length * 8 ≤ 140737488355328) (hr : Ints w F r) (hd : -9223372036854775808 ≤ d ∧ d ≤ 9223372036854775807) :
    Calls Tryd.prog 6 #[.slice A l.length lc, .slice B q.length qc, .agg #[.slice C s.length sc, .slice D t.length tc, .slice E b.length ec, .slice F r.length rc, .int .i64 d]] w fun e w' => e = .returned (.bool true) ∧ Below w.heap.size w w' :=
  lkept_any A B C D E F l q s t r b d lc qc sc tc ec rc hlc hsc htc hrc hCn hDn hd w hl hq hs ht hbs hr hT
end Go.Proofs.YthpdfkhmhaobgaaDoor
