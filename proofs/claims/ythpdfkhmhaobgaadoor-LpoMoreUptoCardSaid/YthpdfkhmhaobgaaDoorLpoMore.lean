/- LpoMore: the walk. Conditions: at most 1048576 pairs. -/
import Derived.Test.YthpdfkhmhaobgaaDoorLpoBoth
import Derived.Test.YthpdfkhmhaobgaaDoorLpoKeep
set_option linter.unusedVariables false
set_option linter.unusedSimpArgs false
set_option linter.unnecessarySimpa false
namespace Go.Proofs.YthpdfkhmhaobgaaDoor
open Go.RowKit Go.Lib

theorem infoPairM : (Tryd.prog.info? 54).map (fun i => (i.zero, i.size, i.bytes)) = some (some (.agg #[.int .i64 0, .int .i64 0]), 2, 16) := by kernel_rfl
theorem both_some (A B : Option Addr) (L c qc : Nat) (q : List (Int × Int)) (w : World) (hq : Pairs w B q) :
    Calls Tryd.prog 11 #[.slice A L c, .slice B q.length qc] w fun e w' => ∃ P R, e = .returned (.tuple #[.pointer P, .pointer R, .bool true]) ∧ Below w.heap.size w w' ∧ (P = none ∨ (¬ Cyclic q ∧ ∃ pb, P = some ⟨pb, 0, none⟩ ∧ IsPrec w' pb L q)) := by
  refine (both_any A B L c qc q w hq).mono ?_
  rintro e w1 ⟨hb, h⟩
  rcases h with ⟨_, rfl⟩ | ⟨hx, pb, rb, rfl, hP, _⟩
  · exact ⟨_, _, rfl, hb, .inl rfl⟩
  · exact ⟨_, _, rfl, hb, .inr ⟨(perr_zero.1 hx).2.2, pb, rfl, hP⟩⟩
set_option maxRecDepth 100000 in
set_option maxHeartbeats 4000000 in
theorem lmore_any (A B E C D : Option Addr) (l : List Sy) (q r : List (Int × Int)) (s t : List Int) (lc qc rc sc tc : Nat) (hlc : l.length ≤ lc) (hsc : s.length ≤ sc) (htc : t.length ≤ tc) (hqn : B = none → q.length = 0 ∧ qc = 0) (hrn : E = none → r.length = 0 ∧ rc = 0) (hqr : q.length + r.length ≤ 1048576) (w : World) (hl : Sigs w A l) (hq : Pairs w B q) (hr : Pairs w E r) (hs : Ints w C s) (ht : Ints w D t) (hT : Tabs w) :
    Calls Tryd.prog 7 #[.slice A l.length lc, .agg #[.slice B q.length qc, .slice E r.length rc], .agg #[.slice C s.length sc, .slice D t.length tc]] w fun e w' => e = .returned (.bool true) ∧ Below w.heap.size w w' := by
  have m1 := hs.2.1
  obtain ⟨wA, hwA⟩ : ∃ x, x = w.alloc (.cells #[.slice B q.length qc, .slice E r.length rc] 51) := ⟨_, rfl⟩
  obtain ⟨wB, hwB⟩ : ∃ x, x = wA.alloc (.cells #[.slice C s.length sc, .slice D t.length tc] 25) := ⟨_, rfl⟩
  have hbA : Below w.heap.size w wA := by rw [hwA]; exact below_alloc0 _ _
  have hbAB : Below wA.heap.size wA wB := by rw [hwB]; exact below_alloc0 _ _
  have hbx := below_then hbA hbA.size hbAB
  have j0 : wA.cell? ⟨w.heap.size, 0, none⟩ = some (.slice B q.length qc) := by rw [hwA]; exact World.cell?_alloc_new w _ _ 0
  have j1 : wA.cell? ⟨w.heap.size, 1, none⟩ = some (.slice E r.length rc) := by rw [hwA]; exact World.cell?_alloc_new w _ _ 1
  have p0 := cell_kept hbAB j0
  have p1 := cell_kept hbAB j1
  have hsA : wA.heap.size = w.heap.size + 1 := by rw [hwA]; simp
  have k0 : wB.cell? ⟨w.heap.size + 1, 0, none⟩ = some (.slice C s.length sc) := by rw [← hsA, hwB]; exact World.cell?_alloc_new wA _ _ 0
  have k1 : wB.cell? ⟨w.heap.size + 1, 1, none⟩ = some (.slice D t.length tc) := by rw [← hsA, hwB]; exact World.cell?_alloc_new wA _ _ 1
  have cG := fun (q : List (Int × Int)) (a b : List Int) (F G : Option Addr) (ac bc : Nat) (pb : Nat) (hcyc : ¬ Cyclic q) (h1 : a.length ≤ ac) (h2 : b.length ≤ bc) (w1 : World) (hb : Below w.heap.size w w1) (ha : Ints w F a) (hb' : Ints w G b) (hP : IsPrec w1 pb l.length q) => lgreater_any A F G l q a b pb l.length lc ac bc hlc h1 h2 w1 hcyc (hl.kept hb) (ha.kept hb) (hb'.kept hb) (hT.kept hb) hP
  have cS := lshown_any _ (hT.kept hbx)
  have HG := Lib.hid cG
  have HQ := Lib.hid hq
  have HRR := Lib.hid hr
  have HS := Lib.hid hs
  have HTT := Lib.hid ht
  have HWA := Lib.hid hwA
  have HWB := Lib.hid hwB
  clear cG hl hq hr hs ht hT j0 j1 hbA hbAB hwA hwB hsA
  go_enter Tryd.func7, Tryd.ntmps7
  go_wp2_with fail
  simp only [← HWA.out, ← HWB.out]
  refine cS.mono ?_
  rintro e w1 ⟨rfl, hb1⟩
  have hb01 := below_then hbx hbx.size hb1
  have p01 := cell_kept hb1 p0
  have p11 := cell_kept hb1 p1
  have k01 := cell_kept hb1 k0
  have k11 := cell_kept hb1 k1
  obtain ⟨bx, hbxd⟩ : ∃ bx, bx = w.heap.size + 1 := ⟨_, rfl⟩
  obtain ⟨bp, hbpd⟩ : ∃ bx, bx = w.heap.size := ⟨_, rfl⟩
  rw [← hbxd] at k01 k11
  rw [← hbpd] at p01 p11
  rw [← hbxd, ← hbpd]
  have HBX := Lib.hid hbxd
  have HBP := Lib.hid hbpd
  clear cS p0 p1 k0 k1 hbx hb1 hbxd hbpd HWA HWB
  have c2 := both_some A B l.length lc qc q w1 (HQ.out.kept hb01)
  go_wp2_with fail
  refine c2.mono ?_
  rintro e w2 ⟨P, PR, rfl, hb2, hP⟩
  have hb02 := below_then hb01 hb01.size hb2
  have p02 := cell_kept hb2 p01
  have p12 := cell_kept hb2 p11
  have k02 := cell_kept hb2 k01
  have k12 := cell_kept hb2 k11
  have HP := Lib.hid hP
  have hq2 := HQ.out.kept hb02
  have hr2 := HRR.out.kept hb02
  have hown0 : ∀ W : World, w2.heap.size ≤ W.heap.size → (W.alloc (.cells #[] 54)).ownsRow w2.heap.size 54 2 (.slice (some ⟨W.heap.size, 0, none⟩) 0 0) 0 [] := fun W h => World.ownsRow_made W #[] 0 h (by simp) (by simp)
  have p02a := cell_kept (below_alloc0 w2 (.cells #[] 54)) p02
  have p12a := cell_kept (below_alloc0 w2 (.cells #[] 54)) p12
  clear c2 p01 p11 k01 k11 hb2 hb01 hP
  go_wp2_with fail
  go_cut [11] (fun v wx => ∃ F fc m, v = .slice F (List.length m) fc ∧ Aside (m = q ++ r) ∧ Aside (Pairs wx F m) ∧ Aside (Below w2.heap.size w2 wx))
  case first =>
    go_region_law (first
      | (refine step_push_all (.tmp 26) (.tmp 28) 23 54 (.agg #[.int .i64 0, .int .i64 0]) 2 16 rfl rfl Tryd.underlying23 infoPairM rfl (by decide) (by decide) w2.heap.size (.slice (some ⟨w2.heap.size, 0, none⟩) 0 0) 0 [] (pcells q) rfl (hown0 w2 (Nat.le_refl _)) B q.length qc rfl hqn (pcells_length q) (hq2.kept (below_alloc0 _ _)).cells (pcells_one q) (by omega) (by simp) ?_
         intro u w3 ho1 hg1 ha1
         simp only [Nat.zero_add, List.nil_append] at ho1
         have hW1 : w2.grownBy w3 none := by first | exact copy_between hg1 | exact copy_between' hg1
         have p13 : w3.cell? ⟨bp, 1, none⟩ = some (.slice E r.length rc) := hW1.cell p12 (by simp)
         have hB3 : Below w2.heap.size w2 w3 := grown_below (Below.refl _ _) (Nat.le_refl _) hW1 (fun k h => by cases h))
      | (refine step_push_all (.tmp 29) (.tmp 31) 23 54 (.agg #[.int .i64 0, .int .i64 0]) 2 16 rfl rfl Tryd.underlying23 infoPairM rfl (by decide) (by decide) w2.heap.size u q.length (pcells q) (pcells r) rfl ho1 E r.length rc rfl hrn (pcells_length r) (hr2.kept hB3).cells (pcells_one r) (by omega) (by have := hB3.size; simp; omega) ?_
         intro v w4 ho2 hg2 ha2))
    all_goals
      have hl2 : (q ++ r).length = q.length + r.length := List.length_append
      obtain ⟨F, fc, rfl, _, hFq⟩ := own_pairs (l := q ++ r) (by rw [hl2, pcells_append]; exact ho2)
      have hB4 : Below w2.heap.size w2 w4 := hB3.grown hg2 hB3.size (fun j hj => own_base ho1 j hj)
      have HF := Lib.hid hFq
      have HB4 := Lib.hid hB4
      clear ho1 hg1 ha1 ho2 hg2 ha2 hW1 p13 hB3 hB4 hl2 hFq
      go_wp2_with fail
      go_meet
      case rel => exact ⟨F, fc, q ++ r, by simp, rfl, HF.out, HB4.out⟩
  case rest =>
    obtain ⟨F, fc, m, rfl, hm, hFq', hB4'⟩ := hcut
    have HM := Lib.hid hm.out
    clear hm
    obtain ⟨w4, rfl⟩ : ∃ x : World, x = wc := ⟨_, rfl⟩
    have hFq := hFq'.out
    have hB4 := hB4'.out
    have hb04 := below_then hb02 hb02.size hB4
    have k04 := cell_kept hB4 k02
    have k14 := cell_kept hB4 k12
    have HP4 : Hid (P = none ∨ (¬ Cyclic q ∧ ∃ pb, P = some ⟨pb, 0, none⟩ ∧ IsPrec w4 pb l.length q)) := Lib.hid (HP.out.imp id fun ⟨h1, pb, h2, h3⟩ => ⟨h1, pb, h2, h3.kept hB4⟩)
    have c3 := both_some A F l.length lc fc m w4 hFq
    clear hFq' hB4' hB4 hFq hown0 hq2 hr2 HP p02 p12 p02a p12a k02 k12 hb02
    go_wp2_with fail
    refine c3.mono ?_
    rintro e w5 ⟨S, SR, rfl, hb5, hS⟩
    have hb05 := below_then hb04 hb04.size hb5
    have k05 := cell_kept hb5 k04
    have k15 := cell_kept hb5 k14
    have HP5 : Hid (P = none ∨ (¬ Cyclic q ∧ ∃ pb, P = some ⟨pb, 0, none⟩ ∧ IsPrec w5 pb l.length q)) := Lib.hid (HP4.out.imp id fun ⟨h1, pb, h2, h3⟩ => ⟨h1, pb, h2, h3.kept hb5⟩)
    have HS5 := Lib.hid hS
    clear c3 HP4 hS k04 k14 hb5 hb04
    rcases HP5.out with rfl | ⟨hcy, pb, rfl, hP⟩
    · clear HS5 HP5
      go_wp2_with fail
      go_ret
      exact ⟨rfl, hb05⟩
    · rcases HS5.out with rfl | ⟨hcz, sb, rfl, hQ⟩
      · clear HS5 HP5 hP
        go_wp2_with fail
        go_ret
        exact ⟨rfl, hb05⟩
      · have HQQ := Lib.hid hQ
        have c4 := HG.out q s t C D sc tc pb hcy hsc htc w5 hb05 HS.out HTT.out hP
        obtain ⟨x, hx⟩ : ∃ b, b = lg l q s t := ⟨_, rfl⟩
        obtain ⟨y, hy⟩ : ∃ b, b = lg l m s t := ⟨_, rfl⟩
        have hxy : x = true → y = true := by rw [hx, hy]; exact lg_more fun p hp => by rw [HM.out]; exact List.mem_append.2 (.inl hp)
        rw [← hx] at c4
        have HY := Lib.hid hy
        have HXY := Lib.hid hxy
        clear HS5 HP5 hP hQ hx hy hxy
        go_wp2_with fail
        refine c4.mono ?_
        rintro e w6 ⟨rfl, hb6⟩
        have hb06 := below_then hb05 hb05.size hb6
        have k06 := cell_kept hb6 k05
        have k16 := cell_kept hb6 k15
        have c5 := HG.out m s t C D sc tc sb hcz hsc htc w6 hb06 HS.out HTT.out (HQQ.out.kept hb6)
        rw [← HY.out] at c5
        clear c4 k05 k15 hb6 hb05 HQQ
        go_wp2_with fail
        refine c5.mono ?_
        rintro e w7 ⟨rfl, hb7⟩
        have hb07 := below_then hb06 hb06.size hb7
        have hxy := HXY.out
        clear c5 HXY HY hb7 hb06
        cases x with
        | false =>
          go_wp2_with fail
          go_ret
          exact ⟨rfl, hb07⟩
        | true =>
          obtain rfl := hxy rfl
          go_wp2_with fail
          go_ret
          exact ⟨rfl, hb07⟩
theorem lpoMore_walk (A : Option Addr) (l : List Sy) (lc : Nat) (B : Option Addr) (q : List (Int × Int)) (qc : Nat) (E : Option Addr) (r : List (Int × Int)) (rc : Nat) (C : Option Addr) (s : List Int) (sc : Nat) (D : Option Addr) (t : List Int) (tc : Nat) (w : World) (hT : Tabs w)
    (hlc : l.length ≤ lc) (hl : Sigs w A l) (hqn : B = none → q.length = 0 ∧ qc = 0) (hq : Pairs w B q) (hrn : E = none → r.length = 0 ∧ rc = 0) (hr : Pairs w E r) (hqr : q.length + r.length ≤ 1048576)
    (hsc : s.length ≤ sc) (_ : C = none → s.length = 0 ∧ sc = 0) (_ : s.length * 8 ≤ 140737488351232) (hs : Ints w C s) (htc : t.length ≤ tc) (_ : D = none → t.length = 0 ∧ tc = 0) (_ : t.length * 8 ≤ 140737488351232) (ht : Ints w D t) (_ : s.length + t.length ≤ 1048576) :
    Calls Tryd.prog 7 #[.slice A l.length lc, .agg #[.slice B q.length qc, .slice E r.length rc], .agg #[.slice C s.length sc, .slice D t.length tc]] w fun e w' => e = .returned (.bool true) ∧ Below w.heap.size w w' :=
  lmore_any A B E C D l q r s t lc qc rc sc tc hlc hsc htc hqn hrn hqr w hl hq hr hs ht hT
end Go.Proofs.YthpdfkhmhaobgaaDoor
