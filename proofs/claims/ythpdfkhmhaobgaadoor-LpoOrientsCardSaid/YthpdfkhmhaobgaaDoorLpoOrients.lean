/- LpoOrients: the walk. Conditions: none. -/
import Derived.Test.YthpdfkhmhaobgaaDoorRefTable
import Derived.Test.YthpdfkhmhaobgaaDoorLpoParts
set_option linter.unusedVariables false
set_option linter.unusedSimpArgs false
set_option linter.unnecessarySimpa false
namespace Go.Proofs.YthpdfkhmhaobgaaDoor
open Go.RowKit Go.Lib

set_option maxRecDepth 100000 in
set_option maxHeartbeats 4000000 in
theorem rorient_any (A B C : Option Addr) (l : List Sy) (q : List (Int × Int)) (s t : List Int) (rb : Nat) (lc sc tc : Nat) (hsc : s.length ≤ sc) (htc : t.length ≤ tc) (w : World) (hcyc : ¬ Cyclic q) (hl : Sigs w A l) (hs : Ints w B s) (ht : Ints w C t) (hP : IsRef w rb l.length q) :
    Calls Tryd.prog 15 #[.slice A l.length lc, .pointer (some ⟨rb, 0, none⟩), .agg #[.slice B s.length sc, .slice C t.length tc]] w fun e w' => e = .returned (.int .i64 (lor l q s t)) ∧ Below w.heap.size w w' := by
  have c1 := fun (w1 : World) (hb : Below w.heap.size w w1) => rgreater_any A B C l q s t rb lc sc tc hsc htc w1 hcyc (hl.kept hb) (hs.kept hb) (ht.kept hb) (hP.kept hb)
  have c2 := fun (w1 : World) (hb : Below w.heap.size w w1) => rgreater_any A C B l q t s rb lc tc sc htc hsc w1 hcyc (hl.kept hb) (ht.kept hb) (hs.kept hb) (hP.kept hb)
  obtain ⟨r, hr⟩ : ∃ r, r = lor l q s t := ⟨_, rfl⟩
  rw [← hr]
  have HR := Lib.hid hr
  have hbx : Below w.heap.size w (w.alloc (.cells #[.slice B s.length sc, .slice C t.length tc] 35)) := below_alloc0 _ _
  have C1 := Lib.hid c1
  have C2 := Lib.hid c2
  clear hr c1 c2 hl hs ht hP
  go_enter Tryd.func15, Tryd.ntmps15
  go_wp2_with fail
  cases h1 : lg l q s t with
  | true =>
    have hf : r = 1 := by rw [HR.out, lor, if_pos h1]
    subst hf
    refine (C1.out _ hbx).mono ?_
    rw [h1]
    rintro e w1 ⟨rfl, hb1⟩
    have hb2 := below_then hbx hbx.size hb1
    go_wp2_with fail
    go_ret
    exact ⟨rfl, hb2⟩
  | false =>
    refine (C1.out _ hbx).mono ?_
    rw [h1]
    rintro e w1 ⟨rfl, hb1⟩
    have hb2 := below_then hbx hbx.size hb1
    have k0 := cell_kept hb1 (World.cell?_alloc_new w #[.slice B s.length sc, .slice C t.length tc] 35 0)
    have k1 := cell_kept hb1 (World.cell?_alloc_new w #[.slice B s.length sc, .slice C t.length tc] 35 1)
    simp at k0 k1
    have c2 := C2.out _ hb2
    cases h2 : lg l q t s with
    | true =>
      rw [h2] at c2
      have hf : r = -1 := by rw [HR.out, lor, if_neg (by simp [h1]), if_pos h2]
      subst hf
      go_wp2_with fail
      refine c2.mono ?_
      rintro e w2 ⟨rfl, hb3⟩
      have hb4 := below_then hb2 hb2.size hb3
      go_wp2_with fail
      go_ret
      exact ⟨rfl, hb4⟩
    | false =>
      rw [h2] at c2
      have hf : r = 0 := by rw [HR.out, lor, if_neg (by simp [h1]), if_neg (by simp [h2])]
      subst hf
      go_wp2_with fail
      refine c2.mono ?_
      rintro e w2 ⟨rfl, hb3⟩
      have hb4 := below_then hb2 hb2.size hb3
      go_wp2_with fail
      go_ret
      exact ⟨rfl, hb4⟩
set_option maxRecDepth 100000 in
set_option maxHeartbeats 4000000 in
theorem lorients_any (A B C D : Option Addr) (l : List Sy) (q : List (Int × Int)) (s t : List Int) (lc qc sc tc : Nat) (hlc : l.length ≤ lc) (hsc : s.length ≤ sc) (htc : t.length ≤ tc) (w : World) (hl : Sigs w A l) (hq : Pairs w B q) (hs : Ints w C s) (ht : Ints w D t) (hT : Tabs w) :
    Calls Tryd.prog 4 #[.slice A l.length lc, .slice B q.length qc, .agg #[.slice C s.length sc, .slice D t.length tc]] w fun e w' => e = .returned (.bool true) ∧ Below w.heap.size w w' := by
  have m1 := hs.2.1
  have hbx : Below w.heap.size w (w.alloc (.cells #[.slice C s.length sc, .slice D t.length tc] 35)) := below_alloc0 _ _
  have k0 : (w.alloc (.cells #[.slice C s.length sc, .slice D t.length tc] 35)).cell? ⟨w.heap.size, 0, none⟩ = some (.slice C s.length sc) := World.cell?_alloc_new w _ _ 0
  have k1 : (w.alloc (.cells #[.slice C s.length sc, .slice D t.length tc] 35)).cell? ⟨w.heap.size, 1, none⟩ = some (.slice D t.length tc) := World.cell?_alloc_new w _ _ 1
  have cO := fun (pb : Nat) (hcyc : ¬ Cyclic q) (w1 : World) (hb : Below w.heap.size w w1) (hP : IsPrec w1 pb l.length q) => lorient_any A C D l q s t pb l.length lc sc tc hlc hsc htc w1 hcyc (hl.kept hb) (hs.kept hb) (ht.kept hb) (hT.kept hb) hP
  have cR := fun (rb : Nat) (hcyc : ¬ Cyclic q) (w1 : World) (hb : Below w.heap.size w w1) (hP : IsRef w1 rb l.length q) => rorient_any A C D l q s t rb lc sc tc hsc htc w1 hcyc (hl.kept hb) (hs.kept hb) (ht.kept hb) hP
  have cB := fun (w1 : World) (hb : Below w.heap.size w w1) => both_any A B l.length lc qc q w1 (hq.kept hb)
  have cS := lshown_any _ (hT.kept hbx)
  have HO := Lib.hid cO
  have HRO := Lib.hid cR
  have HB := Lib.hid cB
  clear cO cR cB hl hs ht hT hq
  go_enter Tryd.func4, Tryd.ntmps4
  go_wp2_with fail
  refine cS.mono ?_
  rintro e w1 ⟨rfl, hb1⟩
  have hb01 := below_then hbx hbx.size hb1
  have k01 := cell_kept hb1 k0
  have k11 := cell_kept hb1 k1
  obtain ⟨bx, hbxd⟩ : ∃ bx, bx = w.heap.size := ⟨_, rfl⟩
  rw [← hbxd] at k01 k11
  rw [← hbxd]
  have HBX := Lib.hid hbxd
  clear cS k0 k1 hbx hb1 hbxd
  have c2 := HB.out w1 hb01
  go_wp2_with fail
  refine c2.mono ?_
  rintro e w2 ⟨hb2, h⟩
  have hb02 := below_then hb01 hb01.size hb2
  have k02 := cell_kept hb2 k01
  have k12 := cell_kept hb2 k11
  clear k01 k11 c2 hb2 hb01
  rcases h with ⟨_, rfl⟩ | ⟨hx, pb, rb, rfl, hP, hR⟩
  · go_wp2_with fail
    go_ret
    exact ⟨rfl, hb02⟩
  · obtain ⟨_, _, hcyc⟩ := perr_zero.1 hx
    obtain ⟨o, hod⟩ : ∃ b, b = lor l q s t := ⟨_, rfl⟩
    have HRf := Lib.hid hR
    have HOD := Lib.hid hod
    have c3 := HO.out pb hcyc w2 hb02 hP
    rw [← HOD.out] at c3
    clear hx hP hR hod
    go_wp2_with fail
    refine c3.mono ?_
    rintro e w3 ⟨rfl, hb3⟩
    have hb03 := below_then hb02 hb02.size hb3
    have HR3 := Lib.hid (HRf.out.kept hb3)
    have k03 := cell_kept hb3 k02
    have k13 := cell_kept hb3 k12
    have c4 := HRO.out rb hcyc w3 hb03 HR3.out
    rw [← HOD.out] at c4
    clear c3 HRf k02 k12 hb3 hb02
    go_wp2_with fail
    refine c4.mono ?_
    rintro e w4 ⟨rfl, hb4⟩
    have hb04 := below_then hb03 hb03.size hb4
    clear c4 HR3 HOD k03 k13 hb4 hb03
    have q0 : (o == o) = true := beq_self_eq_true _
    go_wp2_with fail
    go_ret
    exact ⟨rfl, hb04⟩
theorem lpoOrients_walk (A : Option Addr) (l : List Sy) (lc : Nat) (B : Option Addr) (q : List (Int × Int)) (qc : Nat) (C : Option Addr) (s : List Int) (sc : Nat) (D : Option Addr) (t : List Int) (tc : Nat) (w : World) (hT : Tabs w)
    (hlc : l.length ≤ lc) (hl : Sigs w A l) (hq : Pairs w B q) (hsc : s.length ≤ sc) (_ : s.length * 8 ≤ 140737488355328) (hs : Ints w C s) (htc : t.length ≤ tc) (_ : t.length * 8 ≤ 140737488355328) (ht : Ints w D t) :
    Calls Tryd.prog 4 #[.slice A l.length lc, .slice B q.length qc, .agg #[.slice C s.length sc, .slice D t.length tc]] w fun e w' => e = .returned (.bool true) ∧ Below w.heap.size w w' :=
  lorients_any A B C D l q s t lc qc sc tc hlc hsc htc w hl hq hs ht hT
end Go.Proofs.YthpdfkhmhaobgaaDoor
