/- The two helpers of the statements of layer 11. Conditions: none. -/
import Derived.Test.YthpdfkhmhaobgaaDoorLpoShown
import Derived.Test.YthpdfkhmhaobgaaDoorPrecR
import Derived.Test.YthpdfkhmhaobgaaDoorTerm
set_option linter.unusedVariables false
set_option linter.unusedSimpArgs false
set_option linter.unnecessarySimpa false
namespace Go.Proofs.YthpdfkhmhaobgaaDoor
open Go.RowKit Go.Lib

def BothPost (n : Int) (q : List (Int × Int)) (w : World) (e : Ending) (w' : World) : Prop :=
  Below w.heap.size w w' ∧ ((perr n q ≠ 0 ∧ e = .returned (.tuple #[.pointer none, .pointer none, .bool true])) ∨
    (perr n q = 0 ∧ ∃ pb rb, e = .returned (.tuple #[.pointer (some ⟨pb, 0, none⟩), .pointer (some ⟨rb, 0, none⟩), .bool true]) ∧ IsPrec w' pb n q ∧ IsRef w' rb n q))
set_option maxRecDepth 100000 in
set_option maxHeartbeats 4000000 in
theorem both_any (A B : Option Addr) (L c qc : Nat) (q : List (Int × Int)) (w : World) (hq : Pairs w B q) :
    Calls Tryd.prog 11 #[.slice A L c, .slice B q.length qc] w (BothPost L q w) := by
  by_cases hx : perr L q = 0
  · have c1 := close_ok L B q q.length qc w rfl hq hx
    have c2 := fun (w1 : World) (hb : Below w.heap.size w w1) => ref_all L B q q.length qc w1 rfl (hq.kept hb)
    have C2 := Lib.hid c2
    clear c2 hq
    go_enter Tryd.func11, Tryd.ntmps11
    go_wp2_with fail
    refine c1.mono ?_
    rintro e w1 ⟨rfl, hb1, hP⟩
    have c2 := C2.out w1 hb1
    have HP := Lib.hid hP
    have HX := Lib.hid hx
    clear hP c1 hx
    go_wp2_with fail
    refine c2.mono ?_
    rintro e w2 ⟨hb2, h⟩
    rcases h with ⟨h, _⟩ | ⟨_, rfl, hR⟩
    · exact absurd HX.out h
    have hP2 := HP.out.kept hb2
    have hb := below_then hb1 hb1.size hb2
    have HB := Lib.hid hb
    have HP2 := Lib.hid hP2
    have HR := Lib.hid hR
    clear hP2 hR hb
    go_wp2_with fail
    go_ret3
    exact ⟨HB.out, .inr ⟨HX.out, _, _, rfl, HP2.out, HR.out⟩⟩
  · obtain ⟨x, hxx⟩ : ∃ x, x = perr L q := ⟨_, rfl⟩
    have hx0 : x ≠ 0 := hxx ▸ hx
    have c1 := close_err L B q q.length qc w rfl hq x hxx.symm hx0
    have c2 := fun (w1 : World) (hb : Below w.heap.size w w1) => ref_all L B q q.length qc w1 rfl (hq.kept hb)
    have b1 : (x != 0) = true := by simpa using hx0
    have C2 := Lib.hid c2
    have HX := Lib.hid hx
    have HXX := Lib.hid hxx
    clear c2 hq hx hxx hx0
    go_enter Tryd.func11, Tryd.ntmps11
    go_wp2_with fail
    refine c1.mono ?_
    rintro e w1 ⟨rfl, hb1⟩
    have c2 := C2.out w1 hb1
    clear c1
    go_wp2_with fail
    refine c2.mono ?_
    rintro e w2 ⟨hb2, h⟩
    rcases h with ⟨_, rfl⟩ | ⟨h, _⟩
    · have hb := below_then hb1 hb1.size hb2
      have HB := Lib.hid hb
      clear hb
      rw [← HXX.out]
      go_wp2_with fail
      go_ret3
      exact ⟨HB.out, .inl ⟨HX.out, rfl⟩⟩
    · exact absurd h HX.out
set_option maxRecDepth 100000 in
set_option maxHeartbeats 4000000 in
theorem lterm_any (A B : Option Addr) (l : List Sy) (t : List Int) (lc tc : Nat) (w : World) (hl : Sigs w A l) (ht : Ints w B t) :
    Calls Tryd.prog 16 #[.slice A l.length lc, .slice B t.length tc] w fun e w' => e = .returned (.bool (decide (termErr l t = 0 ∧ t.length ≤ 512))) ∧ Below w.heap.size w w' := by
  have m1 := ht.2.1
  have c1 := refcheck_any A B l t l.length lc t.length tc rfl rfl w hl ht
  obtain ⟨x, hx⟩ : ∃ x, x = termErr l t := ⟨_, rfl⟩
  rw [← hx] at c1 ⊢
  clear hl ht hx
  by_cases h1 : x = 0
  · subst h1
    by_cases h2 : t.length ≤ 512
    · rw [decide_eq_true (⟨rfl, h2⟩ : (0 : Int) = 0 ∧ t.length ≤ 512)]
      have b2 : decide ((t.length : Int) ≤ 512) = true := decide_eq_true (by omega)
      go_enter Tryd.func16, Tryd.ntmps16
      go_wp2_with fail
      refine c1.mono ?_
      rintro e w1 ⟨rfl, hb1⟩
      go_wp2_with fail
      go_ret
      exact ⟨rfl, hb1⟩
    · rw [decide_eq_false (fun h => h2 h.2)]
      have b2 : decide ((t.length : Int) ≤ 512) = false := decide_eq_false (by omega)
      go_enter Tryd.func16, Tryd.ntmps16
      go_wp2_with fail
      refine c1.mono ?_
      rintro e w1 ⟨rfl, hb1⟩
      go_wp2_with fail
      go_ret
      exact ⟨rfl, hb1⟩
  · rw [decide_eq_false (fun h => h1 h.1)]
    have b1 : (x == 0) = false := by simpa using h1
    have H1 := Lib.hid h1
    clear h1
    go_enter Tryd.func16, Tryd.ntmps16
    go_wp2_with fail
    refine c1.mono ?_
    rintro e w1 ⟨rfl, hb1⟩
    go_wp2_with fail
    go_ret
    exact ⟨rfl, hb1⟩
end Go.Proofs.YthpdfkhmhaobgaaDoor
