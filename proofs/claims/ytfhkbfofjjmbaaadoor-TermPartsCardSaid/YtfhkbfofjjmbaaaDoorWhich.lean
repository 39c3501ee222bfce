/- Which of some places is meant; parts of terms and terms with a part replaced, as the program makes them. Conditions: utf8's tables as laid. -/
import Derived.Test.YtfhkbfofjjmbaaaDoorCtx
import Derived.Test.YtfhkbfofjjmbaaaDoorShownT
set_option linter.unusedVariables false
set_option linter.unusedSimpArgs false
namespace Go.Proofs.YtfhkbfofjjmbaaaDoor
open Go.RowKit Go.Lib

def whichOf (c : Int) (n : Nat) : Nat := (if c < 0 then -(c + 1) else c).toNat % n
theorem which_lt (c : Int) {n : Nat} (h : 0 < n) : whichOf c n < n := Nat.mod_lt _ h
set_option maxRecDepth 100000 in
theorem which_any (c : Int) (n : Nat) (hc : -9223372036854775808 ≤ c ∧ c ≤ 9223372036854775807) (hn : 0 < n) (hm : n ≤ 140737488355328) (w : World) :
    Calls Tryd.prog 29 #[.int .i64 c, .int .i64 n] w fun e w' => e = .returned (.int .i64 (whichOf c n)) ∧ w = w' := by
  obtain ⟨h1, h2⟩ := hc
  have hn0 : (n : Int) ≠ 0 := by omega
  have hn1 : (n : Int) ≠ -1 := by omega
  have hn2 : 0 < (n : Int) := by omega
  by_cases h0 : c < 0
  · obtain ⟨m, hm⟩ := Int.eq_ofNat_of_zero_le (show 0 ≤ -(c + 1) by omega)
    have hw : Hid (whichOf c n = m % n) := Lib.hid (by unfold whichOf; rw [if_pos h0, hm, Int.toNat_natCast])
    obtain rfl : c = -(m : Int) - 1 := by omega
    clear hm
    go_enter Tryd.func29, Tryd.ntmps29
    go_wp2_with fail
    go_ret
    refine ⟨?_, rfl⟩
    rw [hw.out]; rfl
  · obtain ⟨m, rfl⟩ := Int.eq_ofNat_of_zero_le (show 0 ≤ c by omega)
    have hw : Hid (whichOf (m : Int) n = m % n) := Lib.hid (by unfold whichOf; rw [if_neg h0, Int.toNat_natCast])
    go_enter Tryd.func29, Tryd.ntmps29
    go_wp2_with fail
    go_ret
    refine ⟨?_, rfl⟩
    rw [hw.out]; rfl
/-- Too big. -/
def bigErr (n : Nat) : Int := if 512 < n then 2 else 0
theorem repl_err {l : List Sy} {t u : List Int} {p : Nat} (h : termErr l t = 0) (hu : termErr l u = 0) (hp : p < t.length) : replErr l t p u = bigErr (replAt l t p u).length := by
  unfold replErr bigErr
  rw [if_neg (by simp [h]), if_neg (by simp [hu]), if_neg (by simp [place_ok h hp]), Int.toNat_natCast, repl_length h hp]
theorem replace_right (A B C : Option Addr) (l : List Sy) (t u : List Int) (sc tc uc p : Nat) (hte : termErr l t = 0) (hue : termErr l u = 0) (hp : p < t.length) (hcap : l.length ≤ sc) (htc : t.length ≤ tc) (huc : u.length ≤ uc) (hCn : C = none → u.length = 0 ∧ uc = 0) (w : World) (hl : Sigs w A l) (ht : Ints w B t) (hu : Ints w C u) (hT : Tabs w)
    (h8 : t.length * 8 ≤ 140737488355328) (h9 : u.length * 8 ≤ 140737488355328) :
    Calls Tryd.prog 27 #[.slice A l.length sc, .slice B t.length tc, .int .i64 p, .slice C u.length uc] w fun e w' => ∃ v, e = .returned (.tuple #[v, .int .i64 (bigErr (replAt l t p u).length)]) ∧ Below w.heap.size w w' ∧ RowO w' w.heap.size v (if (replAt l t p u).length ≤ 512 then replAt l t p u else []) := by
  have h := replace_any A B C l t u sc tc uc (p : Int) (by omega) hcap htc huc hCn w hl ht hu hT h8 h9
  rw [repl_err hte hue hp, Int.toNat_natCast] at h
  have e : (if bigErr (replAt l t p u).length = 0 then replAt l t p u else []) = if (replAt l t p u).length ≤ 512 then replAt l t p u else [] := by
    unfold bigErr
    by_cases hb : 512 < (replAt l t p u).length
    · rw [if_pos hb, if_neg (by decide), if_neg (by omega)]
    · rw [if_neg hb, if_pos rfl, if_pos (by omega)]
  rw [e] at h
  exact h
theorem sub_right_any (A B : Option Addr) (l : List Sy) (t : List Int) (sc tc p : Nat) (hte : termErr l t = 0) (hp : p < t.length) (hcap : l.length ≤ sc) (htc : t.length ≤ tc) (w : World) (hl : Sigs w A l) (ht : Ints w B t) (hT : Tabs w) (h8 : t.length * 8 ≤ 140737488355328) :
    Calls Tryd.prog 22 #[.slice A l.length sc, .slice B t.length tc, .int .i64 p] w fun e w' => ∃ v, e = .returned (.tuple #[v, .int .i64 0]) ∧ Below w.heap.size w w' ∧ RowO w' w.heap.size v (subAt l t p) := by
  have h := sub_any A B l t sc tc (p : Int) (by omega) hcap htc w hl ht hT h8
  rw [place_ok hte hp, if_pos rfl, Int.toNat_natCast] at h
  exact h
end Go.Proofs.YtfhkbfofjjmbaaaDoor
