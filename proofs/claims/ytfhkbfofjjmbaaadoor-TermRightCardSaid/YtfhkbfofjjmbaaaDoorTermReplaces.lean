/- The walk of TermReplaces: over every signature, for any two rows and every place it answers true. Conditions: utf8's tables as laid; the rows together hold at most 1048576 numbers. -/
import Derived.Test.YtfhkbfofjjmbaaaDoorTermChecks
import Derived.Test.YtfhkbfofjjmbaaaDoorRefRepl
set_option linter.unusedVariables false
set_option linter.unusedSimpArgs false
namespace Go.Proofs.YtfhkbfofjjmbaaaDoor
open Go.RowKit Go.Lib

theorem repl_len (l : List Sy) (t : List Int) (p : Nat) (u : List Int) : (replAt l t p u).length ≤ t.length + u.length + t.length := by
  unfold replAt
  rw [List.length_append, List.length_append, List.length_take, List.length_drop]; omega
/-- Two values in a box. -/
theorem box2 (w : World) (x y : Value) (T : TypeId) : (w.alloc (.cells #[x, y] T)).cell? ⟨w.heap.size, 0, none⟩ = some x ∧ (w.alloc (.cells #[x, y] T)).cell? ⟨w.heap.size, 1, none⟩ = some y := by
  rw [World.cell?_alloc_new, World.cell?_alloc_new]; exact ⟨rfl, rfl⟩
set_option maxRecDepth 100000 in
set_option maxHeartbeats 4000000 in
theorem termReplaces_walk (A : Option Addr) (l : List Sy) (sc : Nat) (B : Option Addr) (t : List Int) (tc : Nat) (C : Option Addr) (u : List Int) (uc : Nat) (a : Int) (w : World) (hT : Tabs w) (hcap : l.length ≤ sc) (hl : Sigs w A l)
    (htc : t.length ≤ tc) (hnt : B = none → t.length = 0 ∧ tc = 0) (h8 : t.length * 8 ≤ 140737488351232) (ht : Ints w B t)
    (huc : u.length ≤ uc) (hnu : C = none → u.length = 0 ∧ uc = 0) (h9 : u.length * 8 ≤ 140737488351232) (hu : Ints w C u) (hbk : t.length + u.length ≤ 1048576) (ha : -9223372036854775808 ≤ a ∧ a ≤ 9223372036854775807) :
    Calls Tryd.prog 6 #[.slice A l.length sc, .agg #[.slice B t.length tc, .slice C u.length uc], .int .i64 a] w fun e w' => e = .returned (.bool true) ∧ Below w.heap.size w w' := by
  have h88 : (t.length + u.length) * 8 ≤ 140737488355328 := by omega
  obtain ⟨R, hR⟩ : ∃ x, x = if replErr l t a u = 0 then replAt l t a.toNat u else [] := ⟨_, rfl⟩
  have hRl : R.length ≤ t.length + u.length + t.length := by rw [hR]; split; exact repl_len _ _ _ _; simp
  have cR := fun B tc C uc h1 h2 h3 W h4 h5 h6 h7 => replace_any A B C l t u sc tc uc a ha hcap h1 h2 h3 W h4 h5 h6 h7 (by omega) (by omega)
  have rR := fun W h4 h5 h6 => refreplace_any A B C l t u sc tc uc a ha htc hnu W h4 h5 h6 h88
  rw [← hR] at cR rR
  generalize replErr l t a u = er at cR rR
  clear hR h88 hnt
  obtain ⟨w0, hw0⟩ : ∃ x, x = w.alloc (.cells #[.slice B t.length tc, .slice C u.length uc] 36) := ⟨_, rfl⟩
  obtain ⟨bb, hbb⟩ : ∃ x, x = w.heap.size := ⟨_, rfl⟩
  have hbx := box2 w (.slice B t.length tc) (.slice C u.length uc) 36
  have hb0 := below_alloc0 w (.cells #[.slice B t.length tc, .slice C u.length uc] 36)
  rw [← hw0] at hbx hb0
  rw [← hbb] at hbx
  obtain ⟨hx0, hx1⟩ := hbx
  go_enter Tryd.func6, Tryd.ntmps6
  go_wp2_with fail
  rw [← hw0, ← hbb]
  clear hw0 hbb
  go_quiet (fail)
  clear hx0 hx1
  obtain ⟨w1, hw1⟩ : ∃ x, x = w0.drewN nq := ⟨_, rfl⟩
  have hb1 : Below w.heap.size w w1 := by rw [hw1]; exact below_drawN hb0 _
  rw [← hw1]
  clear hw1 hb0
  go_wp2_with fail
  refine (shown_any w1 (hT.kept hb1)).mono ?_
  rintro e w2 ⟨rfl, hb2⟩
  have hB2 := below_then hb1 hb1.size hb2
  clear hb1 hb2
  have c1 := lent_any B t tc w2 (ht.kept hB2) h8
  go_wp2_with fail
  refine c1.mono ?_
  rintro e w3 ⟨g, rfl, hb3, hg, hL⟩
  have hB3 := below_then hB2 hB2.size hb3
  have hgl := hL.block.2
  clear c1 hb3
  have c2 := lent_any C u uc w3 (hu.kept hB3) h9
  go_wp2_with fail
  refine c2.mono ?_
  rintro e w4 ⟨k, rfl, hb4, hk, hM⟩
  have hB4 := below_then hB3 hB3.size hb4
  have hkl := hM.block.2
  have hL4 := hL.kept hb4
  have hgl4 : g < w4.heap.size := Nat.lt_of_lt_of_le hgl hb4.size
  clear c2 hb4 hL hgl
  have c3 := cR (some ⟨g, 0, none⟩) (t.length + 3) (some ⟨k, 0, none⟩) (u.length + 3) (by omega) (by omega) (fun h => by cases h) w4 (hl.kept hB4) hL4.ints hM.ints (hT.kept hB4)
  go_wp2_with fail
  refine c3.mono ?_
  rintro e w5 ⟨v1, rfl, hb5, hX⟩
  have hB5 := below_then hB4 hB4.size hb5
  have hL5 := hL4.kept hb5
  have hM5 := hM.kept hb5
  clear c3 cR hb5 hL4 hM
  have c4 := rR w5 (hl.kept hB5) (ht.kept hB5) (hu.kept hB5)
  go_wp2_with fail
  refine c4.mono ?_
  rintro e w6 ⟨v2, rfl, hb6, hY⟩
  have hB6 := below_then hB5 hB5.size hb6
  have hL6 := hL5.kept hb6
  have hM6 := hM5.kept hb6
  have hX6 := hX.below hb6
  clear c4 rR hb6 hL5 hM5 hX
  obtain ⟨A1, d1, rfl, i1⟩ := hX6.ints
  obtain ⟨A2, d2, rfl, i2⟩ := hY.ints
  have c5 := same_self A1 A2 R d1 d2 w6 i1 i2
  clear i1 i2 hY
  go_wp2_with fail
  refine c5.mono ?_
  rintro e w7 ⟨rfl, hb7⟩
  have hB7 := below_then hB6 hB6.size hb7
  have hL7 := hL6.kept hb7
  have hM7 := hM6.kept hb7
  have hX7 := hX6.below hb7
  clear c5 hb7 hL6 hM6 hX6
  have c6 := spoil_any _ _ R w7 (by omega) hX7
  go_wp2_with fail
  refine c6.mono ?_
  rintro e w8 ⟨rfl, hg8⟩
  have hB8 : Below w.heap.size w w8 := hB7.grown hg8 hB7.size (hX7.lows hB4.size)
  have hL8 := hL7.grown hg8 (hX7.far' hgl4)
  have hM8 := hM7.grown hg8 (hX7.far' hkl)
  clear c6 hg8 hL7 hM7 hX7
  have c7 := kept_any B t tc _ g w8 (ht.kept hB8) h8 hL8
  go_wp2_with fail
  refine c7.mono ?_
  rintro e w9 ⟨rfl, hb9⟩
  have hB9 := below_then hB8 hB8.size hb9
  have hM9 := hM8.kept hb9
  clear c7 hb9 hL8 hM8
  have c8 := kept_any C u uc _ k w9 (hu.kept hB9) h9 hM9
  go_wp2_with fail
  refine c8.mono ?_
  rintro e w10 ⟨rfl, hb10⟩
  have hB10 := below_then hB9 hB9.size hb10
  have hq : (er == er) = true := beq_self_eq_true _
  clear c8 hb10 hM9
  go_wp2_with fail
  go_ret
  exact ⟨rfl, hB10⟩
end Go.Proofs.YtfhkbfofjjmbaaaDoor
