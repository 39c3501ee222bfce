/- The walk of TermChecks: over every signature, for every row it answers true. Conditions: utf8's tables as laid. -/
import Derived.Test.YtfhkbfofjjmbaaaDoorShownT
import Derived.Test.YtfhkbfofjjmbaaaDoorRefVars
import Derived.Test.YtfhkbfofjjmbaaaDoorLent
set_option linter.unusedVariables false
set_option linter.unusedSimpArgs false
namespace Go.Proofs.YtfhkbfofjjmbaaaDoor
open Go.RowKit Go.Lib

/-- A row that was made later lies in another block. -/
theorem RowO.apart {w w' : World} {b b' : Nat} {v v' : Value} {t t' : List Int} (h : RowO w b v t) (h' : RowO w' b' v' t') (hb : w.heap.size ≤ b') : v'.ownBlock = none ∨ v'.ownBlock ≠ v.ownBlock := by
  cases hv : v'.ownBlock with
  | none => exact .inl rfl
  | some k =>
    refine .inr fun e => ?_
    have h1 := (h'.1.lt k hv).1
    have h2 := (h.1.lt k e.symm).2
    omega
theorem RowO.apart' {w w' : World} {b b' : Nat} {v v' : Value} {t t' : List Int} (h : RowO w b v t) (h' : RowO w' b' v' t') (hb : w.heap.size ≤ b') : v.ownBlock = none ∨ v.ownBlock ≠ v'.ownBlock := by
  cases hv : v.ownBlock with
  | none => exact .inl rfl
  | some k =>
    refine .inr fun e => ?_
    have h1 := (h'.1.lt k e.symm).1
    have h2 := (h.1.lt k hv).2
    omega
theorem RowO.far' {w : World} {b g : Nat} {v : Value} {t : List Int} (h : RowO w b v t) (hg : g < b) : some g ≠ v.ownBlock := fun e => by have := (h.1.lt g e.symm).1; omega
theorem RowO.lows {w : World} {b B : Nat} {v : Value} {t : List Int} (h : RowO w b v t) (hB : B ≤ b) : ∀ k, v.ownBlock = some k → B ≤ k := fun k hk => Nat.le_trans hB (h.1.lt k hk).1
set_option maxRecDepth 100000 in
set_option maxHeartbeats 2000000 in
theorem termChecks_walk (A : Option Addr) (l : List Sy) (sc : Nat) (B : Option Addr) (t : List Int) (tc : Nat) (w : World) (hT : Tabs w) (hcap : l.length ≤ sc) (hl : Sigs w A l)
    (htc : t.length ≤ tc) (hnt : B = none → t.length = 0 ∧ tc = 0) (h8 : t.length * 8 ≤ 140737488351232) (ht : Ints w B t) :
    Calls Tryd.prog 4 #[.slice A l.length sc, .slice B t.length tc] w fun e w' => e = .returned (.bool true) ∧ Below w.heap.size w w' := by
  have hvl := vars_len t
  clear hnt
  go_enter Tryd.func4, Tryd.ntmps4
  go_wp2_with fail
  refine (shown_any w hT).mono ?_
  rintro e w1 ⟨rfl, hb1⟩
  go_wp2_with fail
  refine (lent_any B t tc w1 (ht.kept hb1) h8).mono ?_
  rintro e w2 ⟨g, rfl, hb2, hg, hL⟩
  have hB2 := below_then hb1 hb1.size hb2
  have hgl := hL.block.2
  clear hb1 hb2
  go_wp2_with fail
  refine (check_any A (some ⟨g, 0, none⟩) l t l.length sc t.length (t.length + 3) rfl rfl hcap w2 (hl.kept hB2) hL.ints (hT.kept hB2)).mono ?_
  rintro e w3 ⟨rfl, hb3⟩
  have hB3 := below_then hB2 hB2.size hb3
  have hL3 := hL.kept hb3
  have hg3 : g < w3.heap.size := Nat.lt_of_lt_of_le hgl hb3.size
  clear hB2 hL hb3 hgl
  go_wp2_with fail
  refine (refcheck_any A B l t l.length sc t.length tc rfl rfl w3 (hl.kept hB3) (ht.kept hB3)).mono ?_
  rintro e w4 ⟨rfl, hb4⟩
  have hB4 := below_then hB3 hB3.size hb4
  have hL4 := hL3.kept hb4
  have hg4 : g < w4.heap.size := Nat.lt_of_lt_of_le hg3 hb4.size
  clear hB3 hL3 hb4 hg3
  go_wp2_with fail
  refine (vars_any (some ⟨g, 0, none⟩) t (t.length + 3) w4 hL4.ints (by omega)).mono ?_
  rintro e w5 ⟨v, rfl, hb5, hV⟩
  have hB5 := below_then hB4 hB4.size hb5
  have hL5 := hL4.kept hb5
  obtain ⟨VA, vc, rfl, hVI⟩ := hV.ints
  clear hL4
  go_wp2_with fail
  refine (refvars_any B t tc w5 (ht.kept hB5) (by omega)).mono ?_
  rintro e w6 ⟨vr, rfl, hb6, hR⟩
  have hB6 := below_then hB5 hB5.size hb6
  have hap := hV.apart hR (Nat.le_refl _)
  obtain ⟨RA, rc, rfl, hRI⟩ := hR.ints
  have cS := same_self VA RA (varsOf t) vc rc w6 (hVI.kept hb6) hRI
  have hL6 := hL5.kept hb6
  have hV6 := hV.below hb6
  clear hL5 hVI hV hRI
  go_wp2_with fail
  refine cS.mono ?_
  rintro e w7 ⟨rfl, hb7⟩
  have hB7 := below_then hB6 hB6.size hb7
  have hL7 := hL6.kept hb7
  have hV7 := hV6.below hb7
  have hR7 := hR.below hb7
  clear cS hL6 hV6 hR hb7 hB6 hb6
  go_wp2_with fail
  refine (kept_any B t tc _ g w7 (ht.kept hB7) h8 hL7).mono ?_
  rintro e w8 ⟨rfl, hb8⟩
  have hB8 := below_then hB7 hB7.size hb8
  have hL8 := hL7.kept hb8
  have hV8 := hV7.below hb8
  have hR8 := hR7.below hb8
  clear hL7 hV7 hR7 hb8 hB7
  go_wp2_with fail
  refine (spoil_any _ _ (varsOf t) w8 (by omega) hV8).mono ?_
  rintro e w9 ⟨rfl, hg9⟩
  have hB9 : Below w.heap.size w w9 := hB8.grown hg9 hB8.size (hV8.lows hB4.size)
  have hL9 := hL8.grown hg9 (hV8.far' hg4)
  have hR9 := hR8.kept hg9 hap
  clear hL8 hV8 hR8 hg9 hB8 hap hB5 hb5 hB4 hg4
  go_wp2_with fail
  refine (vars_any (some ⟨g, 0, none⟩) t (t.length + 3) w9 hL9.ints (by omega)).mono ?_
  rintro e w10 ⟨v2, rfl, hb10, hV⟩
  have hB10 := below_then hB9 hB9.size hb10
  obtain ⟨VA2, vc2, rfl, hVI⟩ := hV.ints
  have cS := same_self VA2 RA (varsOf t) vc2 rc w10 hVI (hR9.ints'.kept hb10)
  clear hL9 hV hVI hR9 hb10
  go_wp2_with fail
  refine cS.mono ?_
  rintro e w11 ⟨rfl, hb11⟩
  have hB11 := below_then hB10 hB10.size hb11
  have hq : (termErr l t == termErr l t) = true := beq_self_eq_true _
  go_wp2_with fail
  go_ret
  exact ⟨rfl, hB11⟩
end Go.Proofs.YtfhkbfofjjmbaaaDoor
