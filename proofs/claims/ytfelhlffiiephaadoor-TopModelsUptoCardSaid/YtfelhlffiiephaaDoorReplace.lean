/- The places above a place and what a term laid into a place comes to: the walks of the program's ways. Conditions: utf8's tables as laid. -/
import Derived.Test.YtfelhlffiiephaaDoorPlaces
import Derived.Test.YtfelhlffiiephaaDoorSub
import Derived.Test.YtfelhlffiiephaaDoorAsserts
import Derived.Test.YtfelhlffiiephaaDoorConcat
import Derived.Handy
set_option linter.unusedVariables false
set_option linter.unusedSimpArgs false
namespace Go.Proofs.YtfelhlffiiephaaDoor
open Go.RowKit Go.Lib

/-- Three rows in a row of rows. -/
theorem RowsIn.three {w : World} {n : Nat} {A B C : Option Addr} {x y z : List Int} {a b c : Nat} (T : TypeId) (hn : n = w.heap.size) (hx : RowV w (.slice A x.length a) x) (hy : RowV w (.slice B y.length b) y) (hz : RowV w (.slice C z.length c) z) :
    RowsIn (w.alloc (.cells #[.slice A x.length a, .slice B y.length b, .slice C z.length c] T)) (some ⟨n, 0, none⟩) [x, y, z] := by
  subst hn
  refine ⟨by simp, fun h0 => ⟨_, 0, rfl, fun k hk => ?_⟩⟩
  have hk' : k < 3 := hk
  rw [World.cell?_alloc_new, Nat.zero_add]
  match k, hk' with
  | 0, _ => exact ⟨_, rfl, hx.kept (below_alloc0 _ _)⟩
  | 1, _ => exact ⟨_, rfl, hy.kept (below_alloc0 _ _)⟩
  | 2, _ => exact ⟨_, rfl, hz.kept (below_alloc0 _ _)⟩
set_option maxRecDepth 100000 in
set_option maxHeartbeats 4000000 in
theorem replace_any (A B C : Option Addr) (l : List Sy) (t u : List Int) (sc tc uc : Nat) (a : Int) (ha : -9223372036854775808 ≤ a ∧ a ≤ 9223372036854775807) (hcap : l.length ≤ sc) (htc : t.length ≤ tc) (huc : u.length ≤ uc) (hCn : C = none → u.length = 0 ∧ uc = 0) (w : World) (hl : Sigs w A l) (ht : Ints w B t) (hu : Ints w C u) (hT : Tabs w)
    (h8 : t.length * 8 ≤ 140737488355328) (h9 : u.length * 8 ≤ 140737488355328) :
    Calls Tryd.prog 40 #[.slice A l.length sc, .slice B t.length tc, .int .i64 a, .slice C u.length uc] w fun e w' => ∃ v, e = .returned (.tuple #[v, .int .i64 (replErr l t a u)]) ∧ Below w.heap.size w w' ∧ RowO w' w.heap.size v (if replErr l t a u = 0 then replAt l t a.toNat u else []) := by
  have m2 := ht.2.1
  have m3 := hu.2.1
  unfold replErr
  have cC := check_any A B l t l.length sc t.length tc rfl rfl hcap w hl ht hT
  by_cases h0 : termErr l t = 0
  · rw [if_neg (by simp [h0])]
    rw [h0] at cC
    have HT0 := Lib.hid h0
    clear h0
    have cU := fun W h1 h2 h3 => check_any A C l u l.length sc u.length uc rfl rfl hcap W h1 h2 h3
    by_cases h0 : termErr l u = 0
    · rw [if_neg (by simp [h0])]
      rw [h0] at cU
      clear h0
      have cF := fun W h1 h2 h3 => find_any A B l t sc tc a ha hcap W h1 h2 h3 h8
      have hz := place_zero (l := l) (t := t) (a := a)
      unfold FindPost at cF
      generalize placeErr l t a = er at cF hz ⊢
      by_cases h0 : er = 0
      · subst h0
        rw [if_neg (by simp)]
        obtain ⟨_, h1, h2⟩ := hz rfl
        obtain ⟨p, rfl⟩ := Int.eq_ofNat_of_zero_le h1
        have hp : p < t.length := by omega
        obtain ⟨b, off, hBe, _⟩ := ht.2.2 (by omega)
        subst hBe
        rw [Int.toNat_natCast] at cF ⊢
        clear hz h1 h2
        obtain ⟨er9, hr9⟩ : ∃ e, e = if 512 < p + u.length + (t.length - endOf l t p) then (2 : Int) else 0 := ⟨_, rfl⟩
        rw [← hr9]
        obtain ⟨R9, hR9⟩ : ∃ R, R = if er9 = 0 then replAt l t p u else [] := ⟨_, rfl⟩
        rw [← hR9]
        have HR9 := Lib.hid hR9
        have HE9 := Lib.hid hr9
        clear hR9 hr9
        go_enter Tryd.func40, Tryd.ntmps40
        go_wp2_with fail
        refine cC.mono ?_
        rintro e w1 ⟨rfl, hb1⟩
        have cU := cU w1 (hl.kept hb1) (hu.kept hb1) (hT.kept hb1)
        clear cC
        go_wp2_with fail
        refine cU.mono ?_
        rintro e w2 ⟨rfl, hb2⟩
        have hB2 := below_then hb1 hb1.size hb2
        have cF := cF w2 (hl.kept hB2) (ht.kept hB2) (hT.kept hB2)
        clear cU hb1 hb2
        go_wp2_with fail
        refine cF.mono ?_
        rintro e w3 ⟨v, uu, rfl, hb3, hp1, _⟩
        have hB3 := below_then hB2 hB2.size hb3
        obtain ⟨_, f, hN⟩ := hp1 (by first | rfl | trivial)
        have hs := hN.sized
        have hlt := Node.lt hN
        have hle := Node.end_le hN
        have ht3 := ht.kept hB3
        have hu3 := hu.kept hB3
        have hx := ht3.upto p
        obtain ⟨E, hE⟩ : ∃ E, E = endOf l t p := ⟨_, rfl⟩
        rw [← hE] at hs hlt hle
        have hy := ht3.off E
        have HE : Hid (replAt l t p u = t.take p ++ u ++ t.drop E) := Lib.hid (by unfold replAt; rw [hE])
        have HE9 := Lib.hid (show er9 = if 512 < p + u.length + (t.length - E) then (2 : Int) else 0 by rw [hE]; exact HE9.out)
        have hxl : (t.take p).length = p := by rw [List.length_take]; omega
        have hyl : (t.drop E).length = t.length - E := by rw [List.length_drop]
        generalize t.take p = X at hx hxl HE
        generalize t.drop E = Y at hy hyl HE
        clear hp1 cF hE hN hB2 hb3
        by_cases hbig : 512 < p + u.length + (t.length - E)
        · have h2 : er9 = 2 := by rw [HE9.out, if_pos hbig]
          subst h2
          have h3 : R9 = [] := HR9.out
          subst h3
          clear HE9 HR9
          rcases hs with ⟨nn, rfl, hs1⟩ | ⟨bb, rfl, hbb, hsc⟩
          · have hbig' : (512 : Int) < (t.length : Int) - 1 + (u.length : Int) := by omega
            go_wp2_with (go_at_call 65; refine (leafsize_any _ _).mono ?_; rintro e' w' ⟨rfl, rfl⟩)
            go_ret2
            exact ⟨_, rfl, hB3, RowO.nil _ _⟩
          · have hbig' : (512 : Int) < (t.length : Int) - ((E : Int) - (p : Int)) + (u.length : Int) := by omega
            go_wp2_with (go_at_call 66; refine (innersize_any _ _ _ hsc).mono ?_; rintro e' w' ⟨rfl, rfl⟩)
            go_ret2
            exact ⟨_, rfl, hB3, RowO.nil _ _⟩
        · have h2 : er9 = 0 := by rw [HE9.out, if_neg hbig]
          subst h2
          have h3 : R9 = replAt l t p u := HR9.out
          subst h3
          clear HE9 HR9
          have hsmall : p + u.length + (t.length - E) ≤ 512 := by omega
          have HXY : Hid (replAt l t p u = ([X, u, Y] : List (List Int)).flatten) := Lib.hid (by rw [HE.out]; simp)
          have hvx : ∀ W, Below w3.heap.size w3 W → RowV W (.slice (some ⟨b, off, none⟩) X.length tc) X := fun W h => (show RowV w3 _ X from ⟨_, _, rfl, by omega, (fun h => by cases h), by omega, hx⟩).kept h
          have hvu : ∀ W, Below w3.heap.size w3 W → RowV W (.slice C u.length uc) u := fun W h => (show RowV w3 _ u from ⟨_, _, rfl, huc, hCn, h9, hu3⟩).kept h
          have hvy : ∀ W, Below w3.heap.size w3 W → RowV W (.slice (some ⟨b, off + E, none⟩) Y.length (tc - E)) Y := fun W h => (show RowV w3 _ Y from ⟨_, _, rfl, by omega, (fun h => by cases h), by omega, hy⟩).kept h
          have hR3 : ∀ W, Below w3.heap.size w3 W → RowsIn (W.alloc (.cells #[.slice (some ⟨b, off, none⟩) X.length tc, .slice C u.length uc, .slice (some ⟨b, off + E, none⟩) Y.length (tc - E)] 38)) (some ⟨W.heap.size, 0, none⟩) [X, u, Y] := fun W h => RowsIn.three _ rfl (hvx W h) (hvu W h) (hvy W h)
          have hR3b : tc = E → ∀ W, Below w3.heap.size w3 W → RowsIn (W.alloc (.cells #[.slice (some ⟨b, off, none⟩) X.length tc, .slice C u.length uc, .slice (some ⟨b, off, none⟩) Y.length 0] 38)) (some ⟨W.heap.size, 0, none⟩) [X, u, Y] := fun he W h => by
            have hY0 : Y = [] := List.eq_nil_of_length_eq_zero (by omega)
            exact RowsIn.three _ rfl (hvx W h) (hvu W h) (by rw [hY0]; exact ⟨_, _, rfl, Nat.le_refl _, (fun h => by cases h), by simp, (fun x hx => by cases hx), by simp, fun h => by simp at h⟩)
          rw [hxl, hyl] at hR3
          rw [hxl, hyl] at hR3b
          have hfl : ([X, u, Y] : List (List Int)).flatten.length * 8 ≤ 140737488355328 := by simp; omega
          clear hvx hvu hvy hx hy
          have q1 : ¬ (512 : Int) < (t.length : Int) - ((E : Int) - (p : Int)) + (u.length : Int) := by omega
          rcases hs with ⟨nn, rfl, hs1⟩ | ⟨bb, rfl, hbb, hsc⟩
          · obtain rfl : E = p + 1 := by omega
            have q2 : ¬ (512 : Int) < (t.length : Int) - 1 + (u.length : Int) := by omega
            clear q1
            go_wp2_with (go_at_call 65; refine (leafsize_any _ _).mono ?_; rintro e' w' ⟨rfl, rfl⟩)
            refine wp_region_ext_tail (I := Over w3) 10 (by kernel_rfl) (by kernel_rfl) (Over.refl w3) ?_
            simp only [List.take_succ_cons, List.take_zero, List.drop_succ_cons, List.drop_zero]
            repeat (go_big_quiet_step ((go_invoke; exact ⟨rfl, Calls.over ((leafsize_any _ _).mono fun _ _ h => ⟨h.1, h.2 ▸ Below.refl _ _⟩)⟩)))
            try refine wpQuiet_nil ?_
            intro w4 hw4
            go_wp2_with fail
            · have htc : tc = p + 1 := by omega
              subst htc
              refine (concat_any _ _ 3 _ (hR3b rfl w4 hw4) hfl).mono ?_
              rintro e' w5 ⟨v5, rfl, hb5, hO5⟩
              go_wp2_with fail
              go_ret2
              exact ⟨_, rfl, below_then hB3 hB3.size (below_then hw4 hw4.size (below_then (below_alloc0 _ _) (by simp) hb5)), by rw [HXY.out]; exact hO5.base (by have := hB3.size; have := hw4.size; simp; omega)⟩
            · refine (concat_any _ _ 3 _ (hR3 w4 hw4) hfl).mono ?_
              rintro e' w5 ⟨v5, rfl, hb5, hO5⟩
              go_wp2_with fail
              go_ret2
              exact ⟨_, rfl, below_then hB3 hB3.size (below_then hw4 hw4.size (below_then (below_alloc0 _ _) (by simp) hb5)), by rw [HXY.out]; exact hO5.base (by have := hB3.size; have := hw4.size; simp; omega)⟩
          · obtain ⟨n, rfl⟩ : ∃ n, E = p + n := ⟨E - p, by omega⟩
            rw [show (((p + n : Nat) : Int) - (p : Int)) = (n : Int) by omega] at hsc q1
            have f1 := Over.cell hsc
            go_wp2_with (go_at_call 66; refine (innersize_any _ _ _ hsc).mono ?_; rintro e' w' ⟨rfl, rfl⟩)
            refine wp_region_ext_tail (I := Over w3) 10 (by kernel_rfl) (by kernel_rfl) (Over.refl w3) ?_
            simp only [List.take_succ_cons, List.take_zero, List.drop_succ_cons, List.drop_zero]
            repeat (go_big_quiet_step ((go_invoke; exact ⟨rfl, Calls.over ((innersize_any _ _ _ (f1 _)).mono fun _ _ h => ⟨h.1, h.2 ▸ Below.refl _ _⟩)⟩)))
            try refine wpQuiet_nil ?_
            intro w4 hw4
            go_wp2_with fail
            · have htc : tc = p + n := by omega
              subst htc
              refine (concat_any _ _ 3 _ (hR3b rfl w4 hw4) hfl).mono ?_
              rintro e' w5 ⟨v5, rfl, hb5, hO5⟩
              go_wp2_with fail
              go_ret2
              exact ⟨_, rfl, below_then hB3 hB3.size (below_then hw4 hw4.size (below_then (below_alloc0 _ _) (by simp) hb5)), by rw [HXY.out]; exact hO5.base (by have := hB3.size; have := hw4.size; simp; omega)⟩
            · refine (concat_any _ _ 3 _ (hR3 w4 hw4) hfl).mono ?_
              rintro e' w5 ⟨v5, rfl, hb5, hO5⟩
              go_wp2_with fail
              go_ret2
              exact ⟨_, rfl, below_then hB3 hB3.size (below_then hw4 hw4.size (below_then (below_alloc0 _ _) (by simp) hb5)), by rw [HXY.out]; exact hO5.base (by have := hB3.size; have := hw4.size; simp; omega)⟩
      · have hq1 : (er == 0) = false := beq_eq_false_iff_ne.2 h0
        have hq2 : (er != 0) = true := bne_iff_ne.2 h0
        rw [if_pos h0]
        simp only [h0, if_false]
        clear hz h0
        go_enter Tryd.func40, Tryd.ntmps40
        go_wp2_with fail
        refine cC.mono ?_
        rintro e w1 ⟨rfl, hb1⟩
        have cU := cU w1 (hl.kept hb1) (hu.kept hb1) (hT.kept hb1)
        clear cC
        go_wp2_with fail
        refine cU.mono ?_
        rintro e w2 ⟨rfl, hb2⟩
        have hB2 := below_then hb1 hb1.size hb2
        have cF := cF w2 (hl.kept hB2) (ht.kept hB2) (hT.kept hB2)
        clear cU hb1 hb2
        go_wp2_with fail
        refine cF.mono ?_
        rintro e w3 ⟨v, uu, rfl, hb3, _, _⟩
        have hB3 := below_then hB2 hB2.size hb3
        go_wp2_with fail
        go_ret2
        exact ⟨_, rfl, hB3, RowO.nil _ _⟩
    · rw [if_pos h0]
      generalize termErr l u = er at cU h0 ⊢
      have hq1 : (er == 0) = false := beq_eq_false_iff_ne.2 h0
      have hq2 : (er != 0) = true := bne_iff_ne.2 h0
      rw [if_neg h0]
      clear h0
      go_enter Tryd.func40, Tryd.ntmps40
      go_wp2_with fail
      refine cC.mono ?_
      rintro e w1 ⟨rfl, hb1⟩
      have cU := cU w1 (hl.kept hb1) (hu.kept hb1) (hT.kept hb1)
      clear cC
      go_wp2_with fail
      refine cU.mono ?_
      rintro e w2 ⟨rfl, hb2⟩
      have hB2 := below_then hb1 hb1.size hb2
      go_wp2_with fail
      go_ret2
      exact ⟨_, rfl, hB2, RowO.nil _ _⟩
  · rw [if_pos h0]
    generalize termErr l t = er at cC h0 ⊢
    have hq1 : (er == 0) = false := beq_eq_false_iff_ne.2 h0
    have hq2 : (er != 0) = true := bne_iff_ne.2 h0
    rw [if_neg h0]
    clear h0
    go_enter Tryd.func40, Tryd.ntmps40
    go_wp2_with fail
    refine cC.mono ?_
    rintro e w1 ⟨rfl, hb1⟩
    go_wp2_with fail
    go_ret2
    exact ⟨_, rfl, hb1, RowO.nil _ _⟩
end Go.Proofs.YtfelhlffiiephaaDoor
