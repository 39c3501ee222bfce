/- The walk of SubstNumbers: for all lists of rows and every number it answers true. Conditions: utf8's tables as laid; the rows hold at most 1048576 numbers. -/
import Derived.Test.YtldnokeejinebaaDoorRowSet
set_option linter.unusedVariables false
set_option linter.unusedSimpArgs false
namespace Go.Proofs.YtldnokeejinebaaDoor
open Go.RowKit Go.Lib

/-- So far no code is below the least. -/
def allBack (t : List Int) (k : Nat) : Bool := (t.take k).all fun c => decide (-1048576 ≤ c)
theorem allBack_step {t : List Int} {k : Nat} {c : Int} (hk : k < t.length) (hc : t.getD k 0 = c) : allBack t (k + 1) = (allBack t k && decide (-1048576 ≤ c)) := by
  unfold allBack
  rw [take_succ' t 0 hk, hc]; simp
theorem allBack_end (t : List Int) : allBack t t.length = true ↔ ∀ c ∈ t, -1048576 ≤ c := by
  unfold allBack
  rw [List.take_length]; simp
set_option maxRecDepth 100000 in
set_option maxHeartbeats 2000000 in
theorem substNumbers_walk (A : Option Addr) (l : List (List Int)) (c : Nat) (q : Int) (w : World) (hT : Tabs w) (hc : l.length ≤ c) (hn : A = none → l.length = 0 ∧ c = 0) (h24 : l.length * 24 ≤ 140737488351232) (hl : RowsIn w A l) (hbk : bulkOf l ≤ 1048576)
    (hq : -9223372036854775808 ≤ q ∧ q ≤ 9223372036854775807) :
    Calls Tryd.prog 8 #[.slice A l.length c, .int .i64 q] w fun e w' => e = .returned (.bool true) ∧ Below w.heap.size w w' := by
  have m1 := hl.1
  go_enter Tryd.func8, Tryd.ntmps8
  go_wp2_with fail
  refine (shown_any w hT).mono ?_
  rintro e w1 ⟨rfl, hb1⟩
  go_wp2_with fail
  refine (canon_any A l c w1 (hl.kept hb1) (by omega) (by omega)).mono ?_
  rintro e w2 ⟨va, ua, rfl, hb2, hOa, hlen, h2z⟩
  clear h2z
  have HLEN := Lib.hid hlen
  clear hlen
  obtain ⟨Aa, ca, rfl, hac, han, hIa⟩ := hOa.reads
  have ha24 := hOa.h24
  have hB2 := below_then hb1 hb1.size hb2
  go_wp2_with fail
  have cC := canon_any Aa (canon l) ca w2 hIa ha24 (by rw [bulk_canon]; omega)
  rw [canon_canon] at cC
  refine cC.mono ?_
  rintro e w3 ⟨vb, ub, rfl, hb3, hOb, h1z, h2z⟩
  clear h1z h2z
  obtain ⟨Ab, cb, rfl, hbc, hbn, hIb⟩ := hOb.reads
  have hB3 := below_then hB2 hB2.size hb3
  go_wp2_with fail
  refine (sameAll_self Ab Aa (canon l) cb ca w3 hIb (hIa.kept hb3)).mono ?_
  rintro e w4 ⟨rfl, hb4⟩
  have hB4 := below_then hB3 hB3.size hb4
  have hIa4 := (hIa.kept hb3).kept hb4
  have hl4 := hl.kept hB4
  have HCS := Lib.hid (fun m => canon_shift (q := q) (l := l) (m := m))
  have h0 := VRows.start (w := w4) rfl
  generalize canon l = CL at hIa4 HCS HLEN ha24
  clear cC hOa hOb hIb hIa hb1 hb2 hb3 hb4 hB2 hB3 hbn han
  go_wp2_with fail
  obtain ⟨w0, hw0⟩ : ∃ x, x = w4.alloc (.cells #[] 30) := ⟨_, rfl⟩
  obtain ⟨hb, hhb⟩ : ∃ x, x = w4.heap.size := ⟨_, rfl⟩
  rw [← hw0, ← hhb] at h0 ⊢
  have HHB := Lib.hid hhb
  clear hw0 hhb
  go_loopg [7, 8] l.length (fun gk V i wr => ∃ (k : Nat) (done : List (List Int)) (us : List Value), Aside (gk + k = l.length) ∧ i = .int .i64 k ∧ VRows w4 wr hb V us done ∧ Aside (done.length = k) ∧ Aside (∀ j, j < k → shiftOn q [] (l.getD j []) = some (done.getD j [])))
  case atStart => exact ⟨0, [], [], (rfl : l.length + 0 = _), rfl, h0, rfl, fun j hj => by omega⟩
  case round =>
    clear h0
    obtain ⟨k, done, us, hg, rfl, hV, hdn, hsh⟩ := hrel
    have hk : k ≤ l.length := by have := hg.out; omega
    have hBv : Below w4.heap.size w4 wr := by rw [← HHB.out]; exact hV.below
    have hB5 := below_then hB4 hB4.size hBv
    have HDN := Lib.hid hdn.out
    have HSH := Lib.hid hsh.out
    clear hdn hsh
    by_cases hlt : k < l.length
    · obtain ⟨b, off, t, B, d, rfl, hx, hc0, hd1, hd2, h8, ht⟩ := (hl4.kept hBv).at_ hlt
      have HX := Lib.hid hx
      have m2 := ht.2.1
      have hti := ht.1
      have cS := shift_any B t d q hq wr ht hd2 h8
      obtain ⟨R, hR⟩ : ∃ R, R = shiftOn q [] t := ⟨_, rfl⟩
      rw [← hR] at cS
      have HR := Lib.hid hR
      clear hx hR
      cases R with
      | none =>
        go_wp2_with fail
        refine cS.mono ?_
        rintro e w6 ⟨vx, rfl, hb6, hOx⟩
        obtain ⟨XA, XC, rfl, _⟩ := own_slice hOx.1
        go_wp2_with fail
        go_ret
        exact ⟨rfl, below_then hB5 hB5.size hb6⟩
      | some x =>
        have hxl : x.length = t.length := shiftOn_length HR.out.symm
        have HXL := Lib.hid hxl
        clear hxl
        go_wp2_with fail
        refine cS.mono ?_
        rintro e w6 ⟨vx, rfl, hb6, hOx⟩
        simp only [Option.getD_some] at hOx
        obtain ⟨XA, XC, rfl, hx1, hx2⟩ := own_le hOx.1
        have hIx := hOx.ints'
        have hV6 := hV.over hb6
        have hOx' := hOx.base hV.lo
        have hVx : (Value.slice XA x.length XC).ownBlock = none ∨ (Value.slice XA x.length XC).ownBlock ≠ u7.ownBlock := by
          cases hq : (Value.slice XA x.length XC).ownBlock with
          | none => exact .inl rfl
          | some p =>
            refine .inr fun e => ?_
            have h1 := (hOx.1.lt p hq).1
            have h2 := (hV.own.lt p e.symm).2
            omega
        have hB6 := below_then hB5 hB5.size hb6
        have hc06 := cell_kept hb6 hc0
        have ht6 := ht.kept hb6
        have HOX := Lib.hid hOx
        have HVX := Lib.hid hVx
        have hd24 : (done.length + 1) * 24 ≤ 140737488355328 := by have := HDN.out; omega
        have hone : ∀ u ∈ [Value.slice XA x.length XC], u.oneCell' = true := by intro u hu; simp at hu; rw [hu]; rfl
        have HSN : Hid (∀ j, j < k + 1 → shiftOn q [] (l.getD j []) = some ((done ++ [x]).getD j [])) := Lib.hid (fun j hj => by
          have hd := HDN.out
          by_cases e : j = k
          · subst e
            have : (done ++ [x]).getD j [] = x := by rw [← hd]; simp [List.getD_eq_getElem?_getD]
            rw [this, HX.out]; exact HR.out.symm
          · have : (done ++ [x]).getD j [] = done.getD j [] := by simp [List.getD_eq_getElem?_getD, List.getElem?_append_left (show j < done.length by omega)]
            rw [this]; exact HSH.out j (by omega))
        clear hOx hVx cS hV hB5
        by_cases b1 : -4611686018427387904 < q
        · by_cases b2 : q < 4611686018427387904
          · have cB := shift_any XA x XC (-q) ⟨by omega, by omega⟩ w6 hIx hx2 HOX.out.2.1
            obtain ⟨R2, hR2⟩ : ∃ R, R = shiftOn (-q) [] x := ⟨_, rfl⟩
            rw [← hR2] at cB
            generalize hq2 : (if R2.isSome then (0 : Int) else 40) = er at cB
            have HR2 := Lib.hid hR2
            have HER := Lib.hid hq2
            clear hR2 hq2
            go_wp2_with fail
            refine cB.mono ?_
            rintro e w7 ⟨vy, rfl, hb7, hOy⟩
            have HOY := Lib.hid hOy
            go_wp2_with fail
            clear cB
            go_loopg [13, 14] t.length (fun gj bk i wx => ∃ j : Nat, Aside (gj + j = t.length) ∧ i = .int .i64 j ∧ bk = .bool (allBack t j) ∧ Below w7.heap.size w7 wx)
            case atStart => exact ⟨0, (rfl : t.length + 0 = _), rfl, rfl, Below.refl _ _⟩
            case round =>
              obtain ⟨j, hgj, rfl, hbk, hBj⟩ := hrel
              obtain ⟨bb, hbb⟩ : ∃ bb, bb = allBack t j := ⟨_, rfl⟩
              rw [← hbb] at hbk
              subst hbk
              have HBB := Lib.hid hbb
              clear hbb
              have hj : j ≤ t.length := by have := hgj.out; omega
              have hB7j := below_then hb7 hb7.size hBj
              have hc07 := cell_kept hB7j hc06
              by_cases hjt : j < t.length
              · obtain ⟨b2, off2, y, rfl, hy, hy1, hy2, hyc⟩ := (ht6.kept hB7j).at_ hjt
                have hst := allBack_step hjt hy
                have HST := Lib.hid hst
                clear hst hy
                cases bb with
                | false =>
                  go_wp2_with fail
                  go_roundg (t.length - (j + 1))
                  case measure => have := hgj.out; omega
                  case rel => exact ⟨j + 1, by have := hgj.out; show _ = _; omega, by go_num, by rw [HST.out, ← HBB.out]; simp, hBj⟩
                | true =>
                  by_cases hyb : -1048576 ≤ y
                  · go_wp2_with fail
                    go_roundg (t.length - (j + 1))
                    case measure => have := hgj.out; omega
                    case rel => exact ⟨j + 1, by have := hgj.out; show _ = _; omega, by go_num, by rw [HST.out, ← HBB.out]; simp [hyb], hBj⟩
                  · go_wp2_with fail
                    go_roundg (t.length - (j + 1))
                    case measure => have := hgj.out; omega
                    case rel => exact ⟨j + 1, by have := hgj.out; show _ = _; omega, by go_num, by rw [HST.out, ← HBB.out]; simp [hyb], hBj⟩
              · have hjn : j = t.length := by omega
                subst hjn
                have hOyk := HOY.out
                have hall := HBB.out.symm
                cases bb with
                | true =>
                  have hR2e := HR2.out.trans (shift_back HR.out.symm ((allBack_end t).1 hall))
                  have hE := HER.out
                  subst hR2e
                  simp only [Option.isSome_some, if_true] at hE
                  subst hE
                  simp only [Option.getD_some] at hOyk
                  obtain ⟨YA, YC, rfl, _⟩ := own_slice hOyk.1
                  have hIy := hOyk.ints'.kept hBj
                  clear hall
                  go_wp2_with fail
                  refine (same_self YA B t YC d _ hIy (ht6.kept hB7j)).mono ?_
                  rintro e w8 ⟨rfl, hb8⟩
                  have hB68 := below_then hB7j hB7j.size hb8
                  have hVp := hV6.over hB68
                  have hOp := hOx'.below hB68
                  go_wp2_with (at_builtin; refine push_all (.tmp 104) (.tmp 106) 37 30 (.slice none 0 0) 1 24 rfl rfl Tryd.underlying37 infoRowI rfl (by decide) (by decide) hb _ done.length us [.slice XA x.length XC] rfl (hVp.own.alloc _) _ 1 1 rfl (fun h => by cases h) rfl (fun _ => ⟨_, 0, rfl, var_cells _ _ _ _ rfl⟩) hone hd24 (by have := hVp.lo; simp; omega) ?_; intro v' w3 ho3 hg3 ha3)
                  go_roundg (l.length - (k + 1))
                  case measure => have := hg.out; omega
                  case rel => exact ⟨k + 1, done ++ [x], _, by have := hg.out; show _ = _; omega, by go_num, (hVp.over (below_alloc0 _ _)).push (hOp.below (below_alloc0 _ _)) HVX.out ho3 hg3 (ha3.imp id (fun h => ⟨_, h, Nat.le_refl _⟩)), by have := HDN.out; rw [List.length_append]; show done.length + 1 = k + 1; omega, HSN.out⟩
                | false =>
                  have hno : ¬ ∀ c ∈ t, -1048576 ≤ c := fun h => by rw [(allBack_end t).2 h] at hall; cases hall
                  have hR2e := HR2.out.trans (shift_back_not HR.out.symm hno)
                  have hE := HER.out
                  subst hR2e
                  simp only [Option.isSome_none] at hE
                  have hE : er = 40 := by rw [← hE]; rfl
                  subst hE
                  clear hall hno
                  have hVp := hV6.over hB7j
                  have hOp := hOx'.below hB7j
                  go_wp2_with (at_builtin; refine push_all (.tmp 104) (.tmp 106) 37 30 (.slice none 0 0) 1 24 rfl rfl Tryd.underlying37 infoRowI rfl (by decide) (by decide) hb _ done.length us [.slice XA x.length XC] rfl (hVp.own.alloc _) _ 1 1 rfl (fun h => by cases h) rfl (fun _ => ⟨_, 0, rfl, var_cells _ _ _ _ rfl⟩) hone hd24 (by have := hVp.lo; simp; omega) ?_; intro v' w3 ho3 hg3 ha3)
                  go_roundg (l.length - (k + 1))
                  case measure => have := hg.out; omega
                  case rel => exact ⟨k + 1, done ++ [x], _, by have := hg.out; show _ = _; omega, by go_num, (hVp.over (below_alloc0 _ _)).push (hOp.below (below_alloc0 _ _)) HVX.out ho3 hg3 (ha3.imp id (fun h => ⟨_, h, Nat.le_refl _⟩)), by have := HDN.out; rw [List.length_append]; show done.length + 1 = k + 1; omega, HSN.out⟩
          · have hVp := hV6.over (Below.refl w6.heap.size w6)
            have hOp := hOx'.below (Below.refl w6.heap.size w6)
            go_wp2_with (at_builtin; refine push_all (.tmp 104) (.tmp 106) 37 30 (.slice none 0 0) 1 24 rfl rfl Tryd.underlying37 infoRowI rfl (by decide) (by decide) hb _ done.length us [.slice XA x.length XC] rfl (hVp.own.alloc _) _ 1 1 rfl (fun h => by cases h) rfl (fun _ => ⟨_, 0, rfl, var_cells _ _ _ _ rfl⟩) hone hd24 (by have := hVp.lo; simp; omega) ?_; intro v' w3 ho3 hg3 ha3)
            go_roundg (l.length - (k + 1))
            case measure => have := hg.out; omega
            case rel => exact ⟨k + 1, done ++ [x], _, by have := hg.out; show _ = _; omega, by go_num, (hVp.over (below_alloc0 _ _)).push (hOp.below (below_alloc0 _ _)) HVX.out ho3 hg3 (ha3.imp id (fun h => ⟨_, h, Nat.le_refl _⟩)), by have := HDN.out; rw [List.length_append]; show done.length + 1 = k + 1; omega, HSN.out⟩
        · have hVp := hV6.over (Below.refl w6.heap.size w6)
          have hOp := hOx'.below (Below.refl w6.heap.size w6)
          go_wp2_with (at_builtin; refine push_all (.tmp 104) (.tmp 106) 37 30 (.slice none 0 0) 1 24 rfl rfl Tryd.underlying37 infoRowI rfl (by decide) (by decide) hb _ done.length us [.slice XA x.length XC] rfl (hVp.own.alloc _) _ 1 1 rfl (fun h => by cases h) rfl (fun _ => ⟨_, 0, rfl, var_cells _ _ _ _ rfl⟩) hone hd24 (by have := hVp.lo; simp; omega) ?_; intro v' w3 ho3 hg3 ha3)
          go_roundg (l.length - (k + 1))
          case measure => have := hg.out; omega
          case rel => exact ⟨k + 1, done ++ [x], _, by have := hg.out; show _ = _; omega, by go_num, (hVp.over (below_alloc0 _ _)).push (hOp.below (below_alloc0 _ _)) HVX.out ho3 hg3 (ha3.imp id (fun h => ⟨_, h, Nat.le_refl _⟩)), by have := HDN.out; rw [List.length_append]; show done.length + 1 = k + 1; omega, HSN.out⟩
    · have hkn : k = l.length := by omega
      subst hkn
      obtain ⟨MA, MC, rfl, hm1, hm2, hIm⟩ := hV.reads (by have := HDN.out; omega)
      have hcm := HCS.out done HDN.out HSH.out
      have hbd : bulkOf done = bulkOf l := by
        have : done.map List.length = l.map List.length := by
          apply List.ext_getElem (by simp [HDN.out])
          intro i h1 h2
          have hi : i < l.length := by simpa using h2
          have hi' : i < done.length := by rw [HDN.out]; exact hi
          have := shiftOn_length (HSH.out i hi)
          simp only [List.getD_eq_getElem?_getD, List.getElem?_eq_getElem hi, List.getElem?_eq_getElem hi', Option.getD_some] at this
          simp [this]
        unfold bulkOf
        rw [this]
      have hd24 : done.length * 24 ≤ 140737488355328 := by have := HDN.out; omega
      have cM := canon_any MA done MC wr hIm hd24 (by rw [hbd]; omega)
      rw [hcm] at cM
      clear hcm hbd
      go_wp2_with fail
      refine cM.mono ?_
      rintro e w8 ⟨vz, uz, rfl, hb8, hOz, h1z, h2z⟩
      clear h1z h2z
      obtain ⟨ZA, zc, rfl, _, _, hIz⟩ := hOz.reads
      have hB8 := below_then hB5 hB5.size hb8
      go_wp2_with fail
      refine (sameAll_self ZA Aa CL zc ca w8 hIz ((hIa4.kept hBv).kept hb8)).mono ?_
      rintro e w9 ⟨rfl, hb9⟩
      go_wp2_with fail
      go_ret
      exact ⟨rfl, below_then hB8 hB8.size hb9⟩
end Go.Proofs.YtldnokeejinebaaDoor
