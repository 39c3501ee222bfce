/- The walk of SubstCanons: for all lists of rows it answers true. Conditions: utf8's tables as laid; the rows hold at most 1048576 numbers. -/
import Derived.Test.YtldnokeejinebaaDoorRowSet
import Derived.Test.YtldnokeejinebaaDoorCanonC
set_option linter.unusedVariables false
set_option linter.unusedSimpArgs false
namespace Go.Proofs.YtldnokeejinebaaDoor
open Go.RowKit Go.Lib

theorem OwnRows.over {w w' : World} {base : Nat} {v : Value} {l : List (List Int)} {us : List Value} (h : OwnRows w base v l us) (hb : Below w.heap.size w w') : OwnRows w' base v l us :=
  ⟨h.len, own_kept h.own hb, h.h24, fun k hk => (h.rows k hk).below hb⟩
theorem OwnRows.far {w w' : World} {base : Nat} {row : Option Nat} {v : Value} {l : List (List Int)} {us : List Value} (h : OwnRows w base v l us) (hg : w.grownBy w' row) (hlt : ∀ g, row = some g → g < base) : OwnRows w' base v l us := by
  have ne : ∀ (y : Value) {n size : Nat} {e : TypeId} {xs : List Value}, w.ownsRow base e size y n xs → y.ownBlock = none ∨ y.ownBlock ≠ row := fun y n size e xs hy => by
    by_cases h0 : y.ownBlock = none
    · exact .inl h0
    · refine .inr fun e => ?_
      cases hq : y.ownBlock with
      | none => exact h0 hq
      | some g => have := (hy.lt g hq).1; have := hlt g (e.symm.trans hq); omega
  exact ⟨h.len, h.own.kept hg (ne _ h.own), h.h24, fun k hk => (h.rows k hk).kept hg (ne _ (h.rows k hk).1)⟩
theorem below_of_grown {w w' : World} (hg : w.grownBy w' none) : Below w.heap.size w w' := ⟨hg.os, hg.tape, hg.output, hg.size, fun i hi => hg.block i hi (by simp)⟩
/-- What memory holds while what came out is spoiled, from a place on. -/
structure Spoil (w2 wr : World) (b3 n i i' ob cap : Nat) (vb : Value) (R : List (List Int)) (ub usa usc : List Value) : Prop where
  below : Below w2.heap.size w2 wr
  want : OwnRows wr b3 vb R ub
  out : wr.ownsRow (w2.heap.size + 1) 30 1 (.slice (some ⟨ob, 0, none⟩) n cap) n usc
  same : ∀ j, i ≤ j → j < n → usc.getD j undef = usa.getD j undef
  rest : ∀ j, i' ≤ j → j < n → RowO wr (w2.heap.size + 1) (usa.getD j undef) (R.getD j [])
theorem Spoil.turn {w2 wr w5 : World} {b3 n i i' ob cap : Nat} {vb : Value} {R : List (List Int)} {ub usa usc : List Value} {row : Option Nat} (h : Spoil w2 wr b3 n i i' ob cap vb R ub usa usc) (hg : wr.grownBy w5 row)
    (hr : ∀ g, row = some g → w2.heap.size ≤ g ∧ g < b3 ∧ g ≠ ob ∧ ∀ j, i' ≤ j → j < n → (usa.getD j undef).ownBlock ≠ some g) : Spoil w2 w5 b3 n i i' ob cap vb R ub usa usc := by
  refine ⟨h.below.grown hg h.below.size (fun g e => (hr g e).1), h.want.far hg (fun g e => (hr g e).2.1), h.out.kept hg (.inr fun e => (hr ob e.symm).2.2.1 rfl), h.same, fun j h1 h2 => (h.rest j h1 h2).kept hg ?_⟩
  cases hq : (usa.getD j undef).ownBlock with
  | none => exact .inl rfl
  | some p => exact .inr fun e => (hr p e.symm).2.2.2 j h1 h2 hq
theorem Spoil.over {w2 wr w5 : World} {b3 n i i' ob cap : Nat} {vb : Value} {R : List (List Int)} {ub usa usc : List Value} (h : Spoil w2 wr b3 n i i' ob cap vb R ub usa usc) (hb : Below wr.heap.size wr w5) : Spoil w2 w5 b3 n i i' ob cap vb R ub usa usc :=
  ⟨below_then h.below h.below.size hb, h.want.over hb, own_kept h.out hb, h.same, fun j h1 h2 => (h.rest j h1 h2).below hb⟩
theorem Spoil.next {w2 wr : World} {b3 n i ob cap : Nat} {vb u : Value} {R : List (List Int)} {ub usa usc : List Value} (h : Spoil w2 wr b3 n i (i + 1) ob cap vb R ub usa usc) (hob : w2.heap.size ≤ ob ∧ ob < b3) (hr : ∀ j, j < n → (usa.getD j undef).ownBlock = none ∨ (usa.getD j undef).ownBlock ≠ some ob) :
    Spoil w2 (wr.setCell ⟨ob, i, none⟩ u) b3 n (i + 1) (i + 1) ob cap vb R ub usa (usc.set i u) := by
  have hg := turned_set wr ob i u
  refine ⟨below_set h.below (by show w2.heap.size ≤ ob; exact hob.1) _, h.want.far hg (fun g e => by cases e; exact hob.2), (h.out.stored i u).1, fun j h1 h2 => ?_, fun j h1 h2 => (h.rest j h1 h2).kept hg (hr j h2)⟩
  rw [List.getD_eq_getElem?_getD, List.getElem?_set_ne (by omega), ← List.getD_eq_getElem?_getD]
  exact h.same j (by omega) h2

theorem getD_bulk : ∀ (l : List (List Int)) (k : Nat), (l.getD k []).length ≤ bulkOf l
  | [], k => by simp
  | t :: l, 0 => by simp [bulkOf]
  | t :: l, k + 1 => by
    have := getD_bulk l k
    simp only [List.getD_cons_succ]
    simp only [bulkOf, List.map_cons, List.sum_cons] at this ⊢
    omega
theorem canon_row_len (l : List (List Int)) (k : Nat) : ((canon l).getD k []).length ≤ bulkOf l := by
  have := getD_bulk (canon l) k
  rw [bulk_canon] at this
  exact this
set_option maxRecDepth 100000 in
set_option maxHeartbeats 2000000 in
theorem substCanons_walk (A : Option Addr) (l : List (List Int)) (c : Nat) (w : World) (hT : Tabs w) (hc : l.length ≤ c) (hn : A = none → l.length = 0 ∧ c = 0) (h24 : l.length * 24 ≤ 140737488351232) (hl : RowsIn w A l) (hbk : bulkOf l ≤ 1048576) :
    Calls Tryd.prog 6 #[.slice A l.length c] w fun e w' => e = .returned (.bool true) ∧ Below w.heap.size w w' := by
  have m1 := hl.1
  clear hn
  go_enter Tryd.func6, Tryd.ntmps6
  go_wp2_with fail
  refine (shown_any w hT).mono ?_
  rintro e w1 ⟨rfl, hb1⟩
  have h0 := VRows.start (w := w1) rfl
  go_wp2_with fail
  obtain ⟨w0, hw0⟩ : ∃ x, x = w1.alloc (.cells #[] 30) := ⟨_, rfl⟩
  obtain ⟨hb, hhb⟩ : ∃ x, x = w1.heap.size := ⟨_, rfl⟩
  rw [← hw0, ← hhb] at h0 ⊢
  have HHB := Lib.hid hhb
  clear hw0 hhb
  have hrowI : ∀ W : World, hb ≤ W.heap.size → (W.alloc (.cells #[] 3)).ownsRow hb 3 1 (.slice (some ⟨W.heap.size, 0, none⟩) 0 0) 0 [] := fun W h => World.ownsRow_made W #[] 0 h (by simp) (by simp)
  go_loopg [4, 5] l.length (fun gk V i wr => ∃ (k : Nat) (us : List Value), Aside (gk + k = l.length) ∧ i = .int .i64 k ∧ VRows w1 wr hb V us (l.take k))
  case atStart => exact ⟨0, [], (rfl : l.length + 0 = _), rfl, h0⟩
  case round =>
    clear h0
    obtain ⟨k, us, hg, rfl, hV⟩ := hrel
    have hk : k ≤ l.length := by have := hg.out; omega
    have hBv : Below w1.heap.size w1 wr := by rw [← HHB.out]; exact hV.below
    have hB5 := below_then hb1 hb1.size hBv
    by_cases hlt : k < l.length
    · obtain ⟨b, off, t, B, d, rfl, hx, hc0, hd1, hd2, h8, ht⟩ := (hl.kept hB5).at_ hlt
      have HX := Lib.hid hx
      have hlo := hV.lo
      have htk : (l.take k).length = k := by simp; omega
      have HTK := Lib.hid htk
      have hown := hV.own
      have hk24 : (k + 1) * 24 ≤ 140737488355328 := by omega
      rw [htk] at hown
      have hblt : b < wr.heap.size := World.block_lt_of_cell? wr _ hc0
      have hti := ht.1
      clear hx htk
      go_wp2_with (first
        | (at_builtin; refine push_all (.tmp 22) (.tmp 26) 30 3 (.int .i64 0) 1 8 rfl rfl Tryd.underlying30 infoInt rfl (by decide) (by decide) hb (.slice (some ⟨wr.heap.size, 0, none⟩) 0 0) 0 [] (icells t) rfl (hrowI wr hlo) B t.length d rfl hd2 (icells_length t) (ht.kept (below_alloc0 _ _)).cells (icells_one t) (by omega) (by simp; omega) ?_
           intro u w3 ho3 hg3 ha3
           simp only [Nat.zero_add, List.nil_append] at ho3
           obtain ⟨RA, RC, rfl, hRn⟩ := own_slice ho3
           have hW1 := below_of_grown (copy_between hg3)
           have hV3 := hV.over hW1
           have hown3 := own_kept hown hW1)
        | (at_builtin; refine push_all (.tmp 21) (.tmp 28) 37 30 (.slice none 0 0) 1 24 rfl rfl Tryd.underlying37 infoRowI rfl (by decide) (by decide) hb u4 k us [.slice RA t.length RC] rfl (hown3.alloc _) _ 1 1 rfl (fun h => by cases h) rfl (fun _ => ⟨_, 0, rfl, var_cells _ _ _ _ rfl⟩) (fun u hu => by simp at hu; rw [hu]; rfl) hk24 (by have := hV3.lo; simp; omega) ?_; intro v4 w4 ho4 hg4 ha4))
      have hnw := own_new ha3
      have hRO : RowO w3 hb (.slice RA t.length RC) t := ⟨ho3, h8, hti⟩
      have hRV : (Value.slice RA t.length RC).ownBlock = none ∨ (Value.slice RA t.length RC).ownBlock ≠ u4.ownBlock := .inr fun e => by
        cases hq : (Value.slice RA t.length RC).ownBlock with
        | none => exact hnw.1 hq
        | some p =>
          have h1 := hnw.2 p hq
          have h2 := (hown.lt p (e.symm.trans hq)).2
          omega
      have hV5 := (hV3.over (below_alloc0 w3 (.cells #[.slice RA t.length RC] 30))).push (hRO.below (below_alloc0 _ _)) hRV (by rw [HTK.out]; exact ho4) hg4 (ha4.imp id (fun h => ⟨_, h, Nat.le_refl _⟩))
      rw [← HX.out, ← take_succ' l [] hlt] at hV5
      have HV5 := Lib.hid hV5
      clear hV5 hRV hRO hnw ho3 hg3 ha3 ho4 hg4 ha4 hV3
      go_roundg (l.length - (k + 1))
      case measure => have := hg.out; omega
      case rel => exact ⟨k + 1, _, by have := hg.out; show _ = _; omega, by go_num, HV5.out⟩
    · have hkn : k = l.length := by omega
      subst hkn
      rw [List.take_length] at hV
      have h24' : l.length * 24 ≤ 140737488355328 := by omega
      obtain ⟨OA, OC, rfl, hoc, hon, hIo⟩ := hV.reads h24'
      obtain ⟨w2, hw2⟩ : ∃ x, x = wr := ⟨_, rfl⟩
      rw [← hw2] at hIo hB5 ⊢
      clear hw2 hV hon
      have hl2 := hl.kept hB5
      have cC2 := fun W h => canon_any OA l OC W h h24' (by omega)
      go_wp2_with fail
      refine (canon_apart_any OA l OC w2 hIo h24' (by omega)).mono ?_
      rintro e w3 ⟨va, ua, rfl, hb3, hOa, hlen, hav, hap⟩
      go_wp2_with fail
      refine (canon_ref_any A l c w3 (hl2.kept hb3) h24' (by omega)).mono ?_
      rintro e w4 ⟨vb, ub, rfl, hb4, hOb⟩
      have HLEN := Lib.hid hlen
      rw [← hlen] at hav hap
      have HAV := Lib.hid hav
      have HAP := Lib.hid hap
      clear hlen hav hap
      have ha24 := hOa.h24
      have hRL := fun k => Nat.le_trans (canon_row_len l k) hbk
      generalize canon l = R at hOa hOb cC2 HLEN HAV HAP ha24 hRL
      have HRL := Lib.hid hRL
      clear hRL
      obtain ⟨Aa, ca, rfl, hac, han, hIa⟩ := hOa.reads
      obtain ⟨Ab, cb, rfl, hbc, hbn, hIb⟩ := hOb.reads
      go_wp2_with fail
      refine (sameAll_self Aa Ab R ca cb w4 (hIa.kept hb4) hIb).mono ?_
      rintro e w5 ⟨rfl, hb5⟩
      go_wp2_with fail
      have h25 := below_then hb3 hb3.size (below_then hb4 hb4.size hb5)
      refine (sameAll_self OA A l OC c w5 (hIo.kept h25) (hl2.kept h25)).mono ?_
      rintro e w6 ⟨rfl, hb6⟩
      have h26 := below_then h25 h25.size hb6
      clear hIa hIb han hbn
      have hOa6 := ((hOa.over hb4).over hb5).over hb6
      have hOb6 := (hOb.over hb5).over hb6
      have HOA := Lib.hid hOa
      go_wp2_with fail
      go_loopg [8] R.length (fun gk i wr => ∃ (i0 : Nat) (usc : List Value), Aside (gk + i0 = R.length) ∧ i = .int .i64 i0 ∧ Below w2.heap.size w2 wr ∧ OwnRows wr w3.heap.size (.slice Ab R.length cb) R ub ∧ (0 < R.length → ∃ ob, Aa = some ⟨ob, 0, none⟩ ∧ Spoil w2 wr w3.heap.size R.length i0 i0 ob ca (.slice Ab R.length cb) R ub ua usc))
      case atStart =>
        refine ⟨0, ua, (rfl : R.length + 0 = _), rfl, h26, hOb6, fun h0 => ?_⟩
        obtain ⟨g, cap, hv, hgb, hgl⟩ := hOa.own.form h0
        injection hv with e1 _ e3
        subst e1 e3
        exact ⟨g, rfl, h26, hOb6, hOa6.own, fun _ _ _ => rfl, fun j _ hj => hOa6.rows j hj⟩
      case round =>
        clear h26 hOa6 hOb6 h25
        obtain ⟨i0, usc, hg, rfl, hB2, hWant, hSp⟩ := hrel
        have hi0 : i0 ≤ R.length := by have := hg.out; omega
        by_cases hlt : i0 < R.length
        · obtain ⟨ob, hAe, hS⟩ := hSp (by omega)
          subst hAe
          have hB9 := below_then hB5 hB5.size hB2
          have hrow := hS.rest i0 (Nat.le_refl _) hlt
          have hrow3 := HOA.out.rows i0 hlt
          obtain ⟨t, htR⟩ : ∃ t, t = R.getD i0 [] := ⟨_, rfl⟩
          have hsm := hS.same i0 (Nat.le_refl _) hlt
          have hob1 : w2.heap.size ≤ ob := by have := (HOA.out.own.lt ob rfl).1; omega
          have hob2 : ob < w3.heap.size := (HOA.out.own.lt ob rfl).2
          have htl : t.length ≤ 1048576 := by rw [htR]; exact HRL.out i0
          rw [← htR] at hrow hrow3
          have hul : usc.length = R.length := by have := hS.out.1; omega
          have hHG : ∀ g, (ua.getD i0 undef).ownBlock = some g → w2.heap.size ≤ g ∧ g < w3.heap.size ∧ g ≠ ob ∧ ∀ j, i0 + 1 ≤ j → j < R.length → (ua.getD j undef).ownBlock ≠ some g := fun g hgq => by
            have h1 := hrow3.1.lt g hgq
            refine ⟨by omega, h1.2, fun e => ?_, fun j hj1 hj2 e => ?_⟩
            · rcases HAV.out i0 hlt with h | h
              · rw [h] at hgq; cases hgq
              · exact h (by rw [hgq, e]; rfl)
            · rcases HAP.out i0 j hlt hj2 (by omega) with h | h
              · rw [h] at hgq; cases hgq
              · exact h (hgq.trans e.symm)
          have hS1 : Spoil w2 wr w3.heap.size R.length i0 (i0 + 1) ob ca (.slice Ab R.length cb) R ub ua usc := ⟨hS.below, hS.want, hS.out, hS.same, fun j h1 h2 => hS.rest j (by omega) h2⟩
          have husc : usc[i0]? = some (usc.getD i0 undef) := by simp [List.getD_eq_getElem?_getD, List.getElem?_eq_getElem (show i0 < usc.length by omega)]
          rw [hsm] at husc
          obtain ⟨UA, UC, hu, _⟩ := own_slice hrow.1
          rw [hu] at hrow hHG husc
          have HUSC := Lib.hid husc
          have HHG := Lib.hid hHG
          have HUL := Lib.hid hul
          have HAV2 : Hid (∀ j, j < R.length → (ua.getD j undef).ownBlock = none ∨ (ua.getD j undef).ownBlock ≠ some ob) := Lib.hid HAV.out
          have hco0 : wr.cell? ⟨ob, i0, none⟩ = some (.slice UA t.length UC) := by rw [hS.out.cellAt i0 (by omega)]; exact husc
          clear hS hSp husc hHG hul hsm hu htR hrow3 hWant hB2
          go_wp2_with fail
          go_loopg [9] t.length (fun gj i wx => ∃ (j : Nat) (r : List Int), Aside (gj + j = t.length) ∧ i = .int .i64 j ∧ Spoil w2 wx w3.heap.size R.length i0 (i0 + 1) ob ca (.slice Ab R.length cb) R ub ua usc ∧ RowO wx (w2.heap.size + 1) (.slice UA t.length UC) r ∧ Aside (r.length = t.length))
          case atStart => exact ⟨0, t, (rfl : t.length + 0 = _), rfl, hS1, hrow, rfl⟩
          case round =>
            clear hS1 hrow hco0
            obtain ⟨j, r, hgj, rfl, hS, hO, hr⟩ := hrel
            have hj : j ≤ t.length := by have := hgj.out; omega
            have hco : wr.cell? ⟨ob, i0, none⟩ = some (.slice UA t.length UC) := by rw [hS.out.cellAt i0 (by omega)]; exact HUSC.out
            have hO2 := hO.1
            rw [hr.out] at hO2
            have HR := Lib.hid hr.out
            clear hr
            by_cases hjt : j < t.length
            · obtain ⟨g, cap, hv, hgb, hgl⟩ := hO2.form (by omega)
              injection hv with hv1 hv2 hv3
              subst hv1 hv3
              have hcell := hO2.cellAt j (by omega)
              rw [icells_at _ j (by have := HR.out; omega)] at hcell
              have hfz := hO2.frozenAt j
              have HS2 := Lib.hid (hS.turn (turned_set wr g j (.int .i64 99)) (fun g' e => by cases e; exact HHG.out g rfl))
              have HO3 := Lib.hid (hO.stored (k := j) (d := 99) HR.out.symm (by decide))
              clear hO2 hS hO
              go_wp2_with fail
              go_roundg (t.length - (j + 1))
              case measure => have := hgj.out; omega
              case rel => exact ⟨j + 1, r.set j 99, by have := hgj.out; show _ = _; omega, by go_num, HS2.out, HO3.out, by have := HR.out; rw [List.length_set]; exact this⟩
            · have hjn : j = t.length := by omega
              subst hjn
              have hN2 : w2.heap.size + 1 ≤ (wr.alloc (.cells #[.int .i64 98] 3)).heap.size := by have := hS.below.size; simp; omega
              have hblt : ob < wr.heap.size := World.block_lt_of_cell? wr _ hco
              have h99 : (t.length + 1) * 8 ≤ 140737488355328 := by omega
              go_wp2_with (at_builtin; refine push_all (.tmp 68) (.tmp 69) 30 3 (.int .i64 0) 1 8 rfl rfl Tryd.underlying30 infoInt rfl (by decide) (by decide) (w2.heap.size + 1) _ t.length (icells r) (icells [98]) rfl (hO2.alloc _) _ 1 1 rfl (fun h => by cases h) (icells_length _) (fun _ => ⟨_, 0, rfl, var_cells _ _ _ _ rfl⟩) (icells_one _) h99 hN2 ?_; intro v8 w8 ho8 hg8 ha8; obtain ⟨g8, cap8, rfl, hg8b, hg8l⟩ := ho8.form (by omega); have hS8 := (hS.over (below_alloc0 _ _)).turn hg8 (fun g' e => HHG.out g' e); have hco8 : w8.cell? ⟨ob, i0, none⟩ = some (.slice UA t.length UC) := (hS8.out.cellAt i0 (by omega)).trans HUSC.out; have hfz8 := hS8.out.frozenAt i0)
              have HS9 := Lib.hid (fun u => hS8.next (u := u) ⟨hob1, hob2⟩ HAV2.out)
              clear hS8 hO2 hO hS
              go_roundg (R.length - (i0 + 1))
              case measure => have := hg.out; omega
              case rel => exact ⟨i0 + 1, _, by have := hg.out; show _ = _; omega, by go_num, (HS9.out _).below, (HS9.out _).want, fun _ => ⟨ob, rfl, HS9.out _⟩⟩
        · have hin : i0 = R.length := by omega
          subst hin
          have hB9 := below_then hB5 hB5.size hB2
          go_wp2_with fail
          refine (cC2 _ (hIo.kept hB2)).mono ?_
          rintro e w8 ⟨vz, uz, rfl, hb8, hOz, h1z, h2z⟩
          clear h1z h2z
          obtain ⟨ZA, zc, rfl, _, _, hIz⟩ := hOz.reads
          obtain ⟨Ab', cb', eb, _, _, hIw⟩ := hWant.reads
          cases eb
          have hB10 := below_then hB9 hB9.size hb8
          have h28 := below_then hB2 hB2.size hb8
          go_wp2_with fail
          refine (sameAll_self ZA Ab R zc cb w8 hIz (hIw.kept hb8)).mono ?_
          rintro e w9 ⟨rfl, hb9⟩
          have hB11 := below_then hB10 hB10.size hb9
          have h29 := below_then h28 h28.size hb9
          go_wp2_with fail
          refine (sameAll_self OA A l OC c w9 (hIo.kept h29) (hl2.kept h29)).mono ?_
          rintro e w10 ⟨rfl, hb10⟩
          go_wp2_with fail
          go_ret
          exact ⟨rfl, below_then hB11 hB11.size hb10⟩
end Go.Proofs.YtldnokeejinebaaDoor
