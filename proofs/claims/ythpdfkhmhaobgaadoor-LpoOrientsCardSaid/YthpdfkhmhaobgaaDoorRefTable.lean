/- The walk of the document's Greater of layer 11: it answers as the definition says. Conditions: the precedence is an order. -/
import Derived.Test.YthpdfkhmhaobgaaDoorRefMake
import Derived.Test.YthpdfkhmhaobgaaDoorEnd
import Derived.Deep.Cut
set_option linter.unusedVariables false
set_option linter.unusedSimpArgs false
set_option linter.unnecessarySimpa false
namespace Go.Proofs.YthpdfkhmhaobgaaDoor
open Go.RowKit Go.Lib

/-- The table's other cells, and all that lay there before it. -/
structure Head (w2 w : World) (xb rb : Nat) (C D : Option Addr) (s t : List Int) (sc tc : Nat) : Prop where
  below : Below xb w2 w
  lt : xb < w.heap.size
  c1 : w.cell? ⟨xb, 1, none⟩ = some (.pointer (some ⟨rb, 0, none⟩))
  c2 : w.cell? ⟨xb, 2, none⟩ = some (.slice C s.length sc)
  c3 : w.cell? ⟨xb, 3, none⟩ = some (.slice D t.length tc)
theorem infoIntRow : (Tryd.prog.info? 24).map (fun i => (i.zero, i.size, i.bytes)) = some (some (.slice none 0 0), 1, 24) := by kernel_rfl
theorem Head.kept {w2 w w' : World} {xb rb : Nat} {C D : Option Addr} {s t : List Int} {sc tc : Nat} (h : Head w2 w xb rb C D s t sc tc) (hb : Below w.heap.size w w') : Head w2 w' xb rb C D s t sc tc :=
  ⟨below_then h.below (Nat.le_of_lt h.lt) hb, Nat.lt_of_lt_of_le h.lt hb.size, cell_kept hb h.c1, cell_kept hb h.c2, cell_kept hb h.c3⟩
theorem Head.set {w2 w : World} {xb rb : Nat} {C D : Option Addr} {s t : List Int} {sc tc : Nat} (h : Head w2 w xb rb C D s t sc tc) {p : Addr} (hp : xb < p.block) (v : Value) : Head w2 (w.setCell p v) xb rb C D s t sc tc := by
  have hne : ∀ j, p ≠ ⟨xb, j, none⟩ := fun j e => by rw [e] at hp; exact Nat.lt_irrefl _ hp
  exact ⟨below_set h.below (Nat.le_of_lt hp) v, by rw [World.size_setCell]; exact h.lt, (set_far (hne 1)).trans h.c1, (set_far (hne 2)).trans h.c2, (set_far (hne 3)).trans h.c3⟩
theorem Head.more {w2 w w' : World} {xb rb : Nat} {C D : Option Addr} {s t : List Int} {sc tc N c' : Nat} (h : Head w2 w xb rb C D s t sc tc) (vb : Option Nat) (hv : ∀ b, vb = some b → xb < b) (u : Value) (hc : 4 ≤ c')
    (hgr : (madeRow w N).grownBy w' vb) : Head w2 (w'.setCell ⟨xb, c', none⟩ u) xb rb C D s t sc tc := by
  have hsz := madeRow_size w N
  have hbw := madeRow_below w N
  have hlt := h.lt
  have hne0 : some xb ≠ vb := fun e => by have := hv xb e.symm; omega
  have hcell : ∀ j x, j < 4 → w.cell? ⟨xb, j, none⟩ = some x → (w'.setCell ⟨xb, c', none⟩ u).cell? ⟨xb, j, none⟩ = some x := fun j x hj hx => by
    rw [set_off (by omega)]
    exact hgr.cell (a := ⟨xb, j, none⟩) (cell_kept (w := w) hbw hx) hne0
  have hB : Below xb w2 w' := (below_then h.below (Nat.le_of_lt hlt) hbw).grown hgr (by rw [hsz]; omega) (fun b hb => Nat.le_of_lt (hv b hb))
  exact ⟨below_set hB (Nat.le_refl _) u, by rw [World.size_setCell]; have := hgr.size; omega, hcell 1 _ (by omega) h.c1, hcell 2 _ (by omega) h.c2, hcell 3 _ (by omega) h.c3⟩

set_option maxRecDepth 100000 in
set_option maxHeartbeats 8000000 in
theorem rgreater_main (A C D : Option Addr) (l : List Sy) (q : List (Int × Int)) (s t : List Int) (rb lc sc tc : Nat) (hsc : s.length ≤ sc) (htc : t.length ≤ tc) (w : World) (hcyc : ¬ Cyclic q) (hs0 : termErr l s = 0) (ht0 : termErr l t = 0) (hs5 : s.length ≤ 512) (ht5 : t.length ≤ 512) (hl : Sigs w A l) (hs : Ints w C s) (ht : Ints w D t) (hR : IsRef w rb l.length q) :
    Calls Tryd.prog 13 #[.slice A l.length lc, .pointer (some ⟨rb, 0, none⟩), .slice C s.length sc, .slice D t.length tc] w fun e w' => e = .returned (.bool (gB l q s t 0 0)) ∧ Below w.heap.size w w' := by
  have m1 := hs.2.1
  have hnp := term_pos hs0
  have hmp := term_pos ht0
  obtain ⟨cb, co, x0, rfl, _⟩ := hs.at_ hnp
  obtain ⟨db, dof, y0, rfl, _⟩ := ht.at_ hmp
  have c1 := refcheck_any A _ l s l.length lc s.length sc rfl rfl w hl hs
  have c2 := fun (w1 : World) (hb : Below w.heap.size w w1) => refcheck_any A _ l t l.length lc t.length tc rfl rfl w1 (hl.kept hb) (ht.kept hb)
  rw [hs0] at c1
  rw [ht0] at c2
  obtain ⟨ans, hans⟩ : ∃ r, r = gB l q s t 0 0 := ⟨_, rfl⟩
  rw [← hans]
  have HANS := Lib.hid hans
  have HL := Lib.hid hl
  have HS := Lib.hid hs
  have HTT := Lib.hid ht
  have HRF := Lib.hid hR
  have HS0 := Lib.hid hs0
  have HT0 := Lib.hid ht0
  have HC2 := Lib.hid c2
  clear hl hs ht hR hs0 ht0 c2 hans
  go_enter Tryd.func13, Tryd.ntmps13
  go_wp2_with fail
  refine c1.mono ?_
  rintro e w1 ⟨rfl, hb1⟩
  have c2 := HC2.out w1 hb1
  clear c1 HC2
  go_wp2_with fail
  refine c2.mono ?_
  rintro e w2 ⟨rfl, hb2⟩
  have hb02 := below_then hb1 hb1.size hb2
  obtain ⟨w3, hw3⟩ : ∃ x, x = w2.alloc (Obj.cells #[.slice A l.length lc, .pointer (some ⟨rb, 0, none⟩), .slice (some ⟨cb, co, none⟩) s.length sc, .slice (some ⟨db, dof, none⟩) t.length tc, .slice none 0 0, .slice none 0 0] 78) := ⟨_, rfl⟩
  obtain ⟨xb, hxb⟩ : ∃ x, x = w2.heap.size := ⟨_, rfl⟩
  have HB02 := Lib.hid hb02
  clear c2 hb1 hb2 hb02
  go_wp2_with fail
  rw [← hw3, ← hxb]
  have hcell : ∀ j u, (#[.slice A l.length lc, .pointer (some ⟨rb, 0, none⟩), .slice (some ⟨cb, co, none⟩) s.length sc, .slice (some ⟨db, dof, none⟩) t.length tc, .slice none 0 0, .slice none 0 0] : Array Value)[j]? = some u → w3.cell? ⟨xb, j, none⟩ = some u := fun j u h => by rw [hw3, hxb]; exact (World.cell?_alloc_new w2 _ _ j).trans h
  have hH : Head w2 w3 xb rb (some ⟨cb, co, none⟩) (some ⟨db, dof, none⟩) s t sc tc := ⟨by rw [hw3, hxb]; exact below_alloc0 _ _, by rw [hw3, hxb]; simp, hcell 1 _ rfl, hcell 2 _ rfl, hcell 3 _ rfl⟩
  have hfz : ∀ c, w3.frozen? ⟨xb, c, none⟩ = false := fun c => by rw [hw3, hxb]; go_simp
  have hS : Making w3 xb 4 t.length 0 (fun _ => 0) (.slice none 0 0) := ⟨hcell 4 _ rfl, hfz 4, ⟨by simp [rowVals], .inl ⟨rfl, rfl⟩⟩, fun i hi => by omega, fun i j _ hj => by omega⟩
  have hM : Making w3 xb 5 t.length 0 (fun _ => 0) (.slice none 0 0) := ⟨hcell 5 _ rfl, hfz 5, ⟨by simp [rowVals], .inl ⟨rfl, rfl⟩⟩, fun i hi => by omega, fun i j _ hj => by omega⟩
  have hD : ∀ b, Foot 0 (fun _ => 0) (.slice none 0 0) b → ¬ Foot 0 (fun _ => 0) (.slice none 0 0) b := fun b hb => by
    rcases hb with hb | ⟨i, hi, _⟩
    · cases hb
    · omega
  have HXB := Lib.hid hxb
  clear hw3 hcell hfz hxb
  go_loopg [10] s.length (fun gk v wr => ∃ (k : Nat) (rs : Nat → Nat) (vs : Value) (rm : Nat → Nat) (vm : Value), Aside (gk + k = s.length) ∧ v = .int .i64 k ∧ Aside (Head w2 wr xb rb (some ⟨cb, co, none⟩) (some ⟨db, dof, none⟩) s t sc tc) ∧ Making wr xb 4 t.length k rs vs ∧ Making wr xb 5 t.length k rm vm ∧ Aside (∀ b, Foot k rs vs b → ¬ Foot k rm vm b))
  case atStart => exact ⟨0, _, _, _, _, (rfl : s.length + 0 = _), rfl, hH, hS, hM, hD⟩
  case round =>
    clear hH hS hM hD
    obtain ⟨k, rs, vs, rm, vm, hg, rfl, hH, hS, hM, hD⟩ := hrel
    have hk : k ≤ s.length := by have := hg.out; omega
    by_cases hlt : k < s.length
    · have hmk : ∀ W : World, (Instr.makeSlice 79 (.int .i64 (t.length : Int)) (.int .i64 (t.length : Int))).run Tryd.prog W = .ok (.slice (some ⟨W.heap.size, 0, none⟩) t.length t.length) (W.alloc (.cells (madeCells #[.bool false] t.length) 4)) := fun W =>
        run_make_row' 79 4 (.bool false) 1 Tryd.underlying79 infoBool rfl .i64 .i64 t.length (by omega) (by omega) W
      have hlb : xb < wr.heap.size := World.block_lt_of_cell? wr _ hS.head
      have hone : ∀ (b : Nat), ∀ u ∈ [Value.slice (some ⟨b, 0, none⟩) t.length t.length], u.oneCell' = true := by intro b u hu; simp at hu; rw [hu]; rfl
      have hsf : ∀ b, vs.ownBlock = some b → xb < b ∧ ¬ Foot k rm vm b := fun b hb => ⟨(hS.foot (.inl hb)).1, hD.out b (.inl hb)⟩
      have HMK := Lib.hid hM
      have HD := Lib.hid hD.out
      have HH := Lib.hid hH.out
      have hh := hS.head
      have hf := hS.fz
      have HOwn := hS.own
      have hne0 : some xb ≠ vs.ownBlock := by intro e; have := hS.own.lt xb e.symm; omega
      have HSK := Lib.hid hS
      have HSF := Lib.hid hsf
      clear hM hD hH hS hsf
      go_wp2_with fail
      go_cut [10] (fun v wx => v = .int .i64 k ∧ ∃ (rs' : Nat → Nat) (vs' : Value), Aside (Head w2 wx xb rb (some ⟨cb, co, none⟩) (some ⟨db, dof, none⟩) s t sc tc) ∧ Making wx xb 4 t.length (k + 1) rs' vs' ∧ Making wx xb 5 t.length k rm vm ∧ Aside (∀ b, Foot (k + 1) rs' vs' b → ¬ Foot k rm vm b))
      case first =>
        go_region_law (first
          | (refine step_push (.tmp 53) (.tmp 57) 76 79 (.slice none 0 0) 1 24 rfl rfl Tryd.underlying76 infoRow rfl (by decide) (by decide) (xb + 1) vs k (rowVals rs t.length k) [.slice (some ⟨wr.heap.size, 0, none⟩) t.length t.length] rfl ((HOwn.alloc _).alloc _).drew (wr.heap.size + 1) 0 1 rfl rfl (by intro j u hj; exact var_cells _ _ _ _ (by simp) j u hj) (hone _) (by omega) (by simp; omega) ?_; intro g cap w' hown' hgr hat hglt; have hh1 : w'.cell? ⟨xb, 4, none⟩ = some vs := hgr.cell (a := ⟨xb, 4, none⟩) (by go_simp) hne0; have hf1 : w'.frozen? ⟨xb, 4, none⟩ = false := (hgr.frozen_far ⟨xb, 4, none⟩ (by simp; omega) hne0).trans (by go_simp)))
        all_goals
          go_wp2_with fail
          go_meet
          case rel =>
            exact ⟨rfl, _, _, HH.out.more _ (fun b hb => (HSF.out b hb).1) _ (by decide) hgr, HSK.out.more hown' hgr hat, HMK.out.other _ HSF.out _ (by decide) hgr, fun b hb => by
              rcases foot_more hat hb with h | h
              · exact HD.out b h
              · exact fun hm => by have := (HMK.out.foot hm).2; omega⟩
      case rest =>
        obtain ⟨rfl, rs', vs', hH, hS, hM, hD⟩ := hcut
        obtain ⟨w4, rfl⟩ : ∃ x : World, x = wc := ⟨_, rfl⟩
        clear HMK HD HH hh hf HOwn hne0 HSK HSF
        have hmf : ∀ b, vm.ownBlock = some b → xb < b ∧ ¬ Foot (k + 1) rs' vs' b := fun b hb => ⟨(hM.foot (.inl hb)).1, fun h => hD.out b h (.inl hb)⟩
        have hlb : xb < w4.heap.size := World.block_lt_of_cell? w4 _ hM.head
        have HSK := Lib.hid hS
        have HMK := Lib.hid hM
        have HD := Lib.hid hD.out
        have HH := Lib.hid hH.out
        have hh := hM.head
        have hf := hM.fz
        have HOwn := hM.own
        have hne0 : some xb ≠ vm.ownBlock := by intro e; have := hM.own.lt xb e.symm; omega
        have HMF := Lib.hid hmf
        clear hM hD hH hS hmf
        go_wp2_with fail
        go_region_law (first
          | (refine step_push (.tmp 65) (.tmp 69) 76 79 (.slice none 0 0) 1 24 rfl rfl Tryd.underlying76 infoRow rfl (by decide) (by decide) (xb + 1) vm k (rowVals rm t.length k) [.slice (some ⟨w4.heap.size, 0, none⟩) t.length t.length] rfl ((HOwn.alloc _).alloc _).drew (w4.heap.size + 1) 0 1 rfl rfl (by intro j u hj; exact var_cells _ _ _ _ (by simp) j u hj) (hone _) (by omega) (by simp; omega) ?_; intro g cap w' hown' hgr hat hglt; have hh1 : w'.cell? ⟨xb, 5, none⟩ = some vm := hgr.cell (a := ⟨xb, 5, none⟩) (by go_simp) hne0; have hf1 : w'.frozen? ⟨xb, 5, none⟩ = false := (hgr.frozen_far ⟨xb, 5, none⟩ (by simp; omega) hne0).trans (by go_simp)))
        all_goals
          go_wp2_with fail
          go_roundg (s.length - (k + 1))
          case measure => have := hg.out; omega
          case rel =>
            exact ⟨k + 1, rs', vs', _, _, by have := hg.out; show _ = _; omega, by go_num, HH.out.more _ (fun b hb => (HMF.out b hb).1) _ (by decide) hgr, HSK.out.other _ HMF.out _ (by decide) hgr, HMK.out.more hown' hgr hat, fun b hb hm => by
              rcases foot_more hat hm with h | h
              · exact HD.out b hb h
              · have := (HSK.out.foot hb).2; omega⟩
    · have hke : k = s.length := by omega
      subst hke
      obtain ⟨W1, rfl⟩ : ∃ x : World, x = wr := ⟨_, rfl⟩
      obtain ⟨gs, cs, hvs, hGS, hgs, hsn, hfs⟩ := hS.done hnp
      obtain ⟨gm, cm, hvm, hGM, hgm, hmn, hfm⟩ := hM.done hnp
      have shape : (∀ i, i < s.length → xb < rs i ∧ rs i < W1.heap.size ∧ rs i ≠ gs ∧ rs i ≠ gm) ∧ (∀ i, i < s.length → xb < rm i ∧ rm i < W1.heap.size ∧ rm i ≠ gm ∧ rm i ≠ gs) ∧ ∀ i j, i < s.length → j < s.length → rs i ≠ rm j :=
        ⟨fun i hi => ⟨(hS.foot (.inr ⟨i, hi, rfl⟩)).1, (hS.foot (.inr ⟨i, hi, rfl⟩)).2, hsn i hi, fun e => hD.out _ (.inr ⟨i, hi, rfl⟩) (by rw [e]; exact hfm)⟩,
         fun i hi => ⟨(hM.foot (.inr ⟨i, hi, rfl⟩)).1, (hM.foot (.inr ⟨i, hi, rfl⟩)).2, hmn i hi, fun e => hD.out gs hfs (.inr ⟨i, hi, e.symm⟩)⟩,
         fun i j hi hj e => hD.out _ (.inr ⟨i, hi, rfl⟩) (.inr ⟨j, hj, e⟩)⟩
      have SH := Lib.hid shape
      have INS := Lib.hid hS.ne
      have INM := Lib.hid hM.ne
      have hbW1 : Below w.heap.size w W1 := below_then HB02.out HB02.out.size (by rw [← HXB.out]; exact hH.out.below)
      have HGS := Lib.hid hGS
      have HGM := Lib.hid hGM
      have HH := Lib.hid hH.out
      have HBW := Lib.hid hbW1
      clear shape hS hM hD hGS hGM hfs hfm hsn hmn hgs hgm hvs hvm hH hbW1
      go_wp2_with fail
      go_loopg [11, 12] t.length (fun gk V v wr => ∃ (k : Nat) (us : List Value), Aside (gk + k = t.length) ∧ v = .int .i64 k ∧ Aside (Below W1.heap.size W1 wr) ∧ Belows wr W1.heap.size V k us (kidN l t))
      case atStart => exact ⟨0, [], (rfl : t.length + 0 = _), rfl, Below.refl _ _, ⟨World.ownsRow_nil _ _ _ _, fun e he => by omega⟩⟩
      case round =>
        obtain ⟨k, us, hg2, rfl, hB, hBel⟩ := hrel
        have hk2 : k ≤ t.length := by have := hg2.out; omega
        have hlo : W1.heap.size ≤ wr.heap.size := hB.out.size
        have hbw := below_then HBW.out HBW.out.size hB.out
        by_cases hlt : k < t.length
        · have cK := rkids_any A (some ⟨db, dof, none⟩) l t lc tc k HT0.out hlt ht5 wr (HL.out.kept hbw) (HTT.out.kept hbw)
          have HBEL := Lib.hid hBel
          have HB := Lib.hid hB.out
          clear hBel hB hbw
          go_wp2_with fail
          refine cK.mono ?_
          rintro e w5 ⟨u, rfl, hb5, hO⟩
          have hown := own_kept HBEL.out.own hb5
          obtain ⟨UA, ul, uc, rfl⟩ : ∃ A n c, u = .slice A n c := by
            obtain ⟨A', c', hu, _⟩ := hO.reads
            exact ⟨_, _, _, hu⟩
          have hone2 : ∀ y ∈ [Value.slice UA ul uc], y.oneCell' = true := by intro y hy; simp at hy; rw [hy]; rfl
          have HO := Lib.hid hO
          have HB5 := Lib.hid hb5
          have hs5' := hb5.size
          clear cK hO hb5
          go_wp2_with (at_builtin; refine push (.tmp 79) (.tmp 84) 80 24 (.slice none 0 0) 1 24 rfl rfl Tryd.underlying80 infoIntRow rfl (by decide) (by decide) W1.heap.size _ k us [.slice UA ul uc] rfl (hown.alloc _) _ 0 1 rfl rfl (var_cells _ _ _ _ rfl) hone2 (by omega) (by simp; omega) ?_; intro g2 cap2 w6 ho6 hg6 ha6 hlt6)
          go_roundg (t.length - (k + 1))
          case measure => have := hg2.out; omega
          case rel =>
            exact ⟨k + 1, us ++ [.slice UA ul uc], by have := hg2.out; show _ = _; omega, by go_num, (below_alloc (below_then HB.out hlo HB5.out) (by omega) _).grown hg6 (by simp; omega) (fun j hj => own_base HBEL.out.own j hj), HBEL.out.more hlo HB5.out HO.out ho6 hg6 (ha6.imp (fun h => h.symm) (fun h => by rw [h]; rfl))⟩
        · have hke : k = t.length := by omega
          subst hke
          obtain ⟨W2, rfl⟩ : ∃ x : World, x = wr := ⟨_, rfl⟩
          obtain ⟨gb, cbl, rfl, hread⟩ := hBel.read hmp
          have HREAD := Lib.hid hread
          have hH2 := HH.out.kept hB.out
          have hGS2 := HGS.out.kept hB.out
          have hGM2 := HGM.out.kept hB.out
          have hloW := hlo
          clear hBel hread hB hlo HH HGS HGM hbw
          go_wp2_with fail
          go_loopg [13, 14, 15, 16] s.length (fun gk v u14 u15 u16 wr => ∃ (f h : Nat → Nat → Bool), Aside (gk ≤ s.length) ∧ v = .int .i64 ((gk : Int) - 1) ∧ Aside (Head w2 wr xb rb (some ⟨cb, co, none⟩) (some ⟨db, dof, none⟩) s t sc tc) ∧ Aside (Fixed W1.heap.size W2 wr) ∧ Aside (Grid wr ⟨xb, 4, none⟩ s.length t.length gs cs rs f) ∧ Grid wr ⟨xb, 5, none⟩ s.length t.length gm cm rm h ∧ Aside (∀ x y, gk ≤ x → x < s.length → y < t.length → f x y = decide (subAt l s x = subAt l t y) ∧ h x y = gB l q s t x y))
          case atStart => exact ⟨_, _, Nat.le_refl _, rfl, hH2, Fixed.refl _ _, hGS2, hGM2, fun x y h1 h2 => by omega⟩
          case round =>
            clear hH2 hGS2 hGM2
            obtain ⟨f, h, hgk, rfl, hH, hF, hG, hM, hR⟩ := hrel
            have hgk' : gk ≤ s.length := hgk.out
            have hbw : Below w.heap.size w wr := below_then HB02.out HB02.out.size (by rw [← HXB.out]; exact hH.out.below)
            cases gk with
            | succ i =>
              have hi : i < s.length := by omega
              have e1 : ((i + 1 : Nat) : Int) - 1 = (i : Int) := by omega
              rw [e1]
              obtain ⟨hE, hE1, hE2⟩ := place_end HS0.out hi
              obtain ⟨e, he⟩ : ∃ e, e = endOf l s i := ⟨_, rfl⟩
              rw [← he] at hE hE1 hE2
              have HE := Lib.hid hE
              have HEE := Lib.hid he
              have cK := rkids_any A (some ⟨cb, co, none⟩) l s lc sc i HS0.out hi hs5 wr (HL.out.kept hbw) (HS.out.kept hbw)
              have HH := Lib.hid hH.out
              have HF := Lib.hid hF.out
              have HG := Lib.hid hG.out
              have HM := Lib.hid hM
              have HRR := Lib.hid hR.out
              have HBW' := Lib.hid hbw
              clear hH hF hG hM hR hE he e1 hbw
              go_wp2_with fail
              refine cK.mono ?_
              rintro e' Wi ⟨u, rfl, hbi, hO⟩
              obtain ⟨KA, ka, hu, hKA⟩ := hO.ints
              rw [casts_len] at hu
              subst hu
              have hbw2 := below_then HBW'.out HBW'.out.size hbi
              have cE := end_any A (some ⟨cb, co, none⟩) l s lc sc i e HE.out Wi (good_of (term_sig HS0.out)) (HL.out.kept hbw2) (HS.out.kept hbw2)
              have hlo : W1.heap.size ≤ wr.heap.size := Nat.le_trans hloW HF.out.size
              have hKI : ∀ w', Fixed W1.heap.size Wi w' → Ints w' KA (casts (kidN l s i)) := fun w' hf => by
                obtain ⟨A', c', hu', _, _, _, hI⟩ := hO.fixed hlo hf
                injection hu' with e1 _ _
                subst e1
                exact hI
              have HKI := Lib.hid hKI
              have hHi := HH.out.kept hbi
              have hGi := HG.out.kept hbi
              have hMi := HM.out.kept hbi
              have HFi := Lib.hid (HF.out.trans (Fixed.below hbi))
              clear cK hKI hKA hO hbi HH HF HG HM HBW' hbw2
              go_wp2_with fail
              refine cE.mono ?_
              rintro e' w' ⟨rfl, rfl⟩
              clear cE
              go_wp2_with fail
              go_loopg [16] t.length (fun gk v wr => ∃ (f h : Nat → Nat → Bool), Aside (gk ≤ t.length) ∧ v = .int .i64 ((gk : Int) - 1) ∧ Aside (Head w2 wr xb rb (some ⟨cb, co, none⟩) (some ⟨db, dof, none⟩) s t sc tc) ∧ Aside (Fixed W1.heap.size Wi wr) ∧ Aside (Grid wr ⟨xb, 4, none⟩ s.length t.length gs cs rs f) ∧ Grid wr ⟨xb, 5, none⟩ s.length t.length gm cm rm h ∧ Aside (∀ x y, x < s.length → y < t.length → (i < x ∨ (x = i ∧ gk ≤ y)) → f x y = decide (subAt l s x = subAt l t y) ∧ h x y = gB l q s t x y))
              case atStart => exact ⟨f, h, Nat.le_refl _, rfl, hHi, Fixed.refl _ _, hGi, hMi, fun x y h1 h2 h3 => HRR.out x y (by omega) h1 h2⟩
              case round =>
                clear hHi hGi hMi HRR
                obtain ⟨f, h, hgj, rfl, hH, hF, hG, hM, hR⟩ := hrel
                have hgj' : gk ≤ t.length := hgj.out
                cases gk with
                | succ j =>
                  have hj : j < t.length := by omega
                  have e1 : ((j + 1 : Nat) : Int) - 1 = (j : Int) := by omega
                  rw [e1]
                  obtain ⟨hT, hT1, hT2⟩ := place_end HT0.out hj
                  obtain ⟨ej, hej⟩ : ∃ e, e = endOf l t j := ⟨_, rfl⟩
                  rw [← hej] at hT hT1 hT2
                  have hbw : Below w.heap.size w wr := below_then HB02.out HB02.out.size (by rw [← HXB.out]; exact hH.out.below)
                  obtain ⟨bs, hbs⟩ : ∃ b, b = decide (subAt l s i = subAt l t j) := ⟨_, rfl⟩
                  obtain ⟨bg, hbg⟩ : ∃ b, b = gB l q s t i j := ⟨_, rfl⟩
                  have hsub : subAt l s i = (s.drop i).take (e - i) := by unfold subAt; rw [← HEE.out]
                  have hpl : (subAt l s i).length = e - i := by rw [hsub, List.length_take, List.length_drop]; omega
                  have hpi := HS.out.part i (e - i)
                  rw [← hsub] at hpi
                  have hsub2 : subAt l t j = (t.drop j).take (ej - j) := by unfold subAt; rw [← hej]
                  have hpl2 : (subAt l t j).length = ej - j := by rw [hsub2, List.length_take, List.length_drop]; omega
                  have hpj := HTT.out.part j (ej - j)
                  rw [← hsub2] at hpj
                  have cRow : ∀ z : Ext (Over wr), Calls Tryd.prog 30 #[.slice (some ⟨cb, co + i, none⟩) (e - i) (sc - i), .slice (some ⟨db, dof + j, none⟩) (ej - j) (tc - j)] z.val fun e w'' => e = .returned (.bool bs) ∧ Below z.val.heap.size z.val w'' := fun z => by
                    have hb1 := below_then hbw hbw.size z.ok
                    have := srow_any (some ⟨cb, co + i, none⟩) (some ⟨db, dof + j, none⟩) (subAt l s i) (subAt l t j) (sc - i) (tc - j) z.val (hpi.kept hb1) (hpj.kept hb1)
                    rw [hpl, hpl2, ← hbs] at this
                    exact this
                  have cEnd : ∀ z : Ext (Over wr), Calls Tryd.prog 17 #[.slice A l.length lc, .slice (some ⟨db, dof, none⟩) t.length tc, .int .i64 (j : Int)] z.val fun e w'' => e = .returned (.int .i64 (ej : Int)) ∧ Below z.val.heap.size z.val w'' := fun z => by
                    have hb1 := below_then hbw hbw.size z.ok
                    exact (end_any A (some ⟨db, dof, none⟩) l t lc tc j ej hT z.val (good_of (term_sig HS0.out)) (HL.out.kept hb1) (HTT.out.kept hb1)).mono (by rintro _ _ ⟨rfl, rfl⟩; exact ⟨rfl, Below.refl _ _⟩)
                  have CROW := Lib.hid cRow
                  have CEND := Lib.hid cEnd
                  have HBS := Lib.hid hbs
                  have HBG := Lib.hid hbg
                  have HH := Lib.hid hH.out
                  have HF := Lib.hid hF.out
                  have HG := Lib.hid hG.out
                  have HM := Lib.hid hM
                  have HRR := Lib.hid hR.out
                  have e1 := hG.out.head
                  have e2 := hG.out.line i hi
                  clear cRow cEnd hbs hbg hsub hpl hpi hsub2 hpl2 hpj hej hT hH hF hG hM hR hbw e1
                  have e1 := HG.out.head
                  go_wp2_with fail
                  refine wp_region_ext_tail (I := Over wr) 20 (by kernel_rfl) (by kernel_rfl) (Over.refl wr) ?_
                  have f1 := Over.cell e1
                  have f2 := Over.cell e2
                  clear e1 e2
                  simp only [List.take_succ_cons, List.take_zero, List.drop_succ_cons, List.drop_zero]
                  repeat (go_big_quiet_step (first | (go_at_call 17; exact Calls.over (CEND.out _)) | (go_at_call 30; exact Calls.over (CROW.out _))))
                  try refine wpQuiet_nil ?_
                  intro wa hwa
                  have b1 := HG.out.bit i j hi hj
                  have g1 := cell_kept hwa b1.1
                  have g2 := (hwa.frozen (p := ⟨rs i, j, none⟩) (World.block_lt_of_cell? wr _ b1.1)).trans b1.2
                  clear f1 f2 b1 CROW CEND
                  go_wp2_with fail
                  obtain ⟨wb, hwb⟩ : ∃ x, x = wa.setCell ⟨rs i, j, none⟩ (.bool bs) := ⟨_, rfl⟩
                  rw [← hwb]
                  obtain ⟨sh1, sh2, sh3⟩ := SH.out
                  obtain ⟨si1, si2, si3, si4⟩ := sh1 i hi
                  have hHb : Head w2 wb xb rb (some ⟨cb, co, none⟩) (some ⟨db, dof, none⟩) s t sc tc := by rw [hwb]; exact (HH.out.kept hwa).set si1 _
                  have hGb : Grid wb ⟨xb, 4, none⟩ s.length t.length gs cs rs (fun x y => if x = i ∧ y = j then bs else f x y) := by rw [hwb]; exact (HG.out.kept hwa).set hi hj (by show rs i ≠ xb; omega) si3 INS.out bs
                  have hMb : Grid wb ⟨xb, 5, none⟩ s.length t.length gm cm rm h := by rw [hwb]; exact (HM.out.kept hwa).far _ (by show rs i ≠ xb; omega) si4 (fun k hk => sh3 i k hi hk)
                  have hFb : Fixed W1.heap.size Wi wb := by rw [hwb]; exact (HF.out.trans (Fixed.below hwa)).set si2 _
                  have hbwb : Below w.heap.size w wb := below_then HB02.out HB02.out.size (by rw [← HXB.out]; exact hHb.below)
                  obtain ⟨KB, kb, hKB⟩ := HREAD.out j hj
                  obtain ⟨hkc, hkI⟩ := hKB wb (HFi.out.trans hFb)
                  have hTab : TabAt wb l q s t (some ⟨cb, co, none⟩) (some ⟨db, dof, none⟩) sc tc xb rb gs cs gm cm rs rm (fun x y => if x = i ∧ y = j then bs else f x y) h :=
                    ⟨hHb.c1, hHb.c2, hHb.c3, HRF.out.kept hbwb, HS.out.kept hbwb, HTT.out.kept hbwb, hGb, hMb⟩
                  have hKA2 := HKI.out wb hFb
                  have cG : ∀ z : Ext (Over wb), Calls Tryd.prog 31 #[.pointer (some ⟨xb, 0, none⟩), .int .i64 (i : Int), .int .i64 (j : Int), .slice KA (kidN l s i).length ka, .slice KB (kidN l t j).length kb] z.val fun e w'' => e = .returned (.bool bg) ∧ Below z.val.heap.size z.val w'' := fun z => by
                    rw [HBG.out]
                    refine tgreater_any l q s t (some ⟨cb, co, none⟩) (some ⟨db, dof, none⟩) sc tc xb rb gs cs gm cm rs rm _ h i j KA KB ka kb z.val hcyc HS0.out HT0.out hs5 ht5 hi hj (hTab.kept z.ok) (hKA2.kept z.ok) (hkI.kept z.ok) (fun x y hx hxs hyt => ?_) (fun x y hxs hyt hc => (HRR.out x y hxs hyt (by omega)).2)
                    show (if x = i ∧ y = j then bs else f x y) = _
                    rw [if_neg (by omega)]
                    exact (HRR.out x y hxs hyt (.inl hx)).1
                  have CG := Lib.hid cG
                  have HHb := Lib.hid hHb
                  have HGb := Lib.hid hGb
                  have HMb := Lib.hid hMb
                  have HFb := Lib.hid hFb
                  have e3 := hMb.head
                  have e4 := hMb.line i hi
                  clear cG hHb hGb hMb hFb hbwb hKB hkI hTab hKA2 g1 g2 HH HG HM HF sh1 sh2 sh3 si1 si2 si3 si4 hwa hwb
                  refine wp_region_ext_tail (I := Over wb) 17 (by kernel_rfl) (by kernel_rfl) (Over.refl wb) ?_
                  have f1 := Over.cell e3
                  have f2 := Over.cell e4
                  have f3 := Over.cell hkc
                  clear e3 e4 hkc
                  simp only [List.take_succ_cons, List.take_zero, List.drop_succ_cons, List.drop_zero]
                  repeat (go_big_quiet_step ((go_at_call 31; exact Calls.over (CG.out _))))
                  try refine wpQuiet_nil ?_
                  intro wd hwd
                  have b1 := HMb.out.bit i j hi hj
                  have g1 := cell_kept hwd b1.1
                  have g2 := (hwd.frozen (p := ⟨rm i, j, none⟩) (World.block_lt_of_cell? wb _ b1.1)).trans b1.2
                  clear f1 f2 f3 b1 CG
                  go_wp2_with fail
                  go_roundg j
                  case measure => omega
                  case rel =>
                    obtain ⟨sh1, sh2, sh3⟩ := SH.out
                    obtain ⟨si1, si2, si3, si4⟩ := sh2 i hi
                    refine ⟨_, _, (by show j ≤ _; omega), by go_num, (HHb.out.kept hwd).set si1 _, (HFb.out.trans (Fixed.below hwd)).set si2 _, (HGb.out.kept hwd).far _ (by show rm i ≠ xb; omega) si4 (fun k hk e => sh3 k i hk hi e.symm), (HMb.out.kept hwd).set hi hj (by show rm i ≠ xb; omega) si3 INM.out bg, fun x y hxs hyt hc => ?_⟩
                    by_cases hxy : x = i ∧ y = j
                    · obtain ⟨rfl, rfl⟩ := hxy
                      rw [if_pos ⟨rfl, rfl⟩, if_pos ⟨rfl, rfl⟩]
                      exact ⟨HBS.out, HBG.out⟩
                    · rw [if_neg hxy, if_neg hxy]
                      exact HRR.out x y hxs hyt (by omega)
                | zero =>
                  have HH := Lib.hid hH.out
                  have HF := Lib.hid hF.out
                  have HG := Lib.hid hG.out
                  have HM := Lib.hid hM
                  have HRR := Lib.hid hR.out
                  clear hH hF hG hM hR
                  go_wp2_with fail
                  go_roundg i
                  case measure => omega
                  case rel => exact ⟨f, h, (by show i ≤ _; omega), by go_num, HH.out, HFi.out.trans HF.out, HG.out, HM.out, fun x y h1 h2 h3 => HRR.out x y h2 h3 (by omega)⟩
            | zero =>
              have e1 := hM.head
              have e2 := hM.line 0 hnp
              have e3 := (hM.bit 0 0 hnp hmp).1
              rw [(hR.out 0 0 (Nat.le_refl _) hnp hmp).2, ← HANS.out] at e3
              clear hH hF hG hM hR
              go_wp2_with fail
              go_ret
              exact ⟨rfl, hbw⟩
set_option maxRecDepth 100000 in
set_option maxHeartbeats 4000000 in
theorem rgreater_any (A C D : Option Addr) (l : List Sy) (q : List (Int × Int)) (s t : List Int) (rb lc sc tc : Nat) (hsc : s.length ≤ sc) (htc : t.length ≤ tc) (w : World) (hcyc : ¬ Cyclic q) (hl : Sigs w A l) (hs : Ints w C s) (ht : Ints w D t) (hR : IsRef w rb l.length q) :
    Calls Tryd.prog 13 #[.slice A l.length lc, .pointer (some ⟨rb, 0, none⟩), .slice C s.length sc, .slice D t.length tc] w fun e w' => e = .returned (.bool (lg l q s t)) ∧ Below w.heap.size w w' := by
  by_cases hall : termErr l s = 0 ∧ termErr l t = 0 ∧ s.length ≤ 512 ∧ t.length ≤ 512
  · have := rgreater_main A C D l q s t rb lc sc tc hsc htc w hcyc hall.1 hall.2.1 hall.2.2.1 hall.2.2.2 hl hs ht hR
    unfold lg
    rw [if_pos hall]
    exact this
  · unfold lg
    rw [if_neg hall]
    have m1 := hs.2.1
    have m2 := ht.2.1
    have c1 := refcheck_any A C l s l.length lc s.length sc rfl rfl w hl hs
    have c2 := fun (w1 : World) (hb : Below w.heap.size w w1) => refcheck_any A D l t l.length lc t.length tc rfl rfl w1 (hl.kept hb) (ht.kept hb)
    obtain ⟨e0, he0⟩ : ∃ e, e = termErr l s := ⟨_, rfl⟩
    obtain ⟨e1, he1⟩ : ∃ e, e = termErr l t := ⟨_, rfl⟩
    rw [← he0] at c1 hall
    rw [← he1] at c2 hall
    have HC2 := Lib.hid c2
    have HALL := Lib.hid hall
    clear hl hs ht hR c2 he0 he1 hall
    by_cases h0 : e0 = 0
    · subst h0
      go_enter Tryd.func13, Tryd.ntmps13
      go_wp2_with fail
      refine c1.mono ?_
      rintro e w1 ⟨rfl, hb1⟩
      have c2 := HC2.out w1 hb1
      clear c1 HC2
      by_cases h1 : e1 = 0
      · subst h1
        by_cases h2 : (512 : Int) < (s.length : Int)
        · go_wp2_with fail
          refine c2.mono ?_
          rintro e w2 ⟨rfl, hb2⟩
          have hb02 := below_then hb1 hb1.size hb2
          clear c2
          go_wp2_with fail
          go_ret
          exact ⟨rfl, hb02⟩
        · have h3 : (512 : Int) < (t.length : Int) := by
            have := HALL.out
            apply Classical.byContradiction
            intro h3
            exact this ⟨by first | rfl | trivial, by first | rfl | trivial, by omega, by omega⟩
          go_wp2_with fail
          refine c2.mono ?_
          rintro e w2 ⟨rfl, hb2⟩
          have hb02 := below_then hb1 hb1.size hb2
          clear c2
          go_wp2_with fail
          go_ret
          exact ⟨rfl, hb02⟩
      · have q1 : (e1 != 0) = true := by simpa using h1
        clear h1
        go_wp2_with fail
        refine c2.mono ?_
        rintro e w2 ⟨rfl, hb2⟩
        have hb02 := below_then hb1 hb1.size hb2
        clear c2
        go_wp2_with fail
        go_ret
        exact ⟨rfl, hb02⟩
    · have q0 : (e0 != 0) = true := by simpa using h0
      clear h0
      go_enter Tryd.func13, Tryd.ntmps13
      go_wp2_with fail
      refine c1.mono ?_
      rintro e w1 ⟨rfl, hb1⟩
      clear c1
      go_wp2_with fail
      go_ret
      exact ⟨rfl, hb1⟩
end Go.Proofs.YthpdfkhmhaobgaaDoor
