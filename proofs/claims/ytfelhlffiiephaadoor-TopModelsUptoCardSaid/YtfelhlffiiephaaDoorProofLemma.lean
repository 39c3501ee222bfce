/- The checker's lemma: the walk of proof's lemma. Conditions: utf8's tables as laid. -/
import Derived.Test.YtfelhlffiiephaaDoorProofDo
import Derived.Test.YtfelhlffiiephaaDoorTree
set_option linter.unusedVariables false
set_option linter.unusedSimpArgs false
set_option linter.unnecessarySimpa false
namespace Go.Proofs.YtfelhlffiiephaaDoor
open Go.RowKit Go.Lib

/-- What the lemma's call sees. -/
structure LemAt (a3 cb : Nat) (SA : Option Addr) (l : List Sy) (sc : Nat) (KA : Option Addr) (known : List Rl) (kc : Nat) (x : Lem) (LA RA TA : Option Addr) (lc rc tc : Nat) (w : World) : Prop where
  x0 : w.cell? ⟨a3, 0, none⟩ = some (.slice LA x.L.length lc)
  x1 : w.cell? ⟨a3, 1, none⟩ = some (.slice RA x.R.length rc)
  x2 : w.cell? ⟨a3, 2, none⟩ = some (.slice TA x.steps.length tc)
  d0 : w.cell? ⟨cb, 0, none⟩ = some (.slice SA l.length sc)
  d1 : w.cell? ⟨cb, 1, none⟩ = some (.slice KA known.length kc)
  hT : Tabs w
  hl : Sigs w SA l
  hk : Rules w KA known
  hL : RowV w (.slice LA x.L.length lc) x.L
  hR : RowV w (.slice RA x.R.length rc) x.R
  hS : Steps w TA x.steps
theorem LemAt.kept {a3 cb : Nat} {SA : Option Addr} {l : List Sy} {sc : Nat} {KA : Option Addr} {known : List Rl} {kc : Nat} {x : Lem} {LA RA TA : Option Addr} {lc rc tc : Nat} {w w' : World}
    (h : LemAt a3 cb SA l sc KA known kc x LA RA TA lc rc tc w) (hb : Below w.heap.size w w') : LemAt a3 cb SA l sc KA known kc x LA RA TA lc rc tc w' :=
  ⟨cell_kept hb h.x0, cell_kept hb h.x1, cell_kept hb h.x2, cell_kept hb h.d0, cell_kept hb h.d1, h.hT.kept hb, h.hl.kept hb, h.hk.kept hb, h.hL.kept hb, h.hR.kept hb, h.hS.kept hb⟩
theorem steps_drop {α : Type} {l : List α} {d : α} {k : Nat} (h : k < l.length) : l.drop k = l.getD k d :: l.drop (k + 1) := by
  rw [List.drop_eq_getElem_cons h]; simp [List.getD_eq_getElem?_getD, List.getElem?_eq_getElem h]
set_option maxRecDepth 100000 in
set_option maxHeartbeats 8000000 in
theorem lemma_any (SA : Option Addr) (l : List Sy) (sc : Nat) (hcap : l.length ≤ sc) (cb : Nat) (KA : Option Addr) (known : List Rl) (kc : Nat) (x : Lem) (LA RA TA : Option Addr) (lc rc tc : Nat) (w : World) (hT : Tabs w) (hl : Sigs w SA l) (hk : Rules w KA known)
    (hL : RowV w (.slice LA x.L.length lc) x.L) (hR : RowV w (.slice RA x.R.length rc) x.R) (hS : Steps w TA x.steps)
    (hc0 : w.cell? ⟨cb, 0, none⟩ = some (.slice SA l.length sc)) (hc1 : w.cell? ⟨cb, 1, none⟩ = some (.slice KA known.length kc)) :
    Calls Tryd.prog 12 #[.pointer (some ⟨cb, 0, none⟩), .agg #[.slice LA x.L.length lc, .slice RA x.R.length rc, .slice TA x.steps.length tc]] w fun e w' => e = .returned (.int .i64 (lemmaErr l known x)) ∧ Below w.heap.size w w' := by
  obtain ⟨w0, hw0⟩ : ∃ y, y = w.alloc (.cells #[.slice LA x.L.length lc, .slice RA x.R.length rc, .slice TA x.steps.length tc] 46) := ⟨_, rfl⟩
  have hb0 : Below w.heap.size w w0 := by rw [hw0]; exact below_alloc0 w _
  obtain ⟨a3, ha3⟩ : ∃ x, x = w.heap.size := ⟨_, rfl⟩
  have hc : LemAt a3 cb SA l sc KA known kc x LA RA TA lc rc tc w0 :=
    ⟨by rw [hw0, ha3]; exact World.cell?_alloc_new _ _ _ 0, by rw [hw0, ha3]; exact World.cell?_alloc_new _ _ _ 1, by rw [hw0, ha3]; exact World.cell?_alloc_new _ _ _ 2, cell_kept hb0 hc0, cell_kept hb0 hc1, hT.kept hb0, hl.kept hb0, hk.kept hb0, hL.kept hb0, hR.kept hb0, hS.kept hb0⟩
  have hsl := hS.1
  have hLl : x.L.length ≤ 140737488355328 := by have := hL.get.2.2.1; omega
  have hRl : x.R.length ≤ 140737488355328 := by have := hR.get.2.2.1; omega
  have HC := Lib.hid hc
  have HB0 := Lib.hid hb0
  obtain ⟨res, hres⟩ : ∃ r, r = lemmaErr l known x := ⟨_, rfl⟩
  rw [← hres]
  have HRES := Lib.hid hres
  clear hc hT hl hk hL hR hS hc0 hc1 hb0 hres
  go_enter Tryd.func12, Tryd.ntmps12
  have x0 := HC.out.x0
  have x1 := HC.out.x1
  go_wp2_with fail
  rw [← hw0, ← ha3]
  obtain ⟨w1, hw1⟩ : ∃ y, y = w0.alloc (.cells #[.slice LA x.L.length lc, .slice RA x.R.length rc] 38) := ⟨_, rfl⟩
  have hs1 : w0.heap.size = a3 + 1 := by rw [hw0, ha3]; simp
  have y0 : w1.cell? ⟨a3 + 1, 0, none⟩ = some (.slice LA x.L.length lc) := by rw [hw1, ← hs1]; exact World.cell?_alloc_new _ _ _ 0
  have y1 : w1.cell? ⟨a3 + 1, 1, none⟩ = some (.slice RA x.R.length rc) := by rw [hw1, ← hs1]; exact World.cell?_alloc_new _ _ _ 1
  have hb1 : Below w0.heap.size w0 w1 := by rw [hw1]; exact below_alloc0 w0 _
  rw [← hw1]
  obtain ⟨a4, ha4⟩ : ∃ y, y = a3 + 1 := ⟨_, rfl⟩
  rw [← ha4] at y0 y1
  rw [← ha4]
  have HC1 := Lib.hid (HC.out.kept hb1)
  have HB1 := Lib.hid (below_then HB0.out HB0.out.size hb1)
  clear hw0 hw1 hs1 ha3 ha4 hb1 HC HB0 x0 x1
  go_loopg [6, 18] 2 (fun gk v6 v wr => ∃ k : Nat, Aside (gk + k = 2) ∧ v = .int .i64 k ∧ Below w1.heap.size w1 wr ∧ Aside (1 ≤ k → ¬ sideBad l x.L) ∧ Aside (2 ≤ k → ¬ sideBad l x.R))
  case atStart => exact ⟨0, (rfl : 2 + 0 = 2), rfl, Below.refl _ _, (fun h => by omega : 1 ≤ 0 → _), (fun h => by omega : 2 ≤ 0 → _)⟩
  case round =>
    obtain ⟨k, hg, rfl, hB, hk1, hk2⟩ := hrel
    have HK1 := Lib.hid hk1.out
    have HK2 := Lib.hid hk2.out
    have HCr := Lib.hid (HC1.out.kept hB)
    have HBr := Lib.hid (below_then HB1.out HB1.out.size hB)
    have y0r := cell_kept hB y0
    have y1r := cell_kept hB y1
    clear hk1 hk2
    have hk : k ≤ 2 := by have := hg.out; omega
    rcases (show k = 0 ∨ k = 1 ∨ k = 2 by omega) with rfl | rfl | rfl
    · obtain ⟨h1, h2, h3, h4⟩ := HCr.out.hL.get
      have cC := check_any SA LA l x.L l.length sc x.L.length lc rfl rfl hcap wr HCr.out.hl h4 HCr.out.hT
      have d0 := HCr.out.d0
      obtain ⟨r, hr⟩ : ∃ r, r = termErr l x.L := ⟨_, rfl⟩
      rw [← hr] at cC
      have HR := Lib.hid hr
      have CC := Lib.hid cC
      clear hr cC h2 h3 h4
      by_cases hz : r = 0
      · have q1 : (r != 0) = false := by simp [hz]
        have HZ := Lib.hid hz
        clear hz
        by_cases h5 : 512 < x.L.length
        · go_wp2_with (go_at_call 11; refine CC.out.mono ?_; rintro e w2 ⟨rfl, hb2⟩)
          go_ret
          exact ⟨by rw [HRES.out]; unfold lemmaErr; rw [if_pos (.inl (.inr h5))]; rfl, below_then HBr.out HBr.out.size hb2⟩
        · go_wp2_with (go_at_call 11; refine CC.out.mono ?_; rintro e w2 ⟨rfl, hb2⟩)
          go_roundg 1
          case measure => have := hg.out; omega
          case rel => exact ⟨1, (rfl : 1 + 1 = 2), by go_num, below_then hB hB.size hb2, fun _ => by rintro (h | h); exact h (by rw [← HR.out]; exact HZ.out); exact h5 h, (fun h => by omega : 2 ≤ 1 → _)⟩
      · have q1 : (r != 0) = true := bne_iff_ne.2 hz
        have HZ := Lib.hid hz
        clear hz
        go_wp2_with (go_at_call 11; refine CC.out.mono ?_; rintro e w2 ⟨rfl, hb2⟩)
        go_ret
        exact ⟨by rw [HRES.out]; unfold lemmaErr; rw [if_pos (.inl (.inl (by rw [← HR.out]; exact HZ.out)))]; rfl, below_then HBr.out HBr.out.size hb2⟩
    · obtain ⟨h1, h2, h3, h4⟩ := HCr.out.hR.get
      have cC := check_any SA RA l x.R l.length sc x.R.length rc rfl rfl hcap wr HCr.out.hl h4 HCr.out.hT
      have d0 := HCr.out.d0
      obtain ⟨r, hr⟩ : ∃ r, r = termErr l x.R := ⟨_, rfl⟩
      rw [← hr] at cC
      have HR := Lib.hid hr
      have CC := Lib.hid cC
      clear hr cC h2 h3 h4
      by_cases hz : r = 0
      · have q1 : (r != 0) = false := by simp [hz]
        have HZ := Lib.hid hz
        clear hz
        by_cases h5 : 512 < x.R.length
        · go_wp2_with (go_at_call 11; refine CC.out.mono ?_; rintro e w2 ⟨rfl, hb2⟩)
          go_ret
          exact ⟨by rw [HRES.out]; unfold lemmaErr; rw [if_pos (.inr (.inr h5))]; rfl, below_then HBr.out HBr.out.size hb2⟩
        · go_wp2_with (go_at_call 11; refine CC.out.mono ?_; rintro e w2 ⟨rfl, hb2⟩)
          go_roundg 0
          case measure => have := hg.out; omega
          case rel => exact ⟨2, (rfl : 0 + 2 = 2), by go_num, below_then hB hB.size hb2, fun _ => HK1.out (Nat.le_refl _), fun _ => by rintro (h | h); exact h (by rw [← HR.out]; exact HZ.out); exact h5 h⟩
      · have q1 : (r != 0) = true := bne_iff_ne.2 hz
        have HZ := Lib.hid hz
        clear hz
        go_wp2_with (go_at_call 11; refine CC.out.mono ?_; rintro e w2 ⟨rfl, hb2⟩)
        go_ret
        exact ⟨by rw [HRES.out]; unfold lemmaErr; rw [if_pos (.inr (.inl (by rw [← HR.out]; exact HZ.out)))]; rfl, below_then HBr.out HBr.out.size hb2⟩
    · have hLR : ¬ (sideBad l x.L ∨ sideBad l x.R) := by
        rintro (h | h)
        · exact HK1.out (by omega) h
        · exact HK2.out (by omega) h
      have hres : res = endErr x.R (goSteps l known x.L x.steps) := by rw [HRES.out]; unfold lemmaErr; rw [if_neg hLR]
      have HRS := Lib.hid hres
      have x0 := HCr.out.x0
      have x2 := HCr.out.x2
      clear hLR hres HK1 HK2 HRES y0 y1 y0r y1r hB HC1 HB1
      go_wp2_with fail
      go_loopg [7, 9, 40] x.steps.length (fun gk v7 v9 v ws => ∃ (k : Nat) (cur : List Int) (CA : Option Addr) (cc : Nat), Aside (gk + k = x.steps.length) ∧ v = .int .i64 k ∧ v7 = .slice CA cur.length cc ∧ Below wr.heap.size wr ws ∧ Aside (RowV ws (.slice CA cur.length cc) cur) ∧ Aside (goSteps l known x.L x.steps = goSteps l known cur (x.steps.drop k)))
      case atStart => exact ⟨0, x.L, LA, lc, (rfl : x.steps.length + 0 = _), rfl, rfl, Below.refl _ _, HCr.out.hL, rfl⟩
      case round =>
        clear x0 x2
        obtain ⟨k, cur, CA, cc, hg, rfl, rfl, hB, hV, hE⟩ := hrel
        obtain ⟨wk, rfl⟩ : ∃ x : World, x = wr := ⟨_, rfl⟩
        have hk : k ≤ x.steps.length := by have := hg.out; omega
        have HCk := Lib.hid (HCr.out.kept hB)
        have HBk := Lib.hid (below_then HBr.out HBr.out.size hB)
        have HE := Lib.hid hE.out
        have HV := Lib.hid hV.out
        have hcl : cur.length ≤ 140737488355328 := by have := hV.out.get.2.2.1; omega
        clear hE hV
        by_cases hlt : k < x.steps.length
        · obtain ⟨sb, so, y, BA, bc, rfl, hy, r1, r2, s0, s1, s2, s3, hbs⟩ := HCk.out.hS.at_ hlt
          have hne : goSteps l known cur (x.steps.drop k) = match doStep l known cur y with
              | none => none
              | some u => goSteps l known u (x.steps.drop (k + 1)) := by rw [steps_drop (d := stp0) hlt, hy]; rfl
          have hal := below_alloc0 wk (.cells #[.int .i64 y.eq, .bool y.back, .int .i64 y.at_, .slice BA y.binds.length bc] 43)
          have cD := do_any SA l sc hcap cb KA known kc CA cur cc y BA bc _ (HCk.out.hT.kept hal) (HCk.out.hl.kept hal) (HCk.out.hk.kept hal) (HV.out.kept hal) r1 r2 (hbs.kept hal) (cell_kept hal HCk.out.d0) (cell_kept hal HCk.out.d1)
          have HNE := Lib.hid hne
          have CD := Lib.hid cD
          have HAL := Lib.hid hal
          obtain ⟨y, back, at_, binds⟩ := y
          clear hy hne cD hal hbs
          go_wp2_with fail
          refine CD.out.mono ?_
          rintro e w2 ⟨v, ok, rfl, hb2, hm⟩
          cases hd : doStep l known cur ⟨y, back, at_, binds⟩ with
          | none =>
            rw [hd] at hm
            subst hm
            have hres : res = 191 := by rw [HRS.out, HE.out, HNE.out, hd]; rfl
            have HRES := Lib.hid hres
            clear hd hres
            go_wp2_with fail
            go_ret
            exact ⟨by rw [HRES.out]; rfl, below_then HBk.out HBk.out.size (below_then HAL.out HAL.out.size hb2)⟩
          | some u =>
            rw [hd] at hm
            obtain ⟨rfl, hv⟩ := hm
            obtain ⟨VA, vc, rfl, hvr⟩ : ∃ VA vc, v = .slice VA u.length vc ∧ RowV w2 (.slice VA u.length vc) u := by
              obtain ⟨VA, vc, h1, h2⟩ := hv.reads
              subst h1
              exact ⟨VA, vc, rfl, VA, vc, rfl, h2⟩
            have hnx : goSteps l known x.L x.steps = goSteps l known u (x.steps.drop (k + 1)) := by rw [HE.out, HNE.out, hd]
            have HNX := Lib.hid hnx
            have HVR := Lib.hid hvr
            clear hd hnx hv hvr
            go_wp2_with fail
            go_roundg (x.steps.length - (k + 1))
            case measure => have := hg.out; omega
            case rel => exact ⟨k + 1, u, VA, vc, by have := hg.out; show _ = _; omega, by go_num, rfl, below_then hB hB.size (below_then HAL.out HAL.out.size hb2), HVR.out, HNX.out⟩
        · have hke : k = x.steps.length := by omega
          subst hke
          have hre : res = if cur = x.R then 0 else 192 := by rw [HRS.out, HE.out, List.drop_length]; rfl
          have HRE := Lib.hid hre
          have x1 := HCk.out.x1
          have cE := equal_any CA RA cur x.R cc rc wk HV.out.get.2.2.2 HCk.out.hR.get.2.2.2
          clear hre HRS HE
          by_cases heq : cur = x.R
          · rw [decide_eq_true heq] at cE
            have hr0 : res = 0 := by rw [HRE.out, if_pos heq]
            have HR0 := Lib.hid hr0
            have CE := Lib.hid cE
            clear heq hr0 cE
            go_wp2_with fail
            refine CE.out.mono ?_
            rintro e w2 ⟨rfl, hb2⟩
            go_wp2_with fail
            go_ret
            exact ⟨by rw [HR0.out]; rfl, below_then HBk.out HBk.out.size hb2⟩
          · rw [decide_eq_false heq] at cE
            have hr0 : res = 192 := by rw [HRE.out, if_neg heq]
            have HR0 := Lib.hid hr0
            have CE := Lib.hid cE
            clear heq hr0 cE
            go_wp2_with fail
            refine CE.out.mono ?_
            rintro e w2 ⟨rfl, hb2⟩
            go_wp2_with fail
            go_ret
            exact ⟨by rw [HR0.out]; rfl, below_then HBk.out HBk.out.size hb2⟩
end Go.Proofs.YtfelhlffiiephaaDoor
