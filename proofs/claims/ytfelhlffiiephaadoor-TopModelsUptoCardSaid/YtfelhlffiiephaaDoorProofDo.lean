/- The checker's step: the walk of proof's do. Conditions: utf8's tables as laid. -/
import Derived.Test.YtfelhlffiiephaaDoorRules
import Derived.Test.YtfelhlffiiephaaDoorSubstP
import Derived.Test.YtfelhlffiiephaaDoorApplyB
import Derived.Test.YtfelhlffiiephaaDoorSub
import Derived.Test.YtfelhlffiiephaaDoorReplace
import Derived.Test.YtfelhlffiiephaaDoorSliceEq
import Derived.Deep.RegionHeldLaw
import Derived.Deep.Cut
import Derived.BigQuiet
set_option linter.unusedVariables false
set_option linter.unusedSimpArgs false
set_option linter.unnecessarySimpa false
namespace Go.Proofs.YtfelhlffiiephaaDoor
open Go.RowKit Go.Lib

/-- What a step tells. -/
def DoPost (l : List Sy) (known : List Rl) (t : List Int) (x : Stp) (w : World) (e : Ending) (w' : World) : Prop :=
  ∃ v ok, e = .returned (.tuple #[v, .bool ok]) ∧ Below w.heap.size w w' ∧ match doStep l known t x with
    | none => ok = false
    | some u => ok = true ∧ RowO w' w.heap.size v u
theorem DoPost.no {l : List Sy} {known : List Rl} {t : List Int} {x : Stp} {w w' : World} {v : Value} (h : doBad l known t x) (hb : Below w.heap.size w w') : DoPost l known t x w (.returned (.tuple #[v, .bool false])) w' :=
  ⟨v, false, rfl, hb, by unfold doStep; rw [if_pos h]⟩
theorem DoPost.yes {l : List Sy} {known : List Rl} {t : List Int} {x : Stp} {w w' : World} {v : Value} (h : ¬ doBad l known t x) (hb : Below w.heap.size w w') (hv : RowO w' w.heap.size v (replAt l t x.at_.toNat (applied l x.binds (toOf known x)))) : DoPost l known t x w (.returned (.tuple #[v, .bool true])) w' :=
  ⟨v, true, rfl, hb, by unfold doStep; rw [if_neg h]; exact ⟨rfl, hv⟩⟩
/-- What the step's call sees. -/
structure DoAt (a5 cb : Nat) (SA : Option Addr) (l : List Sy) (sc : Nat) (KA : Option Addr) (known : List Rl) (kc : Nat) (TA : Option Addr) (t : List Int) (eq : Int) (back : Bool) (at_ : Int) (binds : List Bd) (BA : Option Addr) (bc : Nat) (w : World) : Prop where
  x0 : w.cell? ⟨a5, 0, none⟩ = some (.int .i64 eq)
  x1 : w.cell? ⟨a5, 1, none⟩ = some (.bool back)
  x2 : w.cell? ⟨a5, 2, none⟩ = some (.int .i64 at_)
  x3 : w.cell? ⟨a5, 3, none⟩ = some (.slice BA binds.length bc)
  d0 : w.cell? ⟨cb, 0, none⟩ = some (.slice SA l.length sc)
  d1 : w.cell? ⟨cb, 1, none⟩ = some (.slice KA known.length kc)
  hT : Tabs w
  hl : Sigs w SA l
  hk : Rules w KA known
  ht : Ints w TA t
  hs : Binds w BA binds
theorem DoAt.kept {a5 cb : Nat} {SA : Option Addr} {l : List Sy} {sc : Nat} {KA : Option Addr} {known : List Rl} {kc : Nat} {TA : Option Addr} {t : List Int} {eq : Int} {back : Bool} {at_ : Int} {binds : List Bd} {BA : Option Addr} {bc : Nat} {w w' : World}
    (h : DoAt a5 cb SA l sc KA known kc TA t eq back at_ binds BA bc w) (hb : Below w.heap.size w w') : DoAt a5 cb SA l sc KA known kc TA t eq back at_ binds BA bc w' :=
  ⟨cell_kept hb h.x0, cell_kept hb h.x1, cell_kept hb h.x2, cell_kept hb h.x3, cell_kept hb h.d0, cell_kept hb h.d1, h.hT.kept hb, h.hl.kept hb, h.hk.kept hb, h.ht.kept hb, h.hs.kept hb⟩
set_option maxRecDepth 100000 in
set_option maxHeartbeats 8000000 in
theorem do_any (SA : Option Addr) (l : List Sy) (sc : Nat) (hcap : l.length ≤ sc) (cb : Nat) (KA : Option Addr) (known : List Rl) (kc : Nat) (TA : Option Addr) (t : List Int) (tc : Nat) (x : Stp) (BA : Option Addr) (bc : Nat) (w : World) (hT : Tabs w) (hl : Sigs w SA l) (hk : Rules w KA known)
    (ht : RowV w (.slice TA t.length tc) t) (hxe : -9223372036854775808 ≤ x.eq ∧ x.eq ≤ 9223372036854775807) (hxa : -9223372036854775808 ≤ x.at_ ∧ x.at_ ≤ 9223372036854775807) (hbs : Binds w BA x.binds)
    (hc0 : w.cell? ⟨cb, 0, none⟩ = some (.slice SA l.length sc)) (hc1 : w.cell? ⟨cb, 1, none⟩ = some (.slice KA known.length kc)) :
    Calls Tryd.prog 23 #[.pointer (some ⟨cb, 0, none⟩), .slice TA t.length tc, .agg #[.int .i64 x.eq, .bool x.back, .int .i64 x.at_, .slice BA x.binds.length bc]] w (DoPost l known t x w) := by
  obtain ⟨htc, htn, ht8, htI⟩ := ht.get
  obtain ⟨eq, back, at_, binds⟩ := x
  simp only at hxe hxa hbs ⊢
  have hkl := hk.1
  have hbl := hbs.1
  obtain ⟨w0, hw0⟩ : ∃ x, x = w.alloc (.cells #[.int .i64 eq, .bool back, .int .i64 at_, .slice BA binds.length bc] 43) := ⟨_, rfl⟩
  have hb0 : Below w.heap.size w w0 := by rw [hw0]; exact below_alloc0 w _
  have x0 : w0.cell? ⟨w.heap.size, 0, none⟩ = some (.int .i64 eq) := by rw [hw0]; exact World.cell?_alloc_new _ _ _ 0
  have x1 : w0.cell? ⟨w.heap.size, 1, none⟩ = some (.bool back) := by rw [hw0]; exact World.cell?_alloc_new _ _ _ 1
  have x2 : w0.cell? ⟨w.heap.size, 2, none⟩ = some (.int .i64 at_) := by rw [hw0]; exact World.cell?_alloc_new _ _ _ 2
  have x3 : w0.cell? ⟨w.heap.size, 3, none⟩ = some (.slice BA binds.length bc) := by rw [hw0]; exact World.cell?_alloc_new _ _ _ 3
  have d0 := cell_kept hb0 hc0
  have d1 := cell_kept hb0 hc1
  have hT0 := hT.kept hb0
  have hl0 := hl.kept hb0
  have hk0 := hk.kept hb0
  have ht0 := htI.kept hb0
  have hs0 := hbs.kept hb0
  obtain ⟨a5, ha5⟩ : ∃ x, x = w.heap.size := ⟨_, rfl⟩
  have HB0 := Lib.hid hb0
  by_cases h1 : eq < 0
  · have hbad : doBad l known t ⟨eq, back, at_, binds⟩ := .inl h1
    have HBAD := Lib.hid hbad
    clear hbad
    have q1 : decide (eq < 0) = true := decide_eq_true h1
    go_enter Tryd.func23, Tryd.ntmps23
    go_wp2_with fail
    rw [← hw0, ← ha5]
    rw [← ha5] at x0 x1 x2 x3
    clear hw0 ha5 hb0
    refine wp_region_ext (I := Over w0) (by kernel_rfl) (by kernel_rfl) (Over.refl w0) ?_
    have f0 := Over.cell x0
    have f1 := Over.cell d1
    repeat (go_big_quiet_step (fail))
    try refine wpQuiet_nil ?_
    intro wd hwd
    clear f0 f1
    go_wp2_with fail
    go_ret2
    exact DoPost.no HBAD.out (below_then HB0.out HB0.out.size hwd)
  by_cases h2 : (known.length : Int) ≤ eq
  · have hbad : doBad l known t ⟨eq, back, at_, binds⟩ := .inr (.inl h2)
    have HBAD := Lib.hid hbad
    clear hbad
    have q1 : decide (eq < 0) = false := decide_eq_false h1
    have q2 : decide ((known.length : Int) ≤ eq) = true := decide_eq_true h2
    have q3 : decide (eq ≥ (known.length : Int)) = true := decide_eq_true h2
    go_enter Tryd.func23, Tryd.ntmps23
    go_wp2_with fail
    rw [← hw0, ← ha5]
    rw [← ha5] at x0 x1 x2 x3
    clear hw0 ha5 hb0
    refine wp_region_ext (I := Over w0) (by kernel_rfl) (by kernel_rfl) (Over.refl w0) ?_
    have f0 := Over.cell x0
    have f1 := Over.cell d1
    repeat (go_big_quiet_step (fail))
    try refine wpQuiet_nil ?_
    intro wd hwd
    clear f0 f1
    go_wp2_with fail
    go_ret2
    exact DoPost.no HBAD.out (below_then HB0.out HB0.out.size hwd)
  obtain ⟨en, rfl⟩ := Int.eq_ofNat_of_zero_le (show 0 ≤ eq by omega)
  have hen : en < known.length := by omega
  have hc : DoAt a5 cb SA l sc KA known kc TA t en back at_ binds BA bc w0 := ⟨by rw [ha5]; exact x0, by rw [ha5]; exact x1, by rw [ha5]; exact x2, by rw [ha5]; exact x3, d0, d1, hT0, hl0, hk0, ht0, hs0⟩
  have HC := Lib.hid hc
  clear hc x0 x1 x2 x3 hT hl hk htI ht hbs hc0 hc1 hT0 hl0 hk0 ht0 hs0
  have q1 : decide ((en : Int) < 0) = false := decide_eq_false h1
  have q2 : decide (known.length ≤ en) = false := decide_eq_false (by omega)
  have cS := fun (z : Ext (Over w0)) => subst_check_any SA BA l binds sc bc hcap z.val (HC.out.hl.kept z.ok) (HC.out.hs.kept z.ok) (HC.out.hT.kept z.ok)
  obtain ⟨r1, hr1⟩ : ∃ r, r = substErr l binds := ⟨_, rfl⟩
  rw [← hr1] at cS
  have HR1 := Lib.hid hr1
  have CS := Lib.hid cS
  clear hr1 cS
  go_enter Tryd.func23, Tryd.ntmps23
  go_wp2_with fail
  rw [← hw0, ← ha5]
  have HA5 := Lib.hid ha5
  clear hw0 ha5 hb0
  refine wp_region_ext (I := Over w0) (by kernel_rfl) (by kernel_rfl) (Over.refl w0) ?_
  have f0 := Over.cell HC.out.x0
  have f1 := Over.cell HC.out.x3
  have f2 := Over.cell d0
  have f3 := Over.cell d1
  have cSz := CS.out
  repeat (go_big_quiet_step ((go_at_call 37; exact Calls.over (cSz _))))
  try refine wpQuiet_nil ?_
  intro w1 hw1
  clear f0 f1 f2 f3 cSz q1 q2 d0 d1
  have HB1 := Lib.hid (below_then HB0.out HB0.out.size hw1)
  have hc := HC.out.kept hw1
  have HC1 := Lib.hid hc
  clear HC HB0 hw1 hc
  by_cases hz : r1 = 0
  · have q4 : (r1 != 0) = false := by simp [hz]
    have q5 : (r1 == 0) = true := beq_iff_eq.2 hz
    have HZ1 : Hid (substErr l binds = 0) := Lib.hid (by rw [← HR1.out]; exact hz)
    clear hz HR1 CS
    have cS := fun W h1 h2 h3 => sub_any SA TA l t sc tc at_ hxa hcap htc W h1 h2 h3 ht8
    obtain ⟨r2, hr2⟩ : ∃ r, r = placeErr l t at_ := ⟨_, rfl⟩
    rw [← hr2] at cS
    have HR2 := Lib.hid hr2
    have CS := Lib.hid cS
    clear hr2 cS
    go_wp2_with fail
    have e0 := HC1.out.d0
    have e2 := HC1.out.x2
    go_region_held_law (fun w' => w'.cell? ⟨cb, 0, none⟩ = some (.slice SA l.length sc) ∧ w'.cell? ⟨a5, 2, none⟩ = some (.int .i64 at_)) (go_keep) (
      (go_at_call 38
       (with_reducible refine (CS.out _ (HC1.out.hl.kept (below_draw (Below.refl _ _))) (HC1.out.ht.kept (below_draw (Below.refl _ _))) (HC1.out.hT.kept (below_draw (Below.refl _ _)))).mono ?_)
       rintro e w2 ⟨sv, rfl, hb2, hsv⟩
       have hb3 : Below w1.heap.size w1 w2 := below_then (below_draw (Below.refl _ _)) (Nat.le_refl _) hb2
       have HB2 := Lib.hid (below_then HB1.out HB1.out.size hb3)
       have HC2 := Lib.hid (HC1.out.kept hb3)
       have e0 := HC2.out.d0
       have e2 := HC2.out.x2
       have HSV := Lib.hid hsv
       clear hb2 hb3 hsv))
    clear CS HC1 HB1 e0 e2
    by_cases hz : r2 = 0
    · have q6 : (r2 != 0) = false := by simp [hz]
      have q7 : (r2 == 0) = true := beq_iff_eq.2 hz
      have hsv := HSV.out
      rw [if_pos hz] at hsv
      have HZ2 : Hid (placeErr l t at_ = 0) := Lib.hid (by rw [← HR2.out]; exact hz)
      obtain ⟨UA, uc, rfl, huc, hun, hu8, huI⟩ := hsv.reads
      have HUN := Lib.hid hun
      clear hz HR2 HSV hsv hun
      obtain ⟨kb, ko, fl, tl, FA, GA, fc, gc, rfl, hkv, hk1, hk2, hkf, hkg⟩ := HC2.out.hk.at_ hen
      have d1 := HC2.out.d1
      have x0 := HC2.out.x0
      have x1 := HC2.out.x1
      have HKV := Lib.hid hkv
      clear hkv
      go_wp2_with fail
      go_quiet (fail)
      clear d1 x0 hk1 hk2
      go_upto_if 70 with (fail)
      go_cut [10, 11] (fun u v wx => ∃ F A c G B d, u = .slice A F.length c ∧ v = .slice B G.length d ∧ w2.drewN nq = wx ∧ Aside (F = fromOf known ⟨en, back, at_, binds⟩) ∧ Aside (G = toOf known ⟨en, back, at_, binds⟩) ∧ Aside (RowV w2 (.slice A F.length c) F) ∧ Aside (RowV w2 (.slice B G.length d) G))
      case first =>
        cases back with
        | true =>
          go_wp2_with fail
          go_meet
          case rel => exact ⟨tl, GA, gc, fl, FA, fc, rfl, rfl, rfl, by show _ = _; unfold fromOf; simp only [Int.toNat_natCast, HKV.out]; rfl, by show _ = _; unfold toOf; simp only [Int.toNat_natCast, HKV.out]; rfl, hkg, hkf⟩
        | false =>
          go_wp2_with fail
          go_meet
          case rel => exact ⟨fl, FA, fc, tl, GA, gc, rfl, rfl, rfl, by show _ = _; unfold fromOf; simp only [Int.toNat_natCast, HKV.out]; rfl, by show _ = _; unfold toOf; simp only [Int.toNat_natCast, HKV.out]; rfl, hkf, hkg⟩
      case rest =>
        obtain ⟨F, A1, c1, G, A2, c2, rfl, rfl, rfl, hF, hG, hFV, hGV⟩ := hcut
        have HFE := Lib.hid hF.out
        have HGE := Lib.hid hG.out
        obtain ⟨w3, hw3⟩ : ∃ x, x = w2.drewN nq := ⟨_, rfl⟩
        rw [← hw3]
        have hb3 : Below w2.heap.size w2 w3 := by rw [hw3]; exact below_drawN (Below.refl _ _) _
        have HC3 := Lib.hid (HC2.out.kept hb3)
        have HB3 := Lib.hid (below_then HB2.out HB2.out.size hb3)
        have HFV := Lib.hid (hFV.out.kept hb3)
        have HGV := Lib.hid (hGV.out.kept hb3)
        have huI3 := huI.kept hb3
        clear hF hG hFV hGV hw3 hb3 hkf hkg x1 HKV huI HC2 HB2
        obtain ⟨r3, hr3⟩ : ∃ r, r = applyErr l binds F := ⟨_, rfl⟩
        have cA := fun W h1 h2 h3 h4 => apply_any SA BA A1 l binds F sc bc c1 hcap W h1 h2 h3 h4
        rw [← hr3] at cA
        have HR3 := Lib.hid hr3
        have CA := Lib.hid cA
        clear hr3 cA
        go_wp2_with fail
        have e0 := HC3.out.d0
        have e3 := HC3.out.x3
        go_region_held_law (fun w' => w'.cell? ⟨cb, 0, none⟩ = some (.slice SA l.length sc) ∧ w'.cell? ⟨a5, 3, none⟩ = some (.slice BA binds.length bc)) (go_keep) (
          (go_at_call 39
           (with_reducible refine (CA.out _ (HC3.out.hl.kept (below_draw (Below.refl _ _))) (HC3.out.hs.kept (below_draw (Below.refl _ _))) (HFV.out.get.2.2.2.kept (below_draw (Below.refl _ _))) (HC3.out.hT.kept (below_draw (Below.refl _ _)))).mono ?_)
           rintro e w4 ⟨av, rfl, hb2, hav⟩
           have hb3 : Below w3.heap.size w3 w4 := below_then (below_draw (Below.refl _ _)) (Nat.le_refl _) hb2
           have HB4 := Lib.hid (below_then HB3.out HB3.out.size hb3)
           have HC4 := Lib.hid (HC3.out.kept hb3)
           have HGV4 := Lib.hid (HGV.out.kept hb3)
           have huI4 := huI3.kept hb3
           have e0 := HC4.out.d0
           have e3 := HC4.out.x3
           have HAV := Lib.hid hav
           clear hb2 hb3 hav))
        clear CA HC3 HB3 e0 e3 HFV HGV huI3
        by_cases hz : r3 = 0
        · have q8 : (r3 != 0) = false := by simp [hz]
          have q9 : (r3 == 0) = true := beq_iff_eq.2 hz
          have HZ3 : Hid (applyErr l binds (fromOf known ⟨en, back, at_, binds⟩) = 0) := Lib.hid (by rw [← HFE.out, ← HR3.out]; exact hz)
          obtain ⟨AA, ac, rfl, hac, han, ha8, haI⟩ := HAV.out.reads
          have cE := equal_any AA UA (applied l binds F) (subAt l t at_.toNat) ac uc w4 haI huI4
          have HCE := Lib.hid cE
          clear hz HR3 HAV han haI cE
          by_cases heq : applied l binds F = subAt l t at_.toNat
          · have cE := HCE.out
            rw [decide_eq_true heq] at cE
            have HZ4 : Hid (applied l binds (fromOf known ⟨en, back, at_, binds⟩) = subAt l t at_.toNat) := Lib.hid (by rw [← HFE.out]; exact heq)
            have CE := Lib.hid cE
            clear heq HCE cE huI4
            go_wp2_with fail
            refine CE.out.mono ?_
            rintro e w5 ⟨rfl, hb5⟩
            have HC5 := Lib.hid (HC4.out.kept hb5)
            have HB5 := Lib.hid (below_then HB4.out HB4.out.size hb5)
            have HGV5 := Lib.hid (HGV4.out.kept hb5)
            clear hb5 HC4 HB4 HGV4 CE
            obtain ⟨r4, hr4⟩ : ∃ r, r = applyErr l binds G := ⟨_, rfl⟩
            have cA := fun W h1 h2 h3 h4 => apply_any SA BA A2 l binds G sc bc c2 hcap W h1 h2 h3 h4
            rw [← hr4] at cA
            have HR4 := Lib.hid hr4
            have CA := Lib.hid cA
            clear hr4 cA
            go_wp2_with fail
            have e0 := HC5.out.d0
            have e3 := HC5.out.x3
            go_region_held_law (fun w' => w'.cell? ⟨cb, 0, none⟩ = some (.slice SA l.length sc) ∧ w'.cell? ⟨a5, 3, none⟩ = some (.slice BA binds.length bc)) (go_keep) (
              (go_at_call 39
               (with_reducible refine (CA.out _ (HC5.out.hl.kept (below_draw (Below.refl _ _))) (HC5.out.hs.kept (below_draw (Below.refl _ _))) (HGV5.out.get.2.2.2.kept (below_draw (Below.refl _ _))) (HC5.out.hT.kept (below_draw (Below.refl _ _)))).mono ?_)
               rintro e w6 ⟨bv, rfl, hb2, hbv⟩
               have hb3 : Below w5.heap.size w5 w6 := below_then (below_draw (Below.refl _ _)) (Nat.le_refl _) hb2
               have HB6 := Lib.hid (below_then HB5.out HB5.out.size hb3)
               have HC6 := Lib.hid (HC5.out.kept hb3)
               have e0 := HC6.out.d0
               have e3 := HC6.out.x3
               have HBV := Lib.hid hbv
               clear hb2 hb3 hbv))
            clear CA HC5 HB5 e0 e3 HGV5
            by_cases hz : r4 = 0
            · have p8 : (r4 != 0) = false := by simp [hz]
              have p9 : (r4 == 0) = true := beq_iff_eq.2 hz
              have HZ5 : Hid (applyErr l binds (toOf known ⟨en, back, at_, binds⟩) = 0) := Lib.hid (by rw [← HGE.out, ← HR4.out]; exact hz)
              obtain ⟨VA, vc, rfl, hvc, hvn, hv8, hvI⟩ := HBV.out.reads
              have HVN := Lib.hid hvn
              clear hz HR4 HBV hvn
              obtain ⟨r5, hr5⟩ : ∃ r, r = replErr l t at_ (applied l binds G) := ⟨_, rfl⟩
              have cR := fun W h1 h2 h3 h4 => replace_any SA TA VA l t (applied l binds G) sc tc vc at_ hxa hcap htc hvc HVN.out W h1 h2 h3 h4 ht8 hv8
              rw [← hr5] at cR
              have HR5 := Lib.hid hr5
              have CR := Lib.hid cR
              clear hr5 cR
              go_wp2_with fail
              have e0 := HC6.out.d0
              have e2 := HC6.out.x2
              go_region_held_law (fun w' => w'.cell? ⟨cb, 0, none⟩ = some (.slice SA l.length sc) ∧ w'.cell? ⟨a5, 2, none⟩ = some (.int .i64 at_)) (go_keep) (
                (go_at_call 40
                 (with_reducible refine (CR.out _ (HC6.out.hl.kept (below_draw (Below.refl _ _))) (HC6.out.ht.kept (below_draw (Below.refl _ _))) (hvI.kept (below_draw (Below.refl _ _))) (HC6.out.hT.kept (below_draw (Below.refl _ _)))).mono ?_)
                 rintro e w7 ⟨rv, rfl, hb2, hrv⟩
                 have hb3 : Below w6.heap.size w6 w7 := below_then (below_draw (Below.refl _ _)) (Nat.le_refl _) hb2
                 have HB7 := Lib.hid (below_then HB6.out HB6.out.size hb3)
                 have hle := HB6.out.size
                 have HC7 := Lib.hid (HC6.out.kept hb3)
                 have e0 := HC7.out.d0
                 have e2 := HC7.out.x2
                 have HRV := Lib.hid hrv
                 clear hb2 hb3 hrv))
              by_cases hz : r5 = 0
              · have hno : ¬ doBad l known t ⟨(en : Int), back, at_, binds⟩ := by
                  rintro (h | h | h | h | h | h | h | h)
                  · have h' : (en : Int) < 0 := h
                    omega
                  · have h' : (known.length : Int) ≤ (en : Int) := h
                    omega
                  · exact h HZ1.out
                  · exact h HZ2.out
                  · exact h HZ3.out
                  · exact h HZ4.out
                  · exact h HZ5.out
                  · exact h (by show replErr l t at_ (applied l binds (toOf known ⟨en, back, at_, binds⟩)) = 0; rw [← HGE.out, ← HR5.out]; exact hz)
                have hrv := HRV.out
                rw [if_pos hz] at hrv
                have hfin : DoPost l known t ⟨(en : Int), back, at_, binds⟩ w (.returned (.tuple #[rv, .bool true])) w7 := DoPost.yes hno HB7.out (by show RowO _ _ _ (replAt l t at_.toNat (applied l binds (toOf known ⟨en, back, at_, binds⟩))); rw [← HGE.out]; exact hrv.base hle)
                have HFIN := Lib.hid hfin
                have p6 : (r5 == 0) = true := beq_iff_eq.2 hz
                clear hno hrv hz hfin HRV
                go_wp2_with fail
                go_ret2
                exact HFIN.out
              · have hbad : doBad l known t ⟨(en : Int), back, at_, binds⟩ := .inr (.inr (.inr (.inr (.inr (.inr (.inr (by show replErr l t at_ (applied l binds (toOf known ⟨en, back, at_, binds⟩)) ≠ 0; rw [← HGE.out, ← HR5.out]; exact hz)))))))
                have p6 : (r5 == 0) = false := beq_eq_false_iff_ne.2 hz
                have HBAD := Lib.hid hbad
                clear hbad hz HRV
                go_wp2_with fail
                go_ret2
                exact DoPost.no HBAD.out HB7.out
            · have hbad : doBad l known t ⟨(en : Int), back, at_, binds⟩ := .inr (.inr (.inr (.inr (.inr (.inr (.inl (by show applyErr l binds (toOf known ⟨en, back, at_, binds⟩) ≠ 0; rw [← HGE.out, ← HR4.out]; exact hz)))))))
              have p8 : (r4 != 0) = true := bne_iff_ne.2 hz
              have p9 : (r4 == 0) = false := beq_eq_false_iff_ne.2 hz
              have HBAD := Lib.hid hbad
              clear hbad hz
              go_wp2_with fail
              go_ret2
              exact DoPost.no HBAD.out HB6.out
          · have cE := HCE.out
            rw [decide_eq_false heq] at cE
            have hbad : doBad l known t ⟨(en : Int), back, at_, binds⟩ := .inr (.inr (.inr (.inr (.inr (.inl (by show applied l binds (fromOf known ⟨en, back, at_, binds⟩) ≠ subAt l t at_.toNat; rw [← HFE.out]; exact heq))))))
            have HBAD := Lib.hid hbad
            have CE := Lib.hid cE
            clear hbad heq HCE cE huI4
            go_wp2_with fail
            refine CE.out.mono ?_
            rintro e w5 ⟨rfl, hb5⟩
            go_wp2_with fail
            go_ret2
            exact DoPost.no HBAD.out (below_then HB4.out HB4.out.size hb5)
        · have hbad : doBad l known t ⟨(en : Int), back, at_, binds⟩ := .inr (.inr (.inr (.inr (.inl (by show applyErr l binds (fromOf known ⟨en, back, at_, binds⟩) ≠ 0; rw [← HFE.out, ← HR3.out]; exact hz)))))
          have q8 : (r3 != 0) = true := bne_iff_ne.2 hz
          have q9 : (r3 == 0) = false := beq_eq_false_iff_ne.2 hz
          have HBAD := Lib.hid hbad
          clear hbad hz
          go_wp2_with fail
          go_ret2
          exact DoPost.no HBAD.out HB4.out
    · have hbad : doBad l known t ⟨(en : Int), back, at_, binds⟩ := .inr (.inr (.inr (.inl (by show placeErr l t at_ ≠ 0; rw [← HR2.out]; exact hz))))
      have q6 : (r2 != 0) = true := bne_iff_ne.2 hz
      have q7 : (r2 == 0) = false := beq_eq_false_iff_ne.2 hz
      have HBAD := Lib.hid hbad
      clear hbad hz
      go_wp2_with fail
      go_ret2
      exact DoPost.no HBAD.out HB2.out
  · have hbad : doBad l known t ⟨(en : Int), back, at_, binds⟩ := .inr (.inr (.inl (by show substErr l binds ≠ 0; rw [← HR1.out]; exact hz)))
    have q4 : (r1 != 0) = true := bne_iff_ne.2 hz
    have q5 : (r1 == 0) = false := beq_eq_false_iff_ne.2 hz
    have HBAD := Lib.hid hbad
    clear hbad hz
    go_wp2_with fail
    go_ret2
    exact DoPost.no HBAD.out HB1.out
end Go.Proofs.YtfelhlffiiephaaDoor
