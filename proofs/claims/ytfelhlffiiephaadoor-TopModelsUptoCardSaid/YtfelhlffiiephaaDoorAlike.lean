/- Whether two terms are worth the same: the walks of the algebra's alike and of term. Conditions: none. -/
import Derived.Test.YtfelhlffiiephaaDoorWorth
set_option linter.unusedVariables false
set_option linter.unusedSimpArgs false
set_option linter.unnecessarySimpa false
namespace Go.Proofs.YtfelhlffiiephaaDoor
open Go.RowKit Go.Lib

theorem made_zero {w1 w3 : World} (T : TypeId) (hb : Below w1.heap.size w1 w3) : Made w1.heap.size w1 (w3.alloc (.cells #[.int .i64 0, .slice none 0 0] T)) w3.heap.size 0 none 0 [] :=
  made_late T hb 0 none 0 [] (pairs_nil _) (fun _ => ⟨rfl, rfl⟩) (fun a h => by cases h)
theorem made_zero' {w1 : World} (T : TypeId) : Made w1.heap.size w1 (w1.alloc (.cells #[.int .i64 0, .slice none 0 0] T)).drew w1.heap.size 0 none 0 [] := by
  have h := made_zero (w1 := w1) (w3 := w1) T (Below.refl _ _)
  exact ⟨below_draw h.below, h.lo, h.lt, h.c0, h.c1, h.f0, h.f1, h.pairs, h.nil, h.fresh⟩
theorem made_ne {n0 : Nat} {w1 w : World} {b : Nat} {x : Int} {A : Option Addr} {c : Nat} {l : List (Int × Int)} (h : Made n0 w1 w b x A c l) {a : Nat} (ha : a < n0) : ¬ b = a := by have := h.lo; omega
theorem made_new_ne {n0 : Nat} {w1 w : World} {b : Nat} {x : Int} {A : Option Addr} {c : Nat} {l : List (Int × Int)} (h : Made n0 w1 w b x A c l) (hn : n0 ≤ w.heap.size) {B : Option Addr} (hB : ∀ a, B = some a → w.heap.size ≤ a.block) : ∀ a, B = some a → b ≠ a.block ∧ n0 ≤ a.block := fun a ha => by
  have h1 := hB a ha
  have h2 := h.lt
  omega
theorem Made.lay {n0 : Nat} {w1 w : World} {b : Nat} {x : Int} {A : Option Addr} {c : Nat} {l : List (Int × Int)} (k : Made n0 w1 w b x A c l) {y : Int} {B : Option Addr} {d : Nat} {r : List (Int × Int)} (hB : Pairs w B r) (hBn : B = none → r.length = 0 ∧ d = 0) (hnew : ∀ a, B = some a → b ≠ a.block ∧ n0 ≤ a.block) :
    Made n0 w1 ((w.setCell ⟨b, 0, none⟩ (.int .i64 y)).setCell ⟨b, 1, none⟩ (.slice B r.length d)) b y B d r := by
  refine ⟨below_set (below_set k.below k.lo _) k.lo _, k.lo, Nat.lt_of_lt_of_le k.lt (by rw [World.size_setCell, World.size_setCell]; exact Nat.le_refl _), ?_, ?_, ?_, ?_, ?_, hBn, fun a ha => (hnew a ha).2⟩
  · rw [set_off (by decide)]; exact set_same k.c0
  · exact set_same (by rw [set_off (by decide)]; exact k.c1)
  · rw [World.frozen?_setCell, World.frozen?_setCell]; exact k.f0
  · rw [World.frozen?_setCell, World.frozen?_setCell]; exact k.f1
  · refine ⟨hB.1, fun h0 => ?_⟩
    obtain ⟨b2, off, rfl, hc⟩ := hB.2 h0
    have hne : b ≠ b2 := (hnew _ rfl).1
    exact ⟨b2, off, rfl, fun k hk => ⟨by rw [set_blk hne, set_blk hne]; exact (hc k hk).1, by rw [set_blk hne, set_blk hne]; exact (hc k hk).2⟩⟩
theorem alike_worth (M : Int) (lins : List (List Int)) (a b : Tm) (x y : Int) (p q : List (Int × Int)) (h : Rep (modOf M) (fun ρ => a.val (facOf M lins) ρ) x p) (g : Rep (modOf M) (fun ρ => b.val (facOf M lins) ρ) y q) :
    ((x + (modOf M - 1) * y) % modOf M = 0 ∧ ∀ z, z ∈ addAll (modOf M) (modOf M - 1) p q → z.2 = 0) ↔ Worth (modOf M) (facOf M lins) a b := by
  have hm := modOf_range M
  exact rep_alike (by omega) (h.plus (k := modOf M - 1) (by omega) g)
/-- What is told of two terms. -/
def AlikeRes (l : List Sy) (M : Int) (lins : List (List Int)) (t u : List Int) (e : Ending) : Prop := ∃ r : Bool, e = .returned (.bool r) ∧ (r = true ↔ RowWorth l (modOf M) (facOf M lins) t u)
set_option maxRecDepth 100000 in
set_option maxHeartbeats 8000000 in
theorem alike_any (M : Int) (LA : Option Addr) (lins : List (List Int)) (lc : Nat) (hM : -9223372036854775808 ≤ M ∧ M ≤ 9223372036854775807) (A : Option Addr) (l : List Sy) (sc : Nat) (B C : Option Addr) (t u : List Int) (tc uc : Nat) (w : World)
    (ht5 : t.length ≤ 400) (hu5 : u.length ≤ 400) (htc : t.length ≤ tc) (huc : u.length ≤ uc) (hte : termErr l t = 0) (hue : termErr l u = 0) (hL : RowsIn w LA lins) (hl : Sigs w A l) (ht : Ints w B t) (hu : Ints w C u) :
    Calls Tryd.prog 9 #[.agg #[.int .i64 M, .slice LA lins.length lc], .slice A l.length sc, .slice B t.length tc, .slice C u.length uc] w fun e w' =>
      AlikeRes l M lins t u e ∧ Below w.heap.size w w' := by
  have cT := fun W h1 h2 h3 => worth_any M LA lins lc hM A l sc t.length B t tc W (Nat.le_refl _) (by omega) htc hte h1 h2 h3
  have cU := fun W h1 h2 h3 => worth_any M LA lins lc hM A l sc u.length C u uc W (Nat.le_refl _) (by omega) huc hue h1 h2 h3
  have cM := fun (W : World) => mod_any M (.slice LA lins.length lc) hM W
  have hmr := modOf_range M
  obtain ⟨k, hk⟩ : ∃ k, k = modOf M - 1 := ⟨_, rfl⟩
  obtain ⟨m, hm⟩ : ∃ m, m = modOf M := ⟨_, rfl⟩
  rw [← hm] at cM hk
  have hkm : 1 ≤ k ∧ k ≤ 4 := by omega
  have hm5 : 2 ≤ m ∧ m ≤ 5 := by omega
  have s1 : IntKind.i64.wrap (m - 1) = k := by rw [IntKind.wrap_i64]; omega
  have S1 := Lib.hid s1
  have HK := Lib.hid hk
  have HM := Lib.hid hm
  have CT := Lib.hid cT
  have CU := Lib.hid cU
  have CM := Lib.hid cM
  clear cT cU cM hk hm hmr s1
  go_enter Tryd.func9, Tryd.ntmps9
  go_wp2_with fail
  obtain ⟨w0, hw0⟩ : ∃ x, x = w.alloc (.cells #[.int .i64 M, .slice LA lins.length lc] 26) := ⟨_, rfl⟩
  rw [← hw0]
  have hb0 : Below w.heap.size w w0 := by rw [hw0]; exact below_alloc0 w _
  have x0s : w0.cell? ⟨w.heap.size, 0, none⟩ = some (.int .i64 M) := by rw [hw0]; exact World.cell?_alloc_new _ _ _ 0
  have x1s : w0.cell? ⟨w.heap.size, 1, none⟩ = some (.slice LA lins.length lc) := by rw [hw0]; exact World.cell?_alloc_new _ _ _ 1
  have hL0 := hL.kept hb0
  have hl0 := hl.kept hb0
  have ht0 := ht.kept hb0
  have hu0 := hu.kept hb0
  have hs0 : w.heap.size < w0.heap.size := by rw [hw0]; simp
  obtain ⟨a4, ha4⟩ : ∃ x, x = w.heap.size := ⟨_, rfl⟩
  rw [← ha4] at x0s x1s hs0
  rw [← ha4]
  have HA4 := Lib.hid ha4
  have HB0 := Lib.hid hb0
  clear hw0 ha4 hb0 hL hl ht hu
  go_cut [9] (fun v wx => ∃ b9 x A c ls, v = .pointer (some ⟨b9, 0, none⟩) ∧ Aside (Made w0.heap.size w0 wx b9 x A c ls) ∧ Aside ((x = 0 ∧ ∀ z, z ∈ ls → z.2 = 0) ↔ RowWorth l (modOf M) (facOf M lins) t u) ∧ Aside (ls.length ≤ 1000))
  case first =>
    have n1 : ¬ w0.heap.size = a4 := by omega
    have HBS := Lib.hid (below_draw (Below.refl w0.heap.size w0))
    have HR5 : Hid (∀ (V : (Int → Int) → Int) x l, Rep (modOf M) V x l → 0 ≤ x ∧ x ≤ 5) := Lib.hid (fun V x l h => by have := h.low; have := modOf_range M; omega)
    have HBA := Lib.hid (made_zero' (w1 := w0) 69)
    go_region_held_law (fun w' => w'.cell? ⟨a4, 0, none⟩ = some (.int .i64 M) ∧ w'.cell? ⟨a4, 1, none⟩ = some (.slice LA lins.length lc)) (go_keep) (first
      | (go_at_call 17
         (with_reducible refine (CT.out _ (hL0.kept HBS.out) (hl0.kept HBS.out) (ht0.kept HBS.out)).mono ?_)
         rintro e w3 ⟨x, XA, xc, xl, rfl, hb3, hxn, hxnew, hxp, hxl, hxr⟩
         have HB := Lib.hid (below_then HBS.out (by simp) hb3)
         have x0 := cell_kept HB.out x0s
         have x1 := cell_kept HB.out x1s
         have hxn := Lib.hid hxn
         have HX := Lib.hid hxp
         have HXR := Lib.hid hxr
         clear hxp hxr hxnew
         clear hb3)
      | (go_at_call 17
         (with_reducible refine (CT.out _ (hL0.kept HBA.out.below) (hl0.kept HBA.out.below) (ht0.kept HBA.out.below)).mono ?_)
         rintro e w3 ⟨x, XA, xc, xl, rfl, hb3, hxn, hxnew, hxp, hxl, hxr⟩
         have HMD := Lib.hid (HBA.out.kept (by simp) hb3)
         have HB := Lib.hid (below_then HBA.out.below (by simp) hb3)
         have x0 := cell_kept HB.out x0s
         have x1 := cell_kept HB.out x1s
         have hxn := Lib.hid hxn
         have HX := Lib.hid hxp
         have HXR := Lib.hid hxr
         clear hxp hxr hxnew
         have o0 := HMD.out.c0
         have o1 := HMD.out.c1
         have of0 := HMD.out.f0
         have of1 := HMD.out.f1
         have hne := made_ne HMD.out hs0
         clear hb3)
      | (go_at_call 18
         (with_reducible refine (CM.out _).mono ?_)
         rintro e w3 ⟨rfl, hb3⟩
         have HMD := Lib.hid (HMD.out.kept HB.out.size hb3)
         have hbs := hb3
         have HB := Lib.hid (below_then HB.out HB.out.size hbs)
         have x0 := cell_kept HB.out x0s
         have x1 := cell_kept HB.out x1s
         have s1 := S1.out
         have HX := Lib.hid (HX.out.kept hbs)
         have o0 := HMD.out.c0
         have o1 := HMD.out.c1
         have of0 := HMD.out.f0
         have of1 := HMD.out.f1
         have hne := made_ne HMD.out hs0
         clear hb3 hbs)
      | (go_at_call 18
         (with_reducible refine (CM.out _).mono ?_)
         rintro e w3 ⟨rfl, hb3⟩
         have hbs := hb3
         have HB := Lib.hid (below_then HB.out HB.out.size hbs)
         have x0 := cell_kept HB.out x0s
         have x1 := cell_kept HB.out x1s
         have s1 := S1.out
         have HX := Lib.hid (HX.out.kept hbs)
         clear hb3 hbs)
      | (go_at_call 18
         (with_reducible refine (CM.out _).mono ?_)
         rintro e w3 ⟨rfl, hb3⟩
         have HMD := Lib.hid ((made_zero 69 HB.out).kept (Nat.le_trans HB.out.size (by simp)) hb3)
         have hbs := below_then (below_alloc0 _ (.cells #[.int .i64 0, .slice none 0 0] 69)) (by simp) hb3
         have HB := Lib.hid (below_then HB.out HB.out.size hbs)
         have x0 := cell_kept HB.out x0s
         have x1 := cell_kept HB.out x1s
         have s1 := S1.out
         have HX := Lib.hid (HX.out.kept hbs)
         have o0 := HMD.out.c0
         have o1 := HMD.out.c1
         have of0 := HMD.out.f0
         have of1 := HMD.out.f1
         have hne := made_ne HMD.out hs0
         clear hb3 hbs)
      | (go_at_call 17
         (with_reducible refine (CU.out _ (hL0.kept HB.out) (hl0.kept HB.out) (hu0.kept HB.out)).mono ?_)
         rintro e w3 ⟨y, YA, yc, yl, rfl, hb3, hyn, hynew, hyp, hyl, hyr⟩
         have HMD := Lib.hid (HMD.out.kept HB.out.size hb3)
         have hbs := hb3
         have HB := Lib.hid (below_then HB.out HB.out.size hbs)
         have x0 := cell_kept HB.out x0s
         have x1 := cell_kept HB.out x1s
         have hyn := Lib.hid hyn
         have HX := Lib.hid (HX.out.kept hbs)
         have HY := Lib.hid hyp
         have HYR := Lib.hid hyr
         clear hyp hyr hynew
         have o0 := HMD.out.c0
         have o1 := HMD.out.c1
         have of0 := HMD.out.f0
         have of1 := HMD.out.f1
         have hne := made_ne HMD.out hs0
         clear hb3 hbs)
      | (go_at_call 17
         (with_reducible refine (CU.out _ (hL0.kept HB.out) (hl0.kept HB.out) (hu0.kept HB.out)).mono ?_)
         rintro e w3 ⟨y, YA, yc, yl, rfl, hb3, hyn, hynew, hyp, hyl, hyr⟩
         have hbs := hb3
         have HB := Lib.hid (below_then HB.out HB.out.size hbs)
         have x0 := cell_kept HB.out x0s
         have x1 := cell_kept HB.out x1s
         have hyn := Lib.hid hyn
         have HX := Lib.hid (HX.out.kept hbs)
         have HY := Lib.hid hyp
         have HYR := Lib.hid hyr
         clear hyp hyr hynew
         clear hb3 hbs)
      | (go_at_call 17
         (with_reducible refine (CU.out _ (hL0.kept (below_alloc HB.out HB.out.size _)) (hl0.kept (below_alloc HB.out HB.out.size _)) (hu0.kept (below_alloc HB.out HB.out.size _))).mono ?_)
         rintro e w3 ⟨y, YA, yc, yl, rfl, hb3, hyn, hynew, hyp, hyl, hyr⟩
         have HMD := Lib.hid ((made_zero 69 HB.out).kept (Nat.le_trans HB.out.size (by simp)) hb3)
         have hbs := below_then (below_alloc0 _ (.cells #[.int .i64 0, .slice none 0 0] 69)) (by simp) hb3
         have HB := Lib.hid (below_then HB.out HB.out.size hbs)
         have x0 := cell_kept HB.out x0s
         have x1 := cell_kept HB.out x1s
         have hyn := Lib.hid hyn
         have HX := Lib.hid (HX.out.kept hbs)
         have HY := Lib.hid hyp
         have HYR := Lib.hid hyr
         clear hyp hyr hynew
         have o0 := HMD.out.c0
         have o1 := HMD.out.c1
         have of0 := HMD.out.f0
         have of1 := HMD.out.f1
         have hne := made_ne HMD.out hs0
         clear hb3 hbs)
      | (go_at_call 16
         (with_reducible refine (plus_any M (.slice LA lins.length lc) x y k XA YA xl yl xc yc hM (HR5.out _ _ _ HXR.out) (HR5.out _ _ _ HYR.out) (by omega) HXR.out.coef HYR.out.coef hxn.out (by omega) (by omega) _ (HX.out) (HY.out)).mono ?_)
         rintro e w3 ⟨PA, pc, rfl, hb3, hpn, hpp, hpnew⟩
         have HMQ := Lib.hid (made_new_ne HMD.out HB.out.size hpnew)
         have HMD := Lib.hid (HMD.out.kept HB.out.size hb3)
         have hbs := hb3
         have HB := Lib.hid (below_then HB.out HB.out.size hbs)
         have x0 := cell_kept HB.out x0s
         have x1 := cell_kept HB.out x1s
         have hpn := Lib.hid hpn
         clear hpnew
         have HPP := Lib.hid hpp
         clear hpp
         have o0 := HMD.out.c0
         have o1 := HMD.out.c1
         have of0 := HMD.out.f0
         have of1 := HMD.out.f1
         have hne := made_ne HMD.out hs0
         clear hb3 hbs)
      | (go_at_call 16
         (with_reducible refine (plus_any M (.slice LA lins.length lc) x y k XA YA xl yl xc yc hM (HR5.out _ _ _ HXR.out) (HR5.out _ _ _ HYR.out) (by omega) HXR.out.coef HYR.out.coef hxn.out (by omega) (by omega) _ (HX.out) (HY.out)).mono ?_)
         rintro e w3 ⟨PA, pc, rfl, hb3, hpn, hpp, hpnew⟩
         have HMQ := Lib.hid (fun (a : Addr) (ha : PA = some a) => Nat.le_trans HB.out.size (hpnew a ha))
         have hbs := hb3
         have HB := Lib.hid (below_then HB.out HB.out.size hbs)
         have x0 := cell_kept HB.out x0s
         have x1 := cell_kept HB.out x1s
         have hpn := Lib.hid hpn
         clear hpnew
         have HPP := Lib.hid hpp
         clear hpp
         clear hb3 hbs)
      | (go_at_call 16
         (with_reducible refine (plus_any M (.slice LA lins.length lc) x y k XA YA xl yl xc yc hM (HR5.out _ _ _ HXR.out) (HR5.out _ _ _ HYR.out) (by omega) HXR.out.coef HYR.out.coef hxn.out (by omega) (by omega) _ (HX.out.kept (below_alloc0 _ _)) (HY.out.kept (below_alloc0 _ _))).mono ?_)
         rintro e w3 ⟨PA, pc, rfl, hb3, hpn, hpp, hpnew⟩
         have HMQ := Lib.hid (made_new_ne (made_zero 69 HB.out) (Nat.le_trans HB.out.size (by simp)) hpnew)
         have HMD := Lib.hid ((made_zero 69 HB.out).kept (Nat.le_trans HB.out.size (by simp)) hb3)
         have hbs := below_then (below_alloc0 _ (.cells #[.int .i64 0, .slice none 0 0] 69)) (by simp) hb3
         have HB := Lib.hid (below_then HB.out HB.out.size hbs)
         have x0 := cell_kept HB.out x0s
         have x1 := cell_kept HB.out x1s
         have hpn := Lib.hid hpn
         clear hpnew
         have HPP := Lib.hid hpp
         clear hpp
         have o0 := HMD.out.c0
         have o1 := HMD.out.c1
         have of0 := HMD.out.f0
         have of1 := HMD.out.f1
         have hne := made_ne HMD.out hs0
         clear hb3 hbs))
    all_goals
      obtain ⟨LS, hLS⟩ : ∃ L, L = addAll (modOf M) k xl yl := ⟨_, rfl⟩
      have hln : LS.length ≤ 1000 := by
        have h9 := len_addAll (modOf M) k yl xl
        rw [hLS]
        omega
      have hrel : ((x + k * y) % modOf M = 0 ∧ ∀ z, z ∈ LS → z.2 = 0) ↔ RowWorth l (modOf M) (facOf M lins) t u := by
        rw [hLS, HK.out, HM.out]
        exact alike_worth M lins _ _ x y xl yl HXR.out HYR.out
      have HPP2 := HPP.out
      have HPN2 := hpn.out
      rw [← hLS] at HPP2 HPN2 ⊢
      generalize (x + k * y) % modOf M = Z at hrel ⊢
      have HLN := Lib.hid hln
      have HRL := Lib.hid hrel
      have HPQ := Lib.hid HPP2
      have HPM := Lib.hid HPN2
      clear hLS hln hrel HPP HPP2 HPN2
      go_wp2_with fail
      go_meet
      case rel =>
        first
        | exact ⟨_, Z, PA, pc, LS, rfl, made_late _ HB.out Z PA pc LS HPQ.out HPM.out HMQ.out, HRL.out, HLN.out⟩
        | exact ⟨_, Z, PA, pc, LS, rfl, HMD.out.lay HPQ.out HPM.out HMQ.out, HRL.out, HLN.out⟩
  case rest =>
    obtain ⟨b9, x, FA, fc, ls, rfl, hMd, hRel, hLn⟩ := hcut
    obtain ⟨w2, rfl⟩ : ∃ x : World, x = wc := ⟨_, rfl⟩
    have z0 := hMd.out.c0
    have z1 := hMd.out.c1
    have hPs := hMd.out.pairs
    have hBB : Below w.heap.size w w2 := below_then HB0.out HB0.out.size hMd.out.below
    have HRL := Lib.hid hRel.out
    have hln : ls.length ≤ 1000 := hLn.out
    have HBB := Lib.hid hBB
    clear hMd hRel hLn hBB x0s x1s hL0 hl0 ht0 hu0 CT CU CM S1
    by_cases hx : x = 0
    · subst hx
      go_wp2_with fail
      go_loopg [10] ls.length (fun gk v wr => ∃ i : Nat, Aside (gk + i = ls.length) ∧ v = .int .i64 i ∧ w2 = wr ∧ Aside (∀ z, z ∈ ls.take i → z.2 = 0))
      case atStart => exact ⟨0, (rfl : ls.length + 0 = _), rfl, rfl, fun z hz => by simp at hz⟩
      case round =>
        obtain ⟨i, hg, rfl, rfl, hz⟩ := hrel
        have HZ := Lib.hid hz.out
        have hi : i ≤ ls.length := by have := hg.out; omega
        clear hz
        by_cases hlt : i < ls.length
        · obtain ⟨pb, po, px, py, rfl, hpv, hp1, hp2⟩ := hPs.at_ hlt
          have HPV := Lib.hid hpv
          clear hpv
          by_cases hy : py = 0
          · subst hy
            go_wp2_with fail
            go_roundg (ls.length - (i + 1))
            case measure => have := hg.out; omega
            case rel =>
              refine ⟨i + 1, by have := hg.out; show _ = _; omega, by go_num, rfl, fun z hz => ?_⟩
              rw [take_succ' ls (0, 0) hlt, HPV.out] at hz
              rcases List.mem_append.1 hz with h | h
              · exact HZ.out z h
              · simp at h; subst h; rfl
          · have q1 : (py != 0) = true := bne_iff_ne.2 hy
            have q2 : (py == 0) = false := beq_eq_false_iff_ne.2 hy
            have HY := Lib.hid hy
            clear hy
            go_wp2_with fail
            go_ret
            refine ⟨⟨false, rfl, (fun h => by cases h), fun h => ?_⟩, HBB.out⟩
            exact absurd ((HRL.out.2 h).2 (px, py) (getD_mem hlt HPV.out)) HY.out
        · have hie : i = ls.length := by omega
          subst hie
          go_wp2_with fail
          go_ret
          refine ⟨⟨true, rfl, fun _ => HRL.out.1 ⟨by trivial, fun z hz => ?_⟩, fun _ => rfl⟩, HBB.out⟩
          exact HZ.out z (by rw [List.take_length]; exact hz)
    · have q1 : (x != 0) = true := bne_iff_ne.2 hx
      have q2 : (x == 0) = false := beq_eq_false_iff_ne.2 hx
      have HX := Lib.hid hx
      clear hx
      go_wp2_with fail
      go_ret
      exact ⟨⟨false, rfl, (fun h => by cases h), fun h => absurd (HRL.out.2 h).1 HX.out⟩, HBB.out⟩
set_option maxRecDepth 100000 in
theorem topterm_any (A B : Option Addr) (l : List Sy) (t : List Int) (sc tc : Nat) (w : World) (hl : Sigs w A l) (ht : Ints w B t) :
    Calls Tryd.prog 8 #[.slice A l.length sc, .slice B t.length tc] w fun e w' => e = .returned (.bool (decide (termErr l t = 0 ∧ t.length ≤ 512))) ∧ Below w.heap.size w w' := by
  have m2 := ht.2.1
  have cC := refcheck_any A B l t l.length sc t.length tc rfl rfl w hl ht
  by_cases h0 : termErr l t = 0
  · rw [h0] at cC ⊢
    by_cases h5 : t.length ≤ 512
    · rw [decide_eq_true ⟨rfl, h5⟩]
      go_enter Tryd.func8, Tryd.ntmps8
      go_wp2_with (go_at_call 15; refine cC.mono ?_; rintro e w' ⟨rfl, hb⟩)
      go_ret
      refine ⟨?_, hb⟩
      show Ending.returned (.bool (decide ((t.length : Int) ≤ 512))) = _
      rw [decide_eq_true (by omega)]
    · rw [decide_eq_false (fun h => h5 h.2)]
      go_enter Tryd.func8, Tryd.ntmps8
      go_wp2_with (go_at_call 15; refine cC.mono ?_; rintro e w' ⟨rfl, hb⟩)
      go_ret
      refine ⟨?_, hb⟩
      show Ending.returned (.bool (decide ((t.length : Int) ≤ 512))) = _
      rw [decide_eq_false (by omega)]
  · rw [decide_eq_false (fun h => h0 h.1)]
    generalize termErr l t = r at cC h0
    have q1 : (r == 0) = false := beq_eq_false_iff_ne.2 h0
    clear h0
    go_enter Tryd.func8, Tryd.ntmps8
    go_wp2_with (go_at_call 15; refine cC.mono ?_; rintro e w' ⟨rfl, hb⟩)
    go_ret
    exact ⟨rfl, hb⟩
end Go.Proofs.YtfelhlffiiephaaDoor
