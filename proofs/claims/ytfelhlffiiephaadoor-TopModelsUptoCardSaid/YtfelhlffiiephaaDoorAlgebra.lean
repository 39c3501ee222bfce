/- An algebra's numbers: the walks of which, mod, factor. Conditions: none. -/
import Derived.Test.YtfelhlffiiephaaDoorForms
import Derived.Test.YtfelhlffiiephaaDoorCanon
import Derived.Deep.Cut
import Derived.Deep.LoopGhost
set_option linter.unusedVariables false
set_option linter.unusedSimpArgs false
set_option linter.unnecessarySimpa false
namespace Go.Proofs.YtfelhlffiiephaaDoor
open Go.RowKit Go.Lib

/-- A number brought to 0 and on. -/
def brought (c : Int) : Int := if c < 0 then -(c + 1) else c
def whichOf (c n : Int) : Int := brought c % n
def modOf (M : Int) : Int := 2 + whichOf M 4
theorem modOf_range (M : Int) : 2 ≤ modOf M ∧ modOf M ≤ 5 := by
  unfold modOf whichOf
  have h1 := Int.emod_nonneg (brought M) (show (4 : Int) ≠ 0 by decide)
  have h2 := Int.emod_lt_of_pos (brought M) (show (0 : Int) < 4 by decide)
  omega
/-- A symbol's number in an algebra. -/
def facOf (M : Int) (lin : List (List Int)) (f : Int) (k : Nat) : Int :=
  if f.toNat < lin.length ∧ k < (lin.getD f.toNat []).length then whichOf ((lin.getD f.toNat []).getD k 0) (modOf M) else 1
theorem facOf_range (M : Int) (lin : List (List Int)) (f : Int) (k : Nat) : 0 ≤ facOf M lin f k ∧ facOf M lin f k < modOf M := by
  have hm := modOf_range M
  unfold facOf
  split
  · unfold whichOf
    exact emod_low (by omega)
  · omega
set_option maxRecDepth 100000 in
set_option maxHeartbeats 2000000 in
theorem which_any (c : Int) (n : Nat) (hc : -9223372036854775808 ≤ c ∧ c ≤ 9223372036854775807) (hn : 0 < n) (hn2 : n ≤ 1000) (w : World) :
    Calls Tryd.prog 32 #[.int .i64 c, .int .i64 (n : Int)] w fun e w' => e = .returned (.int .i64 (whichOf c n)) ∧ w = w' := by
  obtain ⟨h1, h2⟩ := hc
  obtain ⟨r, hr⟩ : ∃ r, r = whichOf c n := ⟨_, rfl⟩
  rw [← hr]
  have HR := Lib.hid hr
  clear hr
  go_enter Tryd.func32, Tryd.ntmps32
  go_upto_if 6 with (fail)
  go_cut [0] (fun v wx => ∃ m : Nat, v = .int .i64 m ∧ Aside (m ≤ 9223372036854775807) ∧ Aside ((m : Int) = brought c) ∧ w = wx)
  case first =>
    by_cases hneg : c < 0
    · go_wp2_with fail
      go_meet
      case rel => exact ⟨(-(c + 1)).toNat, by congr 1; omega, by show _ ≤ _; omega, by show _ = _; unfold brought; rw [if_pos hneg]; omega, rfl⟩
    · go_wp2_with fail
      go_meet
      case rel => exact ⟨c.toNat, by congr 1; omega, by show _ ≤ _; omega, by show _ = _; unfold brought; rw [if_neg (by omega)]; omega, rfl⟩
  case rest =>
    obtain ⟨m, rfl, hm, hb, rfl⟩ := hcut
    have hm' : m ≤ 9223372036854775807 := hm.out
    obtain ⟨K, hK⟩ : ∃ K : Nat, (m : Int) % (n : Int) = (K : Int) := ⟨m % n, by rw [Int.natCast_emod]⟩
    have hrK : r = (K : Int) := by rw [HR.out, whichOf, ← hb.out, hK]
    subst hrK
    have hn' : ¬ ((n : Int) = 0) := by omega
    clear hb hm
    go_wp2_with fail
    go_ret
    exact ⟨by rw [← hK]; rfl, rfl⟩
set_option maxRecDepth 100000 in
set_option maxHeartbeats 2000000 in
theorem mod_any (M : Int) (L : Value) (hM : -9223372036854775808 ≤ M ∧ M ≤ 9223372036854775807) (w : World) :
    Calls Tryd.prog 18 #[.agg #[.int .i64 M, L]] w fun e w' => e = .returned (.int .i64 (modOf M)) ∧ Below w.heap.size w w' := by
  have c1 := fun (w1 : World) => which_any M 4 hM (by decide) (by decide) w1
  have hr := modOf_range M
  obtain ⟨x, hx⟩ : ∃ x, x = whichOf M 4 := ⟨_, rfl⟩
  have hm : modOf M = 2 + x := by rw [hx]; rfl
  rw [hm] at hr ⊢
  have C1 : ∀ w1, Calls Tryd.prog 32 #[.int .i64 M, .int .i64 4] w1 fun e w' => e = .returned (.int .i64 x) ∧ w1 = w' := fun w1 => by rw [hx]; exact c1 w1
  have HC := Lib.hid C1
  have hb := below_alloc0 w (.cells #[.int .i64 M, L] 26)
  have HB := Lib.hid hb
  clear c1 C1 hx hm hb
  go_enter Tryd.func18, Tryd.ntmps18
  go_wp2_with fail
  refine (HC.out _).mono ?_
  rintro e w1 ⟨rfl, rfl⟩
  go_wp2_with fail
  go_ret
  exact ⟨rfl, HB.out⟩
set_option maxRecDepth 100000 in
set_option maxHeartbeats 2000000 in
theorem factor_any (M : Int) (LA : Option Addr) (lins : List (List Int)) (lc : Nat) (f k : Nat) (hM : -9223372036854775808 ≤ M ∧ M ≤ 9223372036854775807) (hf : f ≤ 1000) (hk : k ≤ 1000) (w : World) (hL : RowsIn w LA lins) :
    Calls Tryd.prog 30 #[.agg #[.int .i64 M, .slice LA lins.length lc], .int .i64 (f : Int), .int .i64 (k : Int)] w fun e w' => e = .returned (.int .i64 (facOf M lins f k)) ∧ Below w.heap.size w w' := by
  have m1 := hL.1
  have hmr := modOf_range M
  have cM := fun (w1 : World) => mod_any M (.slice LA lins.length lc) hM w1
  have cW := fun (c : Int) hc (w1 : World) => which_any c (modOf M).toNat hc (by omega) (by omega) w1
  have hmn : (((modOf M).toNat : Nat) : Int) = modOf M := by omega
  rw [hmn] at cW
  obtain ⟨r, hr⟩ : ∃ r, r = facOf M lins f k := ⟨_, rfl⟩
  rw [← hr]
  unfold facOf at hr
  rw [Int.toNat_natCast] at hr
  have HR := Lib.hid hr
  have CM := Lib.hid cM
  have CW := Lib.hid cW
  have hb := below_alloc0 w (.cells #[.int .i64 M, .slice LA lins.length lc] 26)
  clear hr cM cW hmn
  by_cases h1 : f < lins.length
  · obtain ⟨b, off, t, B, c, rfl, ht, hc, _, _, h8, hI⟩ := hL.at_ h1
    rw [ht] at HR
    have hc1 := cell_kept hb hc
    by_cases h2 : k < t.length
    · obtain ⟨tb, to_, x, rfl, hx, hx1, hx2, hxc⟩ := hI.at_ h2
      have hxc1 := cell_kept hb hxc
      have hr : r = whichOf x (modOf M) := by rw [HR.out, if_pos ⟨h1, h2⟩, hx]
      have cw := fun (w1 : World) => CW.out x ⟨hx1, hx2⟩ w1
      rw [← hr] at cw
      have CW2 := Lib.hid cw
      have HB := Lib.hid hb
      clear cw hr hL hx hI hc hxc CW hb
      go_enter Tryd.func30, Tryd.ntmps30
      go_wp2_with fail
      obtain ⟨wb, hwb⟩ : ∃ x, x = w.alloc (.cells #[.int .i64 M, .slice (some ⟨b, off, none⟩) lins.length lc] 26) := ⟨_, rfl⟩
      have g0 : wb.cell? ⟨w.heap.size, 0, none⟩ = some (.int .i64 M) := by rw [hwb]; exact World.cell?_alloc_new w _ _ 0
      have g1 : wb.cell? ⟨w.heap.size, 1, none⟩ = some (.slice (some ⟨b, off, none⟩) lins.length lc) := by rw [hwb]; exact World.cell?_alloc_new w _ _ 1
      rw [← hwb] at hc1 hxc1 HB ⊢
      obtain ⟨xb, hxb⟩ : ∃ x, x = w.heap.size := ⟨_, rfl⟩
      rw [← hxb] at g0 g1
      rw [← hxb]
      have cMz : ∀ z : Ext (Over wb), Calls Tryd.prog 18 #[.agg #[.int .i64 M, .slice (some ⟨b, off, none⟩) lins.length lc]] z.val fun e w' => e = .returned (.int .i64 (modOf M)) ∧ Below z.val.heap.size z.val w' := fun z => CM.out z.val
      have cWz : ∀ z : Ext (Over wb), Calls Tryd.prog 32 #[.int .i64 x, .int .i64 (modOf M)] z.val fun e w' => e = .returned (.int .i64 r) ∧ Below z.val.heap.size z.val w' := fun z => (CW2.out z.val).mono (by rintro _ _ ⟨rfl, rfl⟩; exact ⟨rfl, Below.refl _ _⟩)
      refine wp_region_ext (I := Over wb) (by kernel_rfl) (by kernel_rfl) (Over.refl wb) ?_
      have f0 := Over.cell g0
      have f1 := Over.cell g1
      have f2 := Over.cell hc1
      have f3 := Over.cell hxc1
      clear hwb hxb g0 g1 hc1 hxc1 CW2 CM
      repeat (go_big_quiet_step (first | (go_at_call 18; exact Calls.over (cMz _)) | (go_at_call 32; exact Calls.over (cWz _))))
      try refine wpQuiet_nil ?_
      intro wd hwd
      clear f0 f1 f2 f3 cMz cWz
      go_wp2_with fail
      go_ret
      exact ⟨rfl, below_then HB.out HB.out.size hwd⟩
    · have hr : r = 1 := by rw [HR.out, if_neg (fun h => h2 h.2)]
      subst hr
      have HB := Lib.hid hb
      clear hL hI hc CW hb
      go_enter Tryd.func30, Tryd.ntmps30
      go_wp2_with fail
      go_ret
      exact ⟨rfl, HB.out⟩
  · have hr : r = 1 := by rw [HR.out, if_neg (fun h => h1 h.1)]
    subst hr
    go_enter Tryd.func30, Tryd.ntmps30
    go_wp2_with fail
    go_ret
    exact ⟨rfl, hb⟩
end Go.Proofs.YtfelhlffiiephaaDoor
