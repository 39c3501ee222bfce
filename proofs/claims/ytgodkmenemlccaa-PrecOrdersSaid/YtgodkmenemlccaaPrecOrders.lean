/- The walk of PrecOrders: for every number of symbols, all pairs, any three numbers it answers true. Conditions: none. -/
import Derived.Test.YtgodkmenemlccaaPrecD
set_option linter.unusedVariables false
set_option linter.unusedSimpArgs false
namespace Go.Proofs.Ytgodkmenemlccaa
open Go.RowKit

theorem not_up_self {n : Int} {l : List (Int × Int)} (h : perr n l = 0) (f : Int) : up l f f = false := up_false.2 fun hf => (perr_zero.1 h).2.2 ⟨f, hf⟩
theorem up_trans {l : List (Int × Int)} {f g h : Int} (h1 : up l f g = true) (h2 : up l g h = true) : up l f h = true := up_iff.2 ((up_iff.1 h1).trans (up_iff.1 h2))
theorem up_asymm {n : Int} {l : List (Int × Int)} (h : perr n l = 0) {f g : Int} (h1 : up l f g = true) : up l g f = false := by
  cases h2 : up l g f with
  | false => rfl
  | true => have := up_trans h1 h2; rw [not_up_self h] at this; cases this
theorem up_range {n : Int} {l : List (Int × Int)} (h : perr n l = 0) {f g : Int} (h1 : up l f g = true) : 0 ≤ f ∧ f < n ∧ 0 ≤ g ∧ g < n := (up_iff.1 h1).range (perr_zero.1 h).2.1
theorem up_mem {l : List (Int × Int)} {k : Nat} {x y : Int} (hk : k < l.length) (h : l.getD k (0, 0) = (x, y)) : up l x y = true := up_iff.2 (.one (getD_mem hk h))

set_option maxRecDepth 100000 in
set_option maxHeartbeats 2000000 in
theorem precOrders_walk (n : Int) (A : Option Addr) (l : List (Int × Int)) (cap : Nat) (f g h : Int) (w : World) (hl : Pairs w A l) :
    Calls Try.prog 4 #[.int .i64 n, .slice A l.length cap, .int .i64 f, .int .i64 g, .int .i64 h] w fun e w' => e = .returned (.bool true) ∧ Below w.heap.size w w' := by
  have hll := hl.1
  go_enter Try.func4, Try.ntmps4
  go_wp2_with (go_at_call 8; refine (shown_any _).mono ?_; rintro e w1 ⟨rfl, hB⟩)
  by_cases hp : perr n l = 0
  · refine (close_ok n A l _ cap w1 rfl (hl.kept hB) hp).mono ?_
    rintro e w2 ⟨rfl, hb2, hP⟩
    obtain ⟨p, hpb⟩ : ∃ p, p = w1.heap.size := ⟨_, rfl⟩
    rw [← hpb] at hP ⊢
    clear hpb
    have hB2 := below_then hB hB.size hb2
    clear hB hb2
    have HP := Lib.hid hp
    clear hp
    go_wp2_with fail
    go_loopg [14] l.length (fun gk i wx => ∃ k : Nat, Aside (gk + k = l.length) ∧ i = .int .i64 k ∧ Below w.heap.size w wx ∧ IsPrec wx p n l)
    case atStart => exact ⟨0, (rfl : l.length + 0 = l.length), rfl, hB2, hP⟩
    case round =>
      clear hB2 hP
      obtain ⟨k, hgk, rfl, hB, hP⟩ := hrel
      have hk : k ≤ l.length := by have := hgk.out; omega
      by_cases hlt : k < l.length
      · obtain ⟨b, off, x, y, rfl, hxy, hx, hy⟩ := (hl.kept hB).at_ hlt
        have hu := up_mem hlt hxy
        have HX := Lib.hid hxy
        clear hxy
        go_wp2_with fail
        refine wp_region_ext (I := Over wr) (by kernel_rfl) (by kernel_rfl) (Over.refl wr) ?_
        have f1 := Over.cell hx
        have f2 := Over.cell hy
        repeat (go_big_quiet_step ((go_at_call 11; exact Calls.over (above_any p n l x y _ (hP.kept (Ext.ok _))))))
        try refine wpQuiet_nil ?_
        intro w' hw'
        have hP' := hP.kept hw'
        have hB' := below_then hB hB.size hw'
        clear f1 f2 hx hy
        go_wp2_with fail
        go_roundg (l.length - (k + 1))
        case measure => have := hgk.out; omega
        case rel => exact ⟨k + 1, by have := hgk.out; show _ = _; omega, by go_num, hB', hP'⟩
      · have hkl : k = l.length := by omega
        subst hkl
        have hff := not_up_self HP.out f
        cases hfg : up l f g with
        | false =>
          by_cases a1 : 0 ≤ f
          · by_cases a2 : f < n
            · by_cases a3 : 0 ≤ g
              · by_cases a4 : g < n
                · go_wp2_with (go_at_call 11; refine (above_any p n l _ _ _ (by assumption)).mono ?_; rintro e w' ⟨rfl, hb⟩; have hP' := IsPrec.kept (by assumption) hb; have hB' := below_then (B := w.heap.size) (w := w) (by assumption) (Below.size (B := w.heap.size) (w := w) (by assumption)) hb)
                  go_ret
                  exact ⟨rfl, by assumption⟩
                · go_wp2_with (go_at_call 11; refine (above_any p n l _ _ _ (by assumption)).mono ?_; rintro e w' ⟨rfl, hb⟩; have hP' := IsPrec.kept (by assumption) hb; have hB' := below_then (B := w.heap.size) (w := w) (by assumption) (Below.size (B := w.heap.size) (w := w) (by assumption)) hb)
                  go_ret
                  exact ⟨rfl, by assumption⟩
              · go_wp2_with (go_at_call 11; refine (above_any p n l _ _ _ (by assumption)).mono ?_; rintro e w' ⟨rfl, hb⟩; have hP' := IsPrec.kept (by assumption) hb; have hB' := below_then (B := w.heap.size) (w := w) (by assumption) (Below.size (B := w.heap.size) (w := w) (by assumption)) hb)
                go_ret
                exact ⟨rfl, by assumption⟩
            · go_wp2_with (go_at_call 11; refine (above_any p n l _ _ _ (by assumption)).mono ?_; rintro e w' ⟨rfl, hb⟩; have hP' := IsPrec.kept (by assumption) hb; have hB' := below_then (B := w.heap.size) (w := w) (by assumption) (Below.size (B := w.heap.size) (w := w) (by assumption)) hb)
              go_ret
              exact ⟨rfl, by assumption⟩
          · go_wp2_with (go_at_call 11; refine (above_any p n l _ _ _ (by assumption)).mono ?_; rintro e w' ⟨rfl, hb⟩; have hP' := IsPrec.kept (by assumption) hb; have hB' := below_then (B := w.heap.size) (w := w) (by assumption) (Below.size (B := w.heap.size) (w := w) (by assumption)) hb)
            go_ret
            exact ⟨rfl, by assumption⟩
        | true =>
          obtain ⟨a1, a2, a3, a4⟩ := up_range HP.out hfg
          have hgf := up_asymm HP.out hfg
          cases hgh : up l g h with
          | false =>
            go_wp2_with (go_at_call 11; refine (above_any p n l _ _ _ (by assumption)).mono ?_; rintro e w' ⟨rfl, hb⟩; have hP' := IsPrec.kept (by assumption) hb; have hB' := below_then (B := w.heap.size) (w := w) (by assumption) (Below.size (B := w.heap.size) (w := w) (by assumption)) hb)
            go_ret
            exact ⟨rfl, by assumption⟩
          | true =>
            have hfh := up_trans hfg hgh
            go_wp2_with (go_at_call 11; refine (above_any p n l _ _ _ (by assumption)).mono ?_; rintro e w' ⟨rfl, hb⟩; have hP' := IsPrec.kept (by assumption) hb; have hB' := below_then (B := w.heap.size) (w := w) (by assumption) (Below.size (B := w.heap.size) (w := w) (by assumption)) hb)
            go_ret
            exact ⟨rfl, by assumption⟩
  · have HP := Lib.hid hp
    clear hp
    refine (close_err n A l _ cap w1 rfl (hl.kept hB) _ rfl HP.out).mono ?_
    rintro e w2 ⟨rfl, hb2⟩
    have hB2 := below_then hB hB.size hb2
    generalize perr n l = x at *
    have hx : (x != 0) = true := bne_iff_ne.2 HP.out
    go_wp2_with fail
    go_ret
    exact ⟨rfl, hB2⟩
end Go.Proofs.Ytgodkmenemlccaa
