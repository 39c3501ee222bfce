/- The closure's two ends as contracts; the walk of the examples at the head of the statements. Conditions: none. -/
import Derived.Test.YthpdfkhmhaobgaaDoorPrecC
set_option linter.unusedVariables false
set_option linter.unusedSimpArgs false
namespace Go.Proofs.YthpdfkhmhaobgaaDoor
open Go.RowKit

theorem close_all (n : Int) (A : Option Addr) (l : List (Int × Int)) (len cap : Nat) (w : World) (hlen : l.length = len) (hl : Pairs w A l) :
    Calls Tryd.prog 21 #[.int .i64 n, .slice A len cap] w (ClosePost n l w) := by
  subst hlen
  by_cases h : n < 0 ∨ 128 < n
  · exact close_arg n A l cap w h
  · exact close_any n A l cap w (by omega) (by omega) hl
theorem close_err (n : Int) (A : Option Addr) (l : List (Int × Int)) (len cap : Nat) (w : World) (hlen : l.length = len) (hl : Pairs w A l) (x : Int) (hx : perr n l = x) (h0 : x ≠ 0) :
    Calls Tryd.prog 21 #[.int .i64 n, .slice A len cap] w fun e w' => e = .returned (.tuple #[.pointer none, .int .i64 x]) ∧ Below w.heap.size w w' :=
  (close_all n A l len cap w hlen hl).mono fun e w' ⟨hb, h⟩ => by
    rcases h with ⟨_, he⟩ | ⟨h, _⟩
    · rw [hx] at he; exact ⟨he, hb⟩
    · omega
theorem close_ok (n : Int) (A : Option Addr) (l : List (Int × Int)) (len cap : Nat) (w : World) (hlen : l.length = len) (hl : Pairs w A l) (hx : perr n l = 0) :
    Calls Tryd.prog 21 #[.int .i64 n, .slice A len cap] w fun e w' => e = .returned (.tuple #[.pointer (some ⟨w.heap.size, 0, none⟩), .int .i64 0]) ∧ Below w.heap.size w w' ∧ IsPrec w' w.heap.size n l :=
  (close_all n A l len cap w hlen hl).mono fun e w' ⟨hb, h⟩ => by
    rcases h with ⟨h, _⟩ | ⟨_, he, hP⟩
    · omega
    · exact ⟨he, hb, hP⟩
theorem ref_all (n : Int) (A : Option Addr) (l : List (Int × Int)) (len cap : Nat) (w : World) (hlen : l.length = len) (hl : Pairs w A l) :
    Calls Tryd.prog 24 #[.int .i64 n, .slice A len cap] w (RefPost n l w) := by
  subst hlen
  by_cases h : n < 0 ∨ 128 < n
  · exact refclose_arg n A l cap w h
  · exact refclose_any n A l cap w (by omega) (by omega) hl
theorem ref_err (n : Int) (A : Option Addr) (l : List (Int × Int)) (len cap : Nat) (w : World) (hlen : l.length = len) (hl : Pairs w A l) (x : Int) (hx : perr n l = x) (h0 : x ≠ 0) :
    Calls Tryd.prog 24 #[.int .i64 n, .slice A len cap] w fun e w' => e = .returned (.tuple #[.pointer none, .int .i64 x]) ∧ Below w.heap.size w w' :=
  (ref_all n A l len cap w hlen hl).mono fun e w' ⟨hb, h⟩ => by
    rcases h with ⟨_, he⟩ | ⟨h, _⟩
    · rw [hx] at he; exact ⟨he, hb⟩
    · omega
theorem ref_ok (n : Int) (A : Option Addr) (l : List (Int × Int)) (len cap : Nat) (w : World) (hlen : l.length = len) (hl : Pairs w A l) (hx : perr n l = 0) :
    Calls Tryd.prog 24 #[.int .i64 n, .slice A len cap] w fun e w' => e = .returned (.tuple #[.pointer (some ⟨w.heap.size, 0, none⟩), .int .i64 0]) ∧ Below w.heap.size w w' ∧ IsRef w' w.heap.size n l :=
  (ref_all n A l len cap w hlen hl).mono fun e w' ⟨hb, h⟩ => by
    rcases h with ⟨h, _⟩ | ⟨_, he, hP⟩
    · omega
    · exact ⟨he, hb, hP⟩

theorem Pairs.none (w : World) (A : Option Addr) : Pairs w A [] := ⟨by simp, fun h => by simp at h⟩
theorem Pairs.one {w : World} {b : Nat} {x y : Int} (h0 : w.cell? ⟨b, 0, Option.none⟩ = some (.int .i64 x)) (h1 : w.cell? ⟨b, 1, Option.none⟩ = some (.int .i64 y)) : Pairs w (some ⟨b, 0, Option.none⟩) [(x, y)] :=
  ⟨by simp, fun _ => ⟨b, 0, rfl, fun k hk => by
    have : k = 0 := by simpa using hk
    subst this
    exact ⟨h0, h1⟩⟩⟩
theorem Pairs.two {w : World} {b : Nat} {x y z u : Int} (h0 : w.cell? ⟨b, 0, Option.none⟩ = some (.int .i64 x)) (h1 : w.cell? ⟨b, 1, Option.none⟩ = some (.int .i64 y))
    (h2 : w.cell? ⟨b, 2, Option.none⟩ = some (.int .i64 z)) (h3 : w.cell? ⟨b, 3, Option.none⟩ = some (.int .i64 u)) : Pairs w (some ⟨b, 0, Option.none⟩) [(x, y), (z, u)] :=
  ⟨by simp, fun _ => ⟨b, 0, rfl, fun k hk => by
    have : k = 0 ∨ k = 1 := by simp at hk; omega
    rcases this with rfl | rfl
    · exact ⟨h0, h1⟩
    · exact ⟨h2, h3⟩⟩⟩

theorem tc_down {a b : Int} (h : TC [(2, 1), (1, 0)] a b) : b < a ∧ 0 ≤ b ∧ a ≤ 2 := by
  induction h with
  | one h => simp at h; omega
  | step h _ ih => simp at h; omega
theorem perr_a : perr 3 [(2, 1), (1, 0)] = 0 := by
  rw [perr_zero]
  refine ⟨by omega, ?_, ?_⟩
  · intro p hp; simp at hp; rcases hp with rfl | rfl <;> simp [badPair]
  · rintro ⟨f, hf⟩; have := tc_down hf; omega
theorem perr_b0 : allGood 2 [(0, 1), (1, 0)] := by
  intro p hp; simp at hp; rcases hp with rfl | rfl <;> simp [badPair]
theorem perr_b : perr 2 [(0, 1), (1, 0)] = 101 := by
  unfold perr
  rw [if_neg (by omega), if_neg (fun h => h perr_b0), if_pos ⟨0, .step (b := 1) (by simp) (.one (by simp))⟩]
theorem perr_c : perr 2 [(0, 2)] = 100 := by
  unfold perr
  rw [if_neg (by omega), if_pos (fun h => h (0, 2) (by simp) (by simp [badPair]))]
theorem perr_d : perr 129 [] = 1 := by unfold perr; rw [if_pos (by omega)]
theorem up_a : up [(2, 1), (1, 0)] 2 0 = true := up_iff.2 (.step (b := 1) (by simp) (.one (by simp)))
theorem up_b : up [(2, 1), (1, 0)] 0 2 = false := up_false.2 fun h => by have := tc_down h; omega
theorem up_c : up [(2, 1), (1, 0)] 2 2 = false := up_false.2 fun h => by have := tc_down h; omega
theorem up_d : up [(2, 1), (1, 0)] 2 3 = false := up_false.2 fun h => by have := tc_down h; omega
theorem up_e : up [(2, 1), (1, 0)] (-1) 0 = false := up_false.2 fun h => by have := tc_down h; omega

/-! ### One pair more -/
def RTC (l : List (Int × Int)) (a b : Int) : Prop := a = b ∨ TC l a b
theorem RTC.tc {l : List (Int × Int)} {a b c : Int} (h : RTC l a b) (k : TC l b c) : TC l a c := by
  rcases h with rfl | h
  · exact k
  · exact h.trans k
theorem TC.rtc {l : List (Int × Int)} {a b c : Int} (h : TC l a b) (k : RTC l b c) : TC l a c := by
  rcases k with rfl | k
  · exact h
  · exact h.trans k
theorem tc_snoc {l : List (Int × Int)} {f g a b : Int} : TC (l ++ [(f, g)]) a b ↔ TC l a b ∨ (RTC l a f ∧ RTC l g b) := by
  constructor
  · intro h
    induction h with
    | @one a b h =>
      rcases List.mem_append.1 h with h | h
      · exact .inl (.one h)
      · simp at h; exact .inr ⟨.inl h.1, .inl h.2.symm⟩
    | @step a b c h k ih =>
      rcases List.mem_append.1 h with h | h
      · rcases ih with ih | ih
        · exact .inl (.step h ih)
        · exact .inr ⟨.inr ((TC.one h).rtc ih.1), ih.2⟩
      · simp at h
        obtain ⟨rfl, rfl⟩ := h
        rcases ih with ih | ih
        · exact .inr ⟨.inl rfl, .inr ih⟩
        · exact .inr ⟨.inl rfl, ih.2⟩
  · rintro (h | ⟨h, k⟩)
    · exact h.sub fun p hp => List.mem_append_left _ hp
    · have e : TC (l ++ [(f, g)]) f g := .one (by simp)
      have up : ∀ {x y}, RTC l x y → RTC (l ++ [(f, g)]) x y := fun h => h.imp id fun h => h.sub fun p hp => List.mem_append_left _ hp
      exact (up h).tc (e.rtc (up k))
theorem good_snoc {n : Int} {l : List (Int × Int)} {f g : Int} : allGood n (l ++ [(f, g)]) ↔ allGood n l ∧ ¬ badPair n (f, g) := by
  unfold allGood
  constructor
  · exact fun h => ⟨fun p hp => h p (List.mem_append_left _ hp), h _ (by simp)⟩
  · rintro ⟨h, k⟩ p hp
    rcases List.mem_append.1 hp with hp | hp
    · exact h p hp
    · simp at hp; rw [hp]; exact k
theorem perr_snoc_err {n : Int} {l : List (Int × Int)} {f g : Int} (h : perr n l ≠ 0) : perr n (l ++ [(f, g)]) ≠ 0 := by
  intro h2
  obtain ⟨h3, h4, h5⟩ := perr_zero.1 h2
  exact h (perr_zero.2 ⟨h3, (good_snoc.1 h4).1, fun ⟨x, hx⟩ => h5 ⟨x, hx.sub fun p hp => List.mem_append_left _ hp⟩⟩)
theorem perr_snoc_bad {n : Int} {l : List (Int × Int)} {f g : Int} (h : perr n l = 0) (hb : ¬ (0 ≤ f ∧ f < n ∧ 0 ≤ g ∧ g < n)) : perr n (l ++ [(f, g)]) = 100 := by
  obtain ⟨h3, h4, h5⟩ := perr_zero.1 h
  unfold perr
  rw [if_neg (by omega), if_pos (fun h6 => (good_snoc.1 h6).2 (by unfold badPair; simp only; omega))]
theorem perr_snoc_cyc {n : Int} {l : List (Int × Int)} {f g : Int} (h : perr n l = 0) (hb : 0 ≤ f ∧ f < n ∧ 0 ≤ g ∧ g < n) (hc : f = g ∨ up l g f = true) : perr n (l ++ [(f, g)]) = 101 := by
  obtain ⟨h3, h4, h5⟩ := perr_zero.1 h
  have hcy : Cyclic (l ++ [(f, g)]) := by
    refine ⟨f, tc_snoc.2 (.inr ⟨.inl rfl, ?_⟩)⟩
    rcases hc with rfl | hc
    · exact .inl rfl
    · exact .inr (up_iff.1 hc)
  unfold perr
  rw [if_neg (by omega), if_neg (fun h6 => h6 (good_snoc.2 ⟨h4, by unfold badPair; simp only; omega⟩)), if_pos hcy]
theorem perr_snoc_ok {n : Int} {l : List (Int × Int)} {f g : Int} (h : perr n l = 0) (hb : 0 ≤ f ∧ f < n ∧ 0 ≤ g ∧ g < n) (h1 : f ≠ g) (h2 : up l g f = false) : perr n (l ++ [(f, g)]) = 0 := by
  obtain ⟨h3, h4, h5⟩ := perr_zero.1 h
  refine perr_zero.2 ⟨h3, good_snoc.2 ⟨h4, by unfold badPair; simp only; omega⟩, fun ⟨x, hx⟩ => ?_⟩
  rcases tc_snoc.1 hx with hx | ⟨ha, hb⟩
  · exact h5 ⟨x, hx⟩
  · rcases hb with rfl | hb
    · rcases ha with rfl | ha
      · exact h1 rfl
      · exact up_false.1 h2 ha
    · exact up_false.1 h2 (hb.rtc ha)
theorem up_snoc {l : List (Int × Int)} {f g a b : Int} : up (l ++ [(f, g)]) a b = (up l a b || ((decide (a = f) || up l a f) && (decide (b = g) || up l g b))) := by
  rw [Bool.eq_iff_iff, up_iff, tc_snoc]
  simp only [Bool.or_eq_true, Bool.and_eq_true, decide_eq_true_eq, up_iff, RTC]
  constructor
  · rintro (h | ⟨h, k⟩)
    · exact .inl h
    · exact .inr ⟨h, k.imp Eq.symm id⟩
  · rintro (h | ⟨h, k⟩)
    · exact .inl h
    · exact .inr ⟨h, k.imp Eq.symm id⟩

end Go.Proofs.YthpdfkhmhaobgaaDoor
