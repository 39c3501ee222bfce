/- Places of a term: what stands there, below it, above it, behind it; a term laid into one. Conditions: none. -/
import Derived.Test.YtfelhlffiiephaaDoorRead
set_option linter.unusedVariables false
set_option linter.unusedSimpArgs false
namespace Go.Proofs.YtfelhlffiiephaaDoor

/-- The place behind the term at a place. -/
def endOf (l : List Sy) (t : List Int) (i : Nat) : Nat := match scanAt l t 1 i with
  | .ok e => e
  | .error _ => i
/-- The places above a place. -/
def aboveOf (l : List Sy) (t : List Int) (a : Nat) : List Int := ((List.range a).filter fun i => decide (a < endOf l t i)).map Int.ofNat
/-- What is wrong with a place. -/
def placeErr (l : List Sy) (t : List Int) (a : Int) : Int := if termErr l t ≠ 0 then termErr l t else if a < 0 ∨ (t.length : Int) ≤ a then 33 else 0
theorem scan_inside {l : List Sy} {t : List Int} : ∀ (n k i e : Nat), t.length - i ≤ n → scanAt l t k i = .ok e → ∀ j, i ≤ j → j < e → ∃ e', scanAt l t 1 j = .ok e' ∧ e' ≤ e ∧ j < t.length
  | n, 0, i, e, _, h, j, h1, h2 => by
    rw [scanAt_zero] at h
    injection h with h
    omega
  | n, k + 1, i, e, hn, h, j, h1, h2 => by
    by_cases hi : i < t.length
    · by_cases hb : codeBad l (t.getD i 0)
      · rw [scanAt_bad l t k i hi hb] at h; cases h
      · by_cases hj : j = i
        · subst hj
          have ha := scanAt_add l t 1 k j
          rw [Nat.add_comm 1 k, h] at ha
          cases hs : scanAt l t 1 j with
          | error er => rw [hs] at ha; cases ha
          | ok m =>
            rw [hs] at ha
            have := (scanAt_ok ha.symm).1
            exact ⟨m, rfl, by omega, hi⟩
        · rw [scanAt_step l t k i hi hb] at h
          cases n with
          | zero => omega
          | succ n => exact scan_inside n _ (i + 1) e (by omega) h j (by omega) h2
    · rw [scanAt_end l t k i (by omega)] at h; cases h
theorem endOf_ok {l : List Sy} {t : List Int} {i e : Nat} (h : scanAt l t 1 i = .ok e) : endOf l t i = e := by unfold endOf; rw [h]
theorem above_snoc {l : List Sy} {t : List Int} {a i : Nat} (h : a < endOf l t i) : ((List.range (i + 1)).filter fun i => decide (a < endOf l t i)) = ((List.range i).filter fun i => decide (a < endOf l t i)) ++ [i] := by
  rw [List.range_succ, List.filter_append]; simp [h]
theorem above_skip {l : List Sy} {t : List Int} {a i : Nat} : ∀ (m : Nat), (∀ j, i ≤ j → j < i + m → endOf l t j ≤ a) → ((List.range (i + m)).filter fun i => decide (a < endOf l t i)) = (List.range i).filter fun i => decide (a < endOf l t i)
  | 0, _ => rfl
  | m + 1, h => by
    rw [← Nat.add_assoc, List.range_succ, List.filter_append, above_skip m (fun j h1 h2 => h j h1 (by omega))]
    have := h (i + m) (by omega) (by omega)
    simp [Nat.not_lt.2 this]

/-- What stands at a place. -/
def subAt (l : List Sy) (t : List Int) (p : Nat) : List Int := (t.drop p).take (endOf l t p - p)
theorem place_zero {l : List Sy} {t : List Int} {a : Int} (h : placeErr l t a = 0) : termErr l t = 0 ∧ 0 ≤ a ∧ a < t.length := by
  unfold placeErr at h
  by_cases h0 : termErr l t = 0
  · rw [if_neg (by simp [h0])] at h
    by_cases h1 : a < 0 ∨ (t.length : Int) ≤ a
    · rw [if_pos h1] at h; cases h
    · exact ⟨h0, by omega, by omega⟩
  · rw [if_pos h0] at h; exact absurd h h0
/-- The places of so many terms, one behind the other. -/
def kidsFrom (l : List Sy) (t : List Int) : Nat → Nat → List Int
  | 0, _ => []
  | n + 1, m => (m : Int) :: kidsFrom l t n (endOf l t m)
/-- The places right below a place. -/
def kidsAt (l : List Sy) (t : List Int) (p : Nat) : List Int := if t.getD p 0 < 0 then [] else kidsFrom l t (arOf l (t.getD p 0)) (p + 1)
theorem root_ok {l : List Sy} {t : List Int} (h : termErr l t = 0) : scanAt l t 1 0 = .ok t.length := by
  have hs : sigErr l = 0 := by
    unfold termErr at h
    by_cases hs : sigErr l = 0
    · exact hs
    · rw [if_pos hs] at h; exact absurd h hs
  have hr : rowErr l t = 0 := by unfold termErr at h; rwa [if_neg (by simp [hs])] at h
  have := rowErr_at l t
  rw [hr] at this
  cases hq : scanAt l t 1 0 with
  | error er => rw [hq] at this; rcases scanAt_err hq with h | h <;> simp [h] at this
  | ok n =>
    rw [hq] at this
    have hn := (scanAt_ok hq).2 (Nat.zero_le _)
    simp only at this
    by_cases hlt : n < t.length
    · rw [if_pos hlt] at this; cases this
    · have : n = t.length := by omega
      rw [this]
/-- What is wrong with a term laid into a place. -/
def replErr (l : List Sy) (t : List Int) (a : Int) (u : List Int) : Int :=
  if termErr l t ≠ 0 then termErr l t else if termErr l u ≠ 0 then termErr l u else if placeErr l t a ≠ 0 then placeErr l t a else if 512 < a.toNat + u.length + (t.length - endOf l t a.toNat) then 2 else 0
/-- A term laid into a place. -/
def replAt (l : List Sy) (t : List Int) (p : Nat) (u : List Int) : List Int := t.take p ++ u ++ t.drop (endOf l t p)
theorem term_sig {l : List Sy} {t : List Int} (h : termErr l t = 0) : sigErr l = 0 := by
  unfold termErr at h
  by_cases hs : sigErr l = 0
  · exact hs
  · rw [if_pos hs] at h; exact absurd h hs
theorem scan_next {l : List Sy} {t : List Int} {n m e : Nat} (h : scanAt l t (n + 1) m = .ok e) : ∃ m', scanAt l t 1 m = .ok m' ∧ scanAt l t n m' = .ok e ∧ m < m' := by
  have ha := scanAt_add l t 1 n m
  rw [Nat.add_comm 1 n, h] at ha
  cases hs : scanAt l t 1 m with
  | error er => rw [hs] at ha; cases ha
  | ok m' =>
    rw [hs] at ha
    exact ⟨m', rfl, ha.symm, by have := (scanAt_ok hs).1; omega⟩
theorem scan_more {l : List Sy} {t : List Int} {k j e : Nat} (h : scanAt l t (k + 1) j = .ok e) : j < t.length ∧ ¬ codeBad l (t.getD j 0) ∧ scanAt l t (k + arOf l (t.getD j 0)) (j + 1) = .ok e := by
  by_cases hj : j < t.length
  · by_cases hb : codeBad l (t.getD j 0)
    · rw [scanAt_bad l t k j hj hb] at h; cases h
    · exact ⟨hj, hb, by rw [scanAt_step l t k j hj hb] at h; exact h⟩
  · rw [scanAt_end l t k j (by omega)] at h; cases h
theorem rowErr_zero {l : List Sy} {t : List Int} : rowErr l t = 0 ↔ scan l 1 t = .ok t.length := by
  unfold rowErr
  cases h : scan l 1 t with
  | error e =>
    rcases scan_err l t 1 e h with rfl | rfl <;> simp
  | ok n =>
    have := (scan_ok l t 1 n h).2
    simp only
    constructor
    · intro h2
      split at h2
      · cases h2
      · have : n = t.length := by omega
        rw [this]
    · intro h2
      injection h2 with h2
      rw [if_neg (by omega)]
theorem scan_take (l : List Sy) : ∀ (u : List Int) (k n : Nat), scan l k u = .ok n → scan l k (u.take n) = .ok n
  | [], k, n, h => by simpa using h
  | c :: u, 0, n, h => by
    simp [scan] at h
    subst h
    simp [scan]
  | c :: u, k + 1, n, h => by
    unfold scan at h
    split at h
    · cases h
    · rename_i hb
      cases hs : scan l (k + arOf l c) u with
      | error e => rw [hs] at h; cases h
      | ok m =>
        rw [hs] at h
        have hm : m + 1 = n := by simpa using h
        subst hm
        rw [List.take_succ_cons, scan, if_neg hb, scan_take l u _ m hs]
theorem sub_right {l : List Sy} {t : List Int} {m e : Nat} (h : scanAt l t 1 m = .ok e) : rowErr l (subAt l t m) = 0 := by
  rw [rowErr_zero]
  unfold subAt
  rw [endOf_ok h]
  unfold scanAt at h
  cases hs : scan l 1 (t.drop m) with
  | error er => rw [hs] at h; cases h
  | ok n =>
    rw [hs] at h
    have hn : n + m = e := by simpa using h
    have hle := (scan_ok l (t.drop m) 1 n hs).2
    have e1 : e - m = n := by omega
    rw [e1, scan_take l _ 1 n hs, List.length_take]
    congr 1
    omega
theorem kids_cover {l : List Sy} {t : List Int} : ∀ (n m e : Nat), m ≤ t.length → scanAt l t n m = .ok e → (kidsFrom l t n m).flatMap (fun k => subAt l t k.toNat) = (t.drop m).take (e - m) ∧ ∀ k ∈ kidsFrom l t n m, ∃ (p e' : Nat), k = (p : Int) ∧ p < t.length ∧ scanAt l t 1 p = .ok e'
  | 0, m, e, _, h => by
    rw [scanAt_zero] at h
    injection h with h
    subst h
    simp [kidsFrom]
  | n + 1, m, e, hm, h => by
    have ha := scanAt_add l t 1 n m
    rw [Nat.add_comm 1 n, h] at ha
    cases hs : scanAt l t 1 m with
    | error er => rw [hs] at ha; cases ha
    | ok m' =>
      rw [hs] at ha
      have h1 := scanAt_ok hs
      have hm' := h1.2 hm
      have h2 := scanAt_ok ha.symm
      have he := h2.2 hm'
      obtain ⟨ih1, ih2⟩ := kids_cover n m' e hm' ha.symm
      have hml : m < t.length := by omega
      refine ⟨?_, fun k hk => ?_⟩
      · rw [kidsFrom, List.flatMap_cons, endOf_ok hs, ih1, Int.toNat_natCast]
        unfold subAt
        rw [endOf_ok hs]
        have e1 : e - m = (m' - m) + (e - m') := by omega
        rw [e1, List.take_add, List.drop_drop]
        have e2 : m + (m' - m) = m' := by omega
        rw [e2]
      · rw [kidsFrom] at hk
        rcases List.mem_cons.1 hk with rfl | hk
        · exact ⟨m, m', rfl, hml, hs⟩
        · rw [endOf_ok hs] at hk; exact ih2 k hk
/-- A term is its root and its arguments. -/
theorem root_kids {l : List Sy} {t : List Int} (h : scanAt l t 1 0 = .ok t.length) (h0 : 0 < t.length) (hp : ¬ t.getD 0 0 < 0) :
    t = t.getD 0 0 :: (kidsAt l t 0).flatMap (fun k => subAt l t k.toNat) ∧ ∀ k ∈ kidsAt l t 0, ∃ (p e' : Nat), k = (p : Int) ∧ p < t.length ∧ scanAt l t 1 p = .ok e' := by
  have hb : ¬ codeBad l (t.getD 0 0) := fun hb => by rw [scanAt_bad l t 0 0 h0 hb] at h; cases h
  rw [scanAt_step l t 0 0 h0 hb, Nat.zero_add] at h
  obtain ⟨h1, h2⟩ := kids_cover _ 1 t.length (by omega) h
  unfold kidsAt
  rw [if_neg hp]
  refine ⟨?_, h2⟩
  rw [h1]
  have e : t = t.drop 0 := rfl
  have e2 : t.drop 0 = t.getD 0 0 :: t.drop 1 := drop_cons t 0 h0
  have e3 : (t.drop 1).take (t.length - 1) = t.drop 1 := List.take_of_length_le (by simp)
  rw [e3, ← e2]; rfl
end Go.Proofs.YtfelhlffiiephaaDoor
