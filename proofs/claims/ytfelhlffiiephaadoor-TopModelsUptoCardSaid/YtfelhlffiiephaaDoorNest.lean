/- The places of a term are those of a tree: what lies above a place, and how many places lie below one. Conditions: none. -/
import Derived.Test.YtfelhlffiiephaaDoorCtx
set_option linter.unusedVariables false
set_option linter.unusedSimpArgs false
namespace Go.Proofs.YtfelhlffiiephaaDoor

section
variable {l : List Sy} {t : List Int}
theorem nested (h : termErr l t = 0) {i j : Nat} (hi : i < t.length) (h1 : i ≤ j) (h2 : j < endOf l t i) : j < t.length ∧ endOf l t j ≤ endOf l t i := by
  obtain ⟨hE, hE1, hE2⟩ := place_end h hi
  obtain ⟨e', he', hle, hjl⟩ := scan_inside t.length 1 i (endOf l t i) (by omega) hE j h1 h2
  exact ⟨hjl, by rw [endOf_ok he']; exact hle⟩
theorem root_end (h : termErr l t = 0) : endOf l t 0 = t.length := endOf_ok (root_ok h)
theorem kids_skip (h : termErr l t = 0) : ∀ (n m e : Nat), m ≤ t.length → scanAt l t n m = .ok e → ∀ k ∈ kidsFrom l t n m, ∃ p : Nat, k = (p : Int) ∧ m ≤ p ∧ p < e ∧ p < t.length ∧ ∀ j, m ≤ j → j < p → endOf l t j ≤ p
  | 0, m, e, _, _, k, hk => by simp [kidsFrom] at hk
  | n + 1, m, e, hm, hs, k, hk => by
    obtain ⟨m', hs1, hs2, hmm⟩ := scan_next hs
    have hm' := (scanAt_ok hs1).2 hm
    have he := (scanAt_ok hs2).1
    rw [kidsFrom, endOf_ok hs1] at hk
    rcases List.mem_cons.1 hk with rfl | hk
    · exact ⟨m, rfl, Nat.le_refl _, by omega, by omega, fun j h1 h2 => by omega⟩
    · obtain ⟨p, rfl, hp1, hp2, hp3, hp4⟩ := kids_skip h n m' e hm' hs2 k hk
      refine ⟨p, rfl, by omega, hp2, hp3, fun j h1 h2 => ?_⟩
      by_cases hj : j < m'
      · obtain ⟨e', he', hle, _⟩ := scan_inside t.length 1 m m' (by omega) hs1 j h1 hj
        rw [endOf_ok he']; omega
      · exact hp4 j (by omega) h2
/-- The places above a place, as they rise. -/
def ups (l : List Sy) (t : List Int) (i : Nat) : List Nat := (List.range i).filter fun j => decide (i < endOf l t j)
theorem above_ups (i : Nat) : aboveOf l t i = (ups l t i).map Int.ofNat := rfl
theorem ups_mem {i j : Nat} : j ∈ ups l t i ↔ j < i ∧ i < endOf l t j := by unfold ups; simp
theorem ups_sorted (i : Nat) : (ups l t i).Pairwise (· < ·) := List.pairwise_lt_range.filter _
theorem ups_len (i : Nat) : (ups l t i).length ≤ i := by
  unfold ups
  exact Nat.le_trans (List.length_filter_le _ _) (by simp)
theorem ups_at {i k : Nat} (hk : k < (ups l t i).length) : (ups l t i).getD k 0 < i ∧ i < endOf l t ((ups l t i).getD k 0) ∧ (ups l t i).getD k 0 ∉ (ups l t i).take k ∧ ∀ m, m < k → (ups l t i).getD m 0 < (ups l t i).getD k 0 := by
  have hlt : ∀ m, m < k → (ups l t i).getD m 0 < (ups l t i).getD k 0 := fun m hm => by
    have := List.pairwise_iff_getElem.1 (ups_sorted (l := l) (t := t) i) m k (by omega) hk hm
    simpa [List.getD_eq_getElem?_getD, List.getElem?_eq_getElem hk, List.getElem?_eq_getElem (show m < (ups l t i).length by omega)] using this
  have hm := ups_mem.1 (getD_mem (d := 0) hk rfl)
  refine ⟨hm.1, hm.2, fun hin => ?_, hlt⟩
  obtain ⟨m, hm1, hm2⟩ := List.getElem_of_mem hin
  rw [List.length_take] at hm1
  have := hlt m (by omega)
  rw [List.getElem_take] at hm2
  rw [List.getD_eq_getElem?_getD, List.getElem?_eq_getElem (show m < (ups l t i).length by omega), Option.getD_some] at this
  omega
theorem ups_zero (h : termErr l t = 0) {i : Nat} (h0 : 0 < i) (hi : i < t.length) : 0 < (ups l t i).length ∧ (ups l t i).getD 0 0 = 0 := by
  have hm : 0 ∈ ups l t i := ups_mem.2 ⟨h0, by rw [root_end h]; exact hi⟩
  have hl : 0 < (ups l t i).length := List.length_pos_of_mem hm
  refine ⟨hl, ?_⟩
  obtain ⟨m, hm1, hm2⟩ := List.getElem_of_mem hm
  cases m with
  | zero => simpa [List.getD_eq_getElem?_getD, List.getElem?_eq_getElem hl] using hm2
  | succ m =>
    have := (ups_at (l := l) (t := t) hm1).2.2.2 0 (by omega)
    rw [List.getD_eq_getElem?_getD (i := m + 1), List.getElem?_eq_getElem hm1, Option.getD_some] at this
    omega
/-- Each kid has the node as the last one above it. -/
theorem above_kid (h : termErr l t = 0) {i : Nat} (hi : i < t.length) : ∀ k ∈ kidsAt l t i, ∃ p : Nat, k = (p : Int) ∧ p < t.length ∧ aboveOf l t p = aboveOf l t i ++ [(i : Int)] := by
  intro k hk
  unfold kidsAt at hk
  by_cases hn : t.getD i 0 < 0
  · rw [if_pos hn] at hk; cases hk
  rw [if_neg hn] at hk
  obtain ⟨hE, hE1, hE2⟩ := place_end h hi
  obtain ⟨_, _, hN⟩ := scan_more (k := 0) hE
  rw [Nat.zero_add] at hN
  obtain ⟨p, rfl, hp1, hp2, hp3, hp4⟩ := kids_skip h _ (i + 1) _ (by omega) hN k hk
  refine ⟨p, rfl, hp3, ?_⟩
  have e1 := above_skip (l := l) (t := t) (a := p) (i := i + 1) (p - (i + 1)) (fun j h1 h2 => hp4 j h1 (by omega))
  rw [show i + 1 + (p - (i + 1)) = p by omega, above_snoc hp2] at e1
  unfold aboveOf
  rw [e1, List.map_append]
  congr 2
  apply List.filter_congr
  intro j hj
  have hj : j < i := by simpa using hj
  by_cases hc : i < endOf l t j
  · have := (nested h (show j < t.length by omega) (by omega) hc).2
    rw [decide_eq_true hc, decide_eq_true (by omega)]
  · rw [decide_eq_false hc, decide_eq_false (by omega)]
theorem kids_count {i : Nat} : (kidsAt l t i).length = if t.getD i 0 < 0 then 0 else arOf l (t.getD i 0) := by
  have hl : ∀ n m, (kidsFrom l t n m).length = n := fun n => by
    induction n with
    | zero => intro m; rfl
    | succ n ih => intro m; rw [kidsFrom, List.length_cons, ih]
  unfold kidsAt
  split
  · rfl
  · exact hl _ _
/-- How often a place was counted, with the first so many rows of places above done. -/
def cnt (l : List Sy) (t : List Int) (i j : Nat) : Nat := min i (endOf l t j) - min i j
/-- A row of counts. -/
def tally (n : Nat) (f : Nat → Nat) : List Int := (List.range n).map fun j => ((f j : Nat) : Int)
theorem tally_length (n : Nat) (f : Nat → Nat) : (tally n f).length = n := by simp [tally]
theorem tally_at {n x : Nat} (f : Nat → Nat) (hx : x < n) : (tally n f).getD x 0 = (f x : Int) := by
  simp [tally, List.getD_eq_getElem?_getD, List.getElem?_map, List.getElem?_range hx]
theorem tally_set {n x : Nat} (f : Nat → Nat) (hx : x < n) : (tally n f).set x ((f x : Int) + 1) = tally n (fun j => if j = x then f j + 1 else f j) := by
  apply List.ext_getElem
  · simp [tally]
  · intro k h1 h2
    have hk : k < n := by simpa [tally] using h2
    rw [List.getElem_set]
    by_cases e : x = k
    · subst e; simp [tally]
    · rw [if_neg e]
      have e' : ¬ k = x := fun h => e h.symm
      simp [tally, e']
theorem tally_congr {n : Nat} {f g : Nat → Nat} (h : ∀ j, j < n → f j = g j) : tally n f = tally n g := by
  apply List.map_congr_left
  intro j hj
  rw [h j (by simpa using hj)]
/-- Inside a row of places above. -/
def cntIn (l : List Sy) (t : List Int) (i k j : Nat) : Nat := cnt l t i j + (if j = i then 1 else 0) + (if j ∈ (ups l t i).take k then 1 else 0)
theorem cnt_zero (j : Nat) : cnt l t 0 j = 0 := by unfold cnt; omega
theorem cntIn_zero (i j : Nat) : cntIn l t i 0 j = if j = i then cnt l t i j + 1 else cnt l t i j := by
  unfold cntIn
  split <;> simp
theorem cntIn_step {i k : Nat} (hk : k < (ups l t i).length) (j : Nat) : cntIn l t i (k + 1) j = if j = (ups l t i).getD k 0 then cntIn l t i k j + 1 else cntIn l t i k j := by
  obtain ⟨h1, h2, h3, h4⟩ := ups_at hk
  have ht := take_succ' (ups l t i) 0 hk
  unfold cntIn
  rw [ht]
  generalize (if j = i then 1 else 0) = z
  by_cases e : j = (ups l t i).getD k 0
  · rw [if_pos e]
    rw [← e] at h3
    rw [if_neg h3, if_pos (by rw [← e]; simp)]
  · rw [if_neg e]
    by_cases hin : j ∈ (ups l t i).take k
    · rw [if_pos hin, if_pos (by simp [hin])]
    · rw [if_neg hin, if_neg (by simp only [List.mem_append, List.mem_singleton]; rintro (h | h); exact hin h; exact e h)]
theorem cntIn_end (h : termErr l t = 0) {i : Nat} (hi : i < t.length) (j : Nat) (hj : j < t.length) : cntIn l t i (ups l t i).length j = cnt l t (i + 1) j := by
  obtain ⟨_, hE1, _⟩ := place_end h hj
  unfold cntIn
  rw [List.take_length]
  unfold cnt
  by_cases e : j = i
  · subst e
    rw [if_pos rfl, if_neg (by rw [ups_mem]; omega)]
    omega
  · rw [if_neg e]
    by_cases hin : j ∈ ups l t i
    · rw [if_pos hin]
      have := ups_mem.1 hin
      omega
    · rw [if_neg hin]
      have : ¬ (j < i ∧ i < endOf l t j) := fun h => hin (ups_mem.2 h)
      omega
theorem cnt_all (h : termErr l t = 0) {j : Nat} (hj : j < t.length) : cnt l t t.length j = endOf l t j - j := by
  obtain ⟨_, hE1, hE2⟩ := place_end h hj
  unfold cnt
  omega
theorem cnt_le (i j : Nat) : cnt l t i j ≤ i := by unfold cnt; omega
theorem cntIn_le (i k j : Nat) : cntIn l t i k j ≤ i + 2 := by
  unfold cntIn
  have := cnt_le (l := l) (t := t) i j
  split <;> split <;> omega
end
end Go.Proofs.YtfelhlffiiephaaDoor
