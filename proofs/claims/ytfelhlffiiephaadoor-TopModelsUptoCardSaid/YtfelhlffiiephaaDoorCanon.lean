/- Variables numbered anew: what comes of lists of rows, and the walk of the program's way. Conditions: the rows together hold at most 2^43 numbers. -/
import Derived.Test.YtfelhlffiiephaaDoorMet
set_option linter.unusedVariables false
set_option linter.unusedSimpArgs false
namespace Go.Proofs.YtfelhlffiiephaaDoor
open Go.RowKit Go.Lib

/-- A row numbered anew, behind what was: the variables met, and the row. -/
def canonRow : List Int → List Int → List Int → List Int × List Int
  | met, acc, [] => (met, acc)
  | met, acc, c :: t => if 0 ≤ c then canonRow met (acc ++ [c]) t else canonRow (meet met c) (acc ++ [-1 - (met.idxOf c : Int)]) t
def canonOn : List Int → List (List Int) → List (List Int) → List (List Int)
  | met, out, [] => out
  | met, out, t :: l => canonOn (canonRow met [] t).1 (out ++ [(canonRow met [] t).2]) l
/-- Rows numbered anew. -/
def canon (l : List (List Int)) : List (List Int) := canonOn [] [] l
/-- How many numbers rows hold. -/
def bulkOf (l : List (List Int)) : Nat := (l.map List.length).sum

theorem canonRow_plain {met acc t : List Int} {k : Nat} {c : Int} (hk : k < t.length) (hc : t.getD k 0 = c) (h0 : 0 ≤ c) : canonRow met acc (t.drop k) = canonRow met (acc ++ [c]) (t.drop (k + 1)) := by
  rw [drop_cons t k hk, hc, canonRow, if_pos h0]
theorem canonRow_var {met acc t : List Int} {k : Nat} {c : Int} (hk : k < t.length) (hc : t.getD k 0 = c) (h0 : ¬ 0 ≤ c) : canonRow met acc (t.drop k) = canonRow (meet met c) (acc ++ [-1 - (met.idxOf c : Int)]) (t.drop (k + 1)) := by
  rw [drop_cons t k hk, hc, canonRow, if_neg h0]
theorem canonRow_end {met acc t : List Int} : canonRow met acc (t.drop t.length) = (met, acc) := by rw [List.drop_length]; rfl
theorem drop_rows (l : List (List Int)) (i : Nat) (h : i < l.length) : l.drop i = l.getD i [] :: l.drop (i + 1) := by
  rw [List.drop_eq_getElem_cons h]; simp [List.getD_eq_getElem?_getD, List.getElem?_eq_getElem h]
theorem canonOn_step {met : List Int} {out l : List (List Int)} {i : Nat} {t : List Int} (hi : i < l.length) (ht : l.getD i [] = t) : canonOn met out (l.drop i) = canonOn (canonRow met [] t).1 (out ++ [(canonRow met [] t).2]) (l.drop (i + 1)) := by
  rw [drop_rows l i hi, ht, canonOn]
theorem canonOn_end {met : List Int} {out l : List (List Int)} : canonOn met out (l.drop l.length) = out := by rw [List.drop_length]; rfl
theorem canonRow_met : ∀ (t met acc : List Int), (canonRow met acc t).1.length ≤ met.length + t.length
  | [], met, acc => by simp [canonRow]
  | c :: t, met, acc => by
    unfold canonRow
    split
    · have := canonRow_met t met (acc ++ [c]); simp only [List.length_cons]; omega
    · have := canonRow_met t (meet met c) (acc ++ [-1 - (met.idxOf c : Int)])
      have := meet_length met c
      simp only [List.length_cons]; omega
theorem bulk_drop (l : List (List Int)) (i : Nat) (h : i < l.length) : bulkOf (l.drop i) = (l.getD i []).length + bulkOf (l.drop (i + 1)) := by
  rw [drop_rows l i h]; simp [bulkOf]

/-- A list of rows that is read. -/
def RowsIn (w : World) (A : Option Addr) (l : List (List Int)) : Prop :=
  l.length ≤ 140737488355328 ∧ (0 < l.length → ∃ b off, A = some ⟨b, off, none⟩ ∧ ∀ k, k < l.length → ∃ u, w.cell? ⟨b, off + k, none⟩ = some u ∧ RowV w u (l.getD k []))
theorem RowsIn.kept {w w' : World} {A : Option Addr} {l : List (List Int)} (h : RowsIn w A l) (hb : Below w.heap.size w w') : RowsIn w' A l :=
  ⟨h.1, fun h0 => by
    obtain ⟨b, off, rfl, hc⟩ := h.2 h0
    exact ⟨b, off, rfl, fun k hk => by
      obtain ⟨u, h3, h4⟩ := hc k hk
      exact ⟨u, cell_kept hb h3, h4.kept hb⟩⟩⟩
theorem RowsIn.at_ {w : World} {A : Option Addr} {l : List (List Int)} (h : RowsIn w A l) {k : Nat} (hk : k < l.length) :
    ∃ b off t B c, A = some ⟨b, off, none⟩ ∧ l.getD k [] = t ∧ w.cell? ⟨b, off + k, none⟩ = some (.slice B t.length c) ∧ t.length ≤ c ∧ (B = none → t.length = 0 ∧ c = 0) ∧ t.length * 8 ≤ 140737488355328 ∧ Ints w B t := by
  obtain ⟨b, off, rfl, hc⟩ := h.2 (by omega)
  obtain ⟨u, h3, B, c, rfl, h4, h5, h6, h7⟩ := hc k hk
  exact ⟨b, off, _, B, c, rfl, rfl, h3, h4, h5, h6, h7⟩

/-- The first so many of values are own rows. -/
def Done (w : World) (base : Nat) (us : List Value) (done : List (List Int)) : Prop := ∀ j, j < done.length → RowO w base (us.getD j undef) (done.getD j [])
theorem Done.kept {w w' : World} {row : Option Nat} {base : Nat} {us : List Value} {done : List (List Int)} (h : Done w base us done) (hg : w.grownBy w' row) (hne : ∀ j, j < done.length → (us.getD j undef).ownBlock = none ∨ (us.getD j undef).ownBlock ≠ row) : Done w' base us done :=
  fun j hj => (h j hj).kept hg (hne j hj)
theorem Done.below {w w' : World} {base : Nat} {us : List Value} {done : List (List Int)} (h : Done w base us done) (hb : Below w.heap.size w w') : Done w' base us done := fun j hj => (h j hj).below hb
/-- Own rows behind an own row of slices. -/
structure OwnRows (w : World) (base : Nat) (v : Value) (l : List (List Int)) (us : List Value) : Prop where
  len : us.length = l.length
  own : w.ownsRow base 38 1 v l.length us
  h24 : l.length * 24 ≤ 140737488355328
  rows : ∀ k, k < l.length → RowO w base (us.getD k undef) (l.getD k [])
theorem OwnRows.reads {w : World} {base : Nat} {v : Value} {l : List (List Int)} {us : List Value} (h : OwnRows w base v l us) : ∃ A c, v = .slice A l.length c ∧ l.length ≤ c ∧ (A = none → l.length = 0 ∧ c = 0) ∧ RowsIn w A l := by
  obtain ⟨hl, hown, h24, hrows⟩ := h
  obtain ⟨A, c, hv, hle, hn⟩ := own_le hown
  refine ⟨A, c, hv, hle, hn, by omega, fun h0 => ?_⟩
  obtain ⟨g, cap, hv', _, _⟩ := hown.form h0
  rw [hv] at hv'
  injection hv' with e1 e2 e3
  subst e1 e3
  refine ⟨g, 0, rfl, fun k hk => ?_⟩
  subst hv
  refine ⟨us.getD k undef, ?_, (hrows k hk).reads⟩
  rw [Nat.zero_add, hown.cellAt k (by omega)]
  have hk' : k < us.length := by omega
  simp [List.getD_eq_getElem?_getD, List.getElem?_eq_getElem hk']

/-- The map of the variables met. -/
def metF (met : List Int) (c : Int) : Option Value := if c ∈ met then some (.int .i64 (met.idxOf c)) else none
theorem metF_meet {met : List Int} {c : Int} (hc : c ∉ met) (d : Int) : (if d = c then some (Value.int .i64 (met.length : Int)) else metF met d) = metF (meet met c) d := by
  unfold metF meet
  rw [if_neg hc]
  by_cases e : d = c
  · subst e
    rw [if_pos rfl, if_pos (by simp)]
    have : (met ++ [d]).idxOf d = met.length := by rw [List.idxOf_append, if_neg hc]; simp
    rw [this]
  · rw [if_neg e]
    by_cases h : d ∈ met
    · rw [if_pos h, if_pos (by simp [h]), List.idxOf_append, if_pos h]
    · rw [if_neg h, if_neg (by simp [h, e])]
end Go.Proofs.YtfelhlffiiephaaDoor
