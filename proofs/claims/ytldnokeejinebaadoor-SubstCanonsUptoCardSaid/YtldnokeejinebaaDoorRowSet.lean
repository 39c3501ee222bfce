/- Rows of the call's own behind a row of the call's own that is appended to. Conditions: none. -/
import Derived.Test.YtldnokeejinebaaDoorSameAll
import Derived.Test.YtldnokeejinebaaDoorCanonR
import Derived.Test.YtldnokeejinebaaDoorNumbers
set_option linter.unusedVariables false
set_option linter.unusedSimpArgs false
namespace Go.Proofs.YtldnokeejinebaaDoor
open Go.RowKit Go.Lib

structure VRows (w wr : World) (hb : Nat) (V : Value) (us : List Value) (done : List (List Int)) : Prop where
  below : Below hb w wr
  lo : hb ≤ wr.heap.size
  own : wr.ownsRow hb 30 1 V done.length us
  rows : Done wr hb us done
  vs : V.ownBlock ≠ none
  uv : ∀ j, j < done.length → (us.getD j undef).ownBlock = none ∨ (us.getD j undef).ownBlock ≠ V.ownBlock
theorem VRows.over {w wr w5 : World} {hb : Nat} {V : Value} {us : List Value} {done : List (List Int)} (h : VRows w wr hb V us done) (hB : Below wr.heap.size wr w5) : VRows w w5 hb V us done :=
  ⟨below_then h.below h.lo hB, Nat.le_trans h.lo hB.size, own_kept h.own hB, h.rows.below hB, h.vs, h.uv⟩
theorem VRows.start {w : World} {hb : Nat} (h : hb = w.heap.size) : VRows w (w.alloc (.cells #[] 30)) hb (.slice (some ⟨hb, 0, none⟩) 0 0) [] [] := by
  have h0 := own_empty w 30 1 hb h
  exact ⟨by rw [h]; exact below_alloc0 _ _, by simp; omega, h0, (fun j hj => by cases hj), (fun e => by cases e), (fun j hj => by cases hj)⟩
theorem VRows.push {w wr w5 : World} {hb : Nat} {V V' R : Value} {us : List Value} {done : List (List Int)} {acc : List Int} (k : VRows w wr hb V us done) (r : RowO wr hb R acc) (rv : R.ownBlock = none ∨ R.ownBlock ≠ V.ownBlock)
    (ho : w5.ownsRow hb 30 1 V' (done.length + 1) (us ++ [R])) (hg : wr.grownBy w5 V.ownBlock) (hat : V'.ownBlock = V.ownBlock ∨ ∃ g, V'.ownBlock = some g ∧ wr.heap.size ≤ g) : VRows w w5 hb V' (us ++ [R]) (done ++ [acc]) := by
  have hul : us.length = done.length := by have := k.own.1; omega
  have hat' : V'.ownBlock ≠ none := by
    rcases hat with h | ⟨g, h, _⟩ <;> rw [h]
    · exact k.vs
    · exact fun e => by cases e
  have old : ∀ j, j < done.length → (us ++ [R]).getD j undef = us.getD j undef := fun j hj => by
    simp [List.getD_eq_getElem?_getD, List.getElem?_append_left (show j < us.length by omega)]
  have new : (us ++ [R]).getD done.length undef = R := by rw [← hul]; simp [List.getD_eq_getElem?_getD]
  have hD : Done w5 hb (us ++ [R]) done := fun j hj => by rw [old j hj]; exact (k.rows j hj).kept hg (k.uv j hj)
  have ne : ∀ (y : Value) {a : List Int}, RowO wr hb y a → (y.ownBlock = none ∨ y.ownBlock ≠ V.ownBlock) → y.ownBlock = none ∨ y.ownBlock ≠ V'.ownBlock := fun y a hy hn => by
    by_cases h0 : y.ownBlock = none
    · exact .inl h0
    · exact .inr (other_ne hy.1 h0 (hn.resolve_left h0) hat)
  refine ⟨k.below.grown hg k.lo (fun j hj => (k.own.lt j hj).1), Nat.le_trans k.lo hg.size, by rw [List.length_append]; exact ho, hD.snoc (by rw [new]; exact r.kept hg rv), hat', fun j hj => ?_⟩
  by_cases e : j < done.length
  · rw [old j e]; exact ne _ (k.rows j e) (k.uv j e)
  · have ej : j = done.length := by rw [List.length_append] at hj; simp at hj; omega
    rw [ej, new]; exact ne _ r rv
theorem VRows.reads {w wr : World} {hb : Nat} {V : Value} {us : List Value} {done : List (List Int)} (h : VRows w wr hb V us done) (h24 : done.length * 24 ≤ 140737488355328) : ∃ A c, V = .slice A done.length c ∧ done.length ≤ c ∧ (A = none → done.length = 0 ∧ c = 0) ∧ RowsIn wr A done :=
  OwnRows.reads (us := us) ⟨by have := h.own.1; omega, h.own, h24, h.rows⟩
theorem bulk_map (l : List (List Int)) (φ : Int → Int) : bulkOf (l.map (·.map φ)) = bulkOf l := by
  unfold bulkOf
  rw [List.map_map]
  congr 1
  exact List.map_congr_left (fun t _ => by simp)
theorem bulk_canon (l : List (List Int)) : bulkOf (canon l) = bulkOf l := by rw [(canon_out l).1]; exact bulk_map l _
end Go.Proofs.YtldnokeejinebaaDoor
