/- What binds make of a term, part by part, in the law's own order. Conditions: none. -/
import Derived.Test.YtldnokeejinebaaDoorMore
import Derived.Test.YtldnokeejinebaaDoorParts
set_option linter.unusedVariables false
set_option linter.unusedSimpArgs false
namespace Go.Proofs.YtldnokeejinebaaDoor
open Go.RowKit Go.Lib

theorem apply_bad {l : List Sy} {s : List Bd} {t : List Int} (h : termErr l t ≠ 0 ∨ substErr l s ≠ 0) : applyErr l s t ≠ 0 ∧ applied l s t = [] := by
  have h1 : applyErr l s t ≠ 0 := by
    unfold applyErr
    by_cases h1 : substErr l s = 0
    · rw [if_neg (by simp [h1]), if_pos (h.resolve_right (by simp [h1]))]
      exact h.resolve_right (by simp [h1])
    · rw [if_pos h1]; exact h1
  exact ⟨h1, by unfold applied; rw [if_neg h1]⟩
theorem term_parts {l : List Sy} {t : List Int} (h : termErr l t = 0) : sigErr l = 0 ∧ rowErr l t = 0 := by
  unfold termErr at h
  by_cases hs : sigErr l = 0
  · rw [if_neg (by simp [hs])] at h; exact ⟨hs, h⟩
  · rw [if_pos hs] at h; exact absurd h hs
theorem term_some {l : List Sy} {t : List Int} (h : termErr l t = 0) : 0 < t.length := by
  have := (term_parts h).2
  rw [rowErr_zero] at this
  cases t with
  | nil => unfold scan at this; cases this
  | cons c t => simp
theorem full_nil (t : List Int) : full [] t = t := full_none fun c _ _ => rfl
/-- With no binds. -/
theorem apply_none {l : List Sy} {t : List Int} (h : termErr l t = 0) : applyErr l [] t = (if t.length ≤ 512 then 0 else 2) ∧ applied l [] t = if t.length ≤ 512 then t else [] := by
  obtain ⟨hs, hr⟩ := term_parts h
  have h0 : substErr l [] = 0 := by unfold substErr; rw [if_neg (by simp [hs])]; rfl
  have := apply_of h0 hr
  rwa [full_nil] at this
theorem met_mem : ∀ (t met : List Int) (c : Int), c ∈ met ∨ (c ∈ t ∧ c < 0) → c ∈ metVars met t
  | [], met, c, h => by rcases h with h | ⟨h, _⟩; exact h; cases h
  | d :: t, met, c, h => by
    unfold metVars
    refine met_mem t _ c ?_
    rcases h with h | ⟨h, hn⟩
    · refine .inl ?_
      split
      · unfold meet; split
        · exact h
        · simp [h]
      · exact h
    · rcases List.mem_cons.1 h with rfl | h
      · refine .inl ?_
        rw [if_pos hn]
        unfold meet; split
        · assumption
        · simp
      · exact .inr ⟨h, hn⟩
/-- Where no variable of the term is bound. -/
theorem apply_unmet {l : List Sy} {s : List Bd} {t : List Int} (h : termErr l t = 0) (hs : substErr l s = 0) (hm : ∀ i j, i < (varsOf t).length → j < s.length → (s.getD j bd0).1 ≠ (varsOf t).getD i 0) :
    applyErr l s t = applyErr l [] t ∧ applied l s t = applied l [] t := by
  have hf : full s t = t := full_none fun c hc hn => bound_no fun x hx => by
    obtain ⟨j, hj, hxe⟩ := List.getElem_of_mem hx
    have hv : (-1 - c) ∈ varsOf t := by
      unfold varsOf
      exact List.mem_map_of_mem (f := fun c => -1 - c) (met_mem t [] c (.inr ⟨hc, hn⟩))
    obtain ⟨i, hi, hve⟩ := List.getElem_of_mem hv
    have := hm i j hi hj
    simpa [List.getD_eq_getElem?_getD, List.getElem?_eq_getElem hj, List.getElem?_eq_getElem hi, hxe, hve] using this
  have h1 := apply_of hs (term_parts h).2
  rw [hf] at h1
  have h2 := apply_none h
  exact ⟨h1.1.trans h2.1.symm, h1.2.trans h2.2.symm⟩
/-- The parts that the law joins. -/
def partOf (l : List Sy) (s : List Bd) (t : List Int) (k : Int) : List Int := full s (subAt l t k.toNat)
def joined (l : List Sy) (s : List Bd) (t : List Int) (i : Nat) : List Int := t.getD 0 0 :: ((kidsAt l t 0).take i).flatMap (partOf l s t)
theorem flat_len (F : Int → List Int) : ∀ (ks : List Int) (i : Nat), ((ks.take i).flatMap F).length ≤ (ks.flatMap F).length := by
  intro ks i
  have e : ks.flatMap F = (ks.take i).flatMap F ++ (ks.drop i).flatMap F := by rw [← List.flatMap_append, List.take_append_drop]
  rw [e, List.length_append]; omega
theorem join_all {l : List Sy} {s : List Bd} {t : List Int} (h : applyErr l s t = 0) (h0 : 0 < t.length) (hp : ¬ t.getD 0 0 < 0) :
    applied l s t = joined l s t (kidsAt l t 0).length ∧ ∀ i, i < (kidsAt l t 0).length → ∃ p : Nat, (kidsAt l t 0).getD i 0 = (p : Int) ∧ placeErr l t p = 0 ∧ applyErr l s (subAt l t p) = 0 ∧
      joined l s t (i + 1) = joined l s t i ++ applied l s (subAt l t p) ∧ (joined l s t i).length + (applied l s (subAt l t p)).length ≤ 512 := by
  obtain ⟨h1, h2, h3, h4, h5⟩ := apply_zero h
  have hsc : scanAt l t 1 0 = .ok t.length := root_ok (by unfold termErr; rw [if_neg (by simp [h3])]; exact h2)
  obtain ⟨k1, k2⟩ := root_kids hsc h0 hp
  have hfull : full s t = joined l s t (kidsAt l t 0).length := by
    unfold joined
    rw [List.take_length]
    conv => lhs; rw [k1]
    exact full_parts s _ hp _ _
  refine ⟨h5.trans hfull, fun i hi => ?_⟩
  have hk : (kidsAt l t 0).getD i 0 ∈ kidsAt l t 0 := by
    rw [List.getD_eq_getElem?_getD, List.getElem?_eq_getElem hi]; exact List.getElem_mem hi
  obtain ⟨p, e', hpk, hpl, hps⟩ := k2 _ hk
  have hr := sub_right hps
  have hj : joined l s t (i + 1) = joined l s t i ++ full s (subAt l t p) := by
    unfold joined
    rw [take_succ' _ 0 hi, List.flatMap_append, hpk]
    simp [partOf]
  have hlen : (joined l s t (i + 1)).length ≤ 512 := by
    have : (joined l s t (i + 1)).length ≤ (joined l s t (kidsAt l t 0).length).length := by
      unfold joined
      rw [List.take_length, List.length_cons, List.length_cons]
      have := flat_len (partOf l s t) (kidsAt l t 0) (i + 1)
      omega
    rw [← hfull] at this; omega
  rw [hj, List.length_append] at hlen
  have hap := apply_of h1 hr
  rw [if_pos (by omega), if_pos (by omega)] at hap
  refine ⟨p, hpk, ?_, hap.1, ?_, ?_⟩
  · unfold placeErr termErr
    rw [if_neg (by simp [h3, h2]), if_neg (by omega)]
  · rw [hap.2]; exact hj
  · rw [hap.2]; exact hlen
theorem place_root {l : List Sy} {t : List Int} (h : termErr l t = 0) : placeErr l t 0 = 0 := by
  have := term_some h
  unfold placeErr
  rw [if_neg (by simp [h]), if_neg (by omega)]
/-- A row of one number that was just made. -/
theorem RowO.one {w : World} {n : Nat} {x : Int} (hn : n = w.heap.size) (hx : -9223372036854775808 ≤ x ∧ x ≤ 9223372036854775807) : RowO (w.alloc (.cells #[.int .i64 x] 3)) n (.slice (some ⟨n, 0, none⟩) 1 1) [x] := by
  subst hn
  refine ⟨World.ownsRow_lit (base := w.heap.size) (e := 3) (size := 1) w #[.int .i64 x] 1 (Nat.le_refl _) (by simp [maxLen]) rfl, by simp, fun y hy => ?_⟩
  simp at hy; subst hy; exact hx
theorem Binds.nil (w : World) (A : Option Addr) : Binds w A [] := ⟨by simp, fun h => by simp at h⟩
end Go.Proofs.YtldnokeejinebaaDoor
