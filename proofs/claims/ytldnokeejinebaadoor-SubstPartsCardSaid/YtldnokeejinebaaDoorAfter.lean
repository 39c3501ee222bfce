/- One after the other: what two rows of binds make of a row, one row of binds makes too. Conditions: none. -/
import Derived.Test.YtldnokeejinebaaDoorApplyB
set_option linter.unusedVariables false
set_option linter.unusedSimpArgs false
namespace Go.Proofs.YtldnokeejinebaaDoor

/-- What binds make of a row, however long. -/
def full (s : List Bd) (t : List Int) : List Int := t.flatMap (become s)
theorem laidOn_full (s : List Bd) : ∀ (t acc : List Int), acc.length ≤ 512 → laidOn s acc t = if (acc ++ full s t).length ≤ 512 then some (acc ++ full s t) else none
  | [], acc, h => by simp [laidOn, full, h]
  | c :: t, acc, h => by
    have e : acc ++ full s (c :: t) = acc ++ become s c ++ full s t := by simp [full]
    rw [laidOn, e]
    by_cases hb : 512 < acc.length + (become s c).length
    · rw [if_pos hb, if_neg (by simp only [List.length_append]; omega)]
    · rw [if_neg hb, laidOn_full s t _ (by rw [List.length_append]; omega)]
theorem scan_over (l : List Sy) : ∀ (T : List Int) (j : Nat), scan l j T = .ok T.length → ∀ (k : Nat) (u : List Int), scan l (k + j) (T ++ u) = match scan l k u with
    | .ok n => .ok (n + T.length)
    | .error e => .error e
  | [], j, h, k, u => by
    cases j with
    | zero => simp; cases scan l k u <;> rfl
    | succ j => simp [scan] at h
  | c :: T, j, h, k, u => by
    cases j with
    | zero => simp [scan] at h
    | succ j =>
      unfold scan at h
      split at h
      · cases h
      · rename_i hb
        cases hs : scan l (j + arOf l c) T with
        | error e => rw [hs] at h; cases h
        | ok m =>
          rw [hs] at h
          have hm : m = T.length := by simpa using h
          subst hm
          have ih := scan_over l T _ hs k u
          rw [← Nat.add_assoc, List.cons_append, scan, if_neg hb, show k + j + arOf l c = k + (j + arOf l c) by omega, ih]
          cases scan l k u with
          | ok n => simp; omega
          | error e => rfl
theorem rowErr_zero {l : List Sy} {t : List Int} : rowErr l t = 0 ↔ scan l 1 t = .ok t.length := by
  unfold rowErr
  cases h : scan l 1 t with
  | error e =>
    rcases scan_err l t 1 e h with rfl | rfl <;> simp
  | ok n =>
    have := (scan_ok l t 1 n h).2
    simp only
    constructor
    · intro h2
      split at h2
      · cases h2
      · have : n = t.length := by omega
        rw [this]
    · intro h2
      injection h2 with h2
      rw [if_neg (by omega)]
theorem bound_mem {s : List Bd} {v : Int} {T : List Int} (h : boundIn s v = some T) : (v, T) ∈ s := by
  unfold boundIn at h
  cases hf : s.find? (fun b => b.1 == v) with
  | none => rw [hf] at h; cases h
  | some b =>
    rw [hf] at h
    have h1 := List.find?_some hf
    have h2 := List.mem_of_find?_eq_some hf
    have e1 : b.1 = v := by simpa using h1
    have e2 : b.2 = T := by simpa using h
    rw [← e1, ← e2]; exact h2
theorem scan_full {l : List Sy} {s : List Bd} (hr : ∀ b ∈ s, rowErr l b.2 = 0) : ∀ (t : List Int) (k : Nat), scan l k t = .ok t.length → scan l k (full s t) = .ok (full s t).length
  | [], k, h => by simpa [full] using h
  | c :: t, k, h => by
    cases k with
    | zero => simp [scan] at h
    | succ k =>
      unfold scan at h
      split at h
      · cases h
      · rename_i hb
        cases hs : scan l (k + arOf l c) t with
        | error e => rw [hs] at h; cases h
        | ok m =>
          rw [hs] at h
          have hm : m = t.length := by simpa using h
          subst hm
          have ih := scan_full hr t _ hs
          have e : full s (c :: t) = become s c ++ full s t := by simp [full]
          have plain : become s c = [c] → scan l (k + 1) (full s (c :: t)) = .ok (full s (c :: t)).length := fun hb1 => by
            rw [e, hb1, List.singleton_append, scan, if_neg hb, ih]; simp
          by_cases hc : c < 0
          · cases hbd : boundIn s (-1 - c) with
            | none => exact plain (by unfold become; rw [if_pos hc, hbd]; rfl)
            | some T =>
              have hb1 : become s c = T := by unfold become; rw [if_pos hc, hbd]; rfl
              have hT := rowErr_zero.1 (hr _ (bound_mem hbd))
              have har : arOf l c = 0 := by unfold arOf; rw [if_pos hc]
              rw [har, Nat.add_zero] at ih
              rw [e, hb1, scan_over l T 1 hT k (full s t), ih, List.length_append]
              simp; omega
          · exact plain (by unfold become; rw [if_neg hc])

/-! ### both -/
def less (v : Int) (r : List Bd) : List Bd := r.takeWhile fun c => decide (c.1 < v)
def rest (v : Int) (r : List Bd) : List Bd := r.dropWhile fun c => decide (c.1 < v)
def skip (v : Int) : List Bd → List Bd
  | [] => []
  | c :: r => if c.1 = v then r else c :: r
/-- Both rows of binds as one. -/
def mergeOn (F : List Int → List Int) : List Bd → List Bd → List Bd
  | [], r => r
  | b :: s, r => less b.1 r ++ (b.1, F b.2) :: mergeOn F s (skip b.1 (rest b.1 r))
abbrev Rising (s : List Bd) : Prop := s.Pairwise fun a b => a.1 < b.1
theorem less_rest (v : Int) (r : List Bd) : less v r ++ rest v r = r := List.takeWhile_append_dropWhile
theorem less_lt {v : Int} : ∀ {r : List Bd}, ∀ x ∈ less v r, x.1 < v
  | [], x, hx => by simp [less] at hx
  | c :: r, x, hx => by
    unfold less at hx
    rw [List.takeWhile_cons] at hx
    split at hx
    · rename_i hc
      rcases List.mem_cons.1 hx with rfl | hx
      · simpa using hc
      · exact less_lt (r := r) x hx
    · cases hx
theorem skip_cons (v : Int) (c : Bd) (r : List Bd) : skip v (c :: r) = if c.1 = v then r else c :: r := rfl
theorem rest_ge {v : Int} : ∀ {r : List Bd}, Rising r → ∀ x ∈ rest v r, v ≤ x.1
  | [], _, x, hx => by simp [rest] at hx
  | c :: r, h, x, hx => by
    obtain ⟨h1, h2⟩ := List.pairwise_cons.1 h
    unfold rest at hx
    rw [List.dropWhile_cons] at hx
    split at hx
    · exact rest_ge h2 x hx
    · rename_i hc
      have hc' : v ≤ c.1 := by simpa using hc
      rcases List.mem_cons.1 hx with rfl | hx
      · exact hc'
      · have := h1 x hx; omega
theorem rest_rising {v : Int} {r : List Bd} (h : Rising r) : Rising (rest v r) := List.Pairwise.sublist (List.dropWhile_sublist _) h
theorem less_rising {v : Int} {r : List Bd} (h : Rising r) : Rising (less v r) := List.Pairwise.sublist (List.takeWhile_sublist _) h
theorem skip_sub (v : Int) (r : List Bd) : (skip v r).Sublist r := by
  cases r with
  | nil => exact List.Sublist.refl _
  | cons c r =>
    rw [skip_cons]
    split
    · exact List.sublist_cons_self _ _
    · exact List.Sublist.refl _
theorem skip_gt {v : Int} {r : List Bd} (h : Rising r) (hg : ∀ x ∈ r, v ≤ x.1) : ∀ x ∈ skip v r, v < x.1 := by
  cases r with
  | nil => intro x hx; cases hx
  | cons c r =>
    obtain ⟨h1, h2⟩ := List.pairwise_cons.1 h
    intro x hx
    rw [skip_cons] at hx
    have hc := hg c (by simp)
    split at hx
    · have := h1 x hx; omega
    · rename_i hne
      rcases List.mem_cons.1 hx with rfl | hx
      · omega
      · have := h1 x hx; omega
theorem after_sub (v : Int) (r : List Bd) : (skip v (rest v r)).Sublist r := (skip_sub v _).trans (List.dropWhile_sublist _)
theorem merge_mem (F : List Int → List Int) : ∀ (s r : List Bd), ∀ x ∈ mergeOn F s r, x ∈ r ∨ ∃ b ∈ s, x = (b.1, F b.2)
  | [], r, x, hx => .inl hx
  | b :: s, r, x, hx => by
    unfold mergeOn at hx
    rcases List.mem_append.1 hx with hx | hx
    · exact .inl ((List.takeWhile_sublist _).subset hx)
    · rcases List.mem_cons.1 hx with rfl | hx
      · exact .inr ⟨b, by simp, rfl⟩
      · rcases merge_mem F s _ x hx with h | ⟨c, hc, h⟩
        · exact .inl ((after_sub b.1 r).subset h)
        · exact .inr ⟨c, by simp [hc], h⟩
theorem merge_rising (F : List Int → List Int) : ∀ (s r : List Bd), Rising s → Rising r → Rising (mergeOn F s r)
  | [], r, _, hr => hr
  | b :: s, r, hs, hr => by
    obtain ⟨h1, h2⟩ := List.pairwise_cons.1 hs
    unfold mergeOn
    have hgt := skip_gt (rest_rising hr) (rest_ge hr (v := b.1))
    have ih := merge_rising F s (skip b.1 (rest b.1 r)) h2 (List.Pairwise.sublist (after_sub b.1 r) hr)
    have hM : ∀ x ∈ mergeOn F s (skip b.1 (rest b.1 r)), b.1 < x.1 := fun x hx => by
      rcases merge_mem F s _ x hx with h | ⟨c, hc, rfl⟩
      · exact hgt x h
      · exact h1 c hc
    refine List.pairwise_append.2 ⟨less_rising hr, List.pairwise_cons.2 ⟨hM, ih⟩, fun a ha x hx => ?_⟩
    have := less_lt a ha
    rcases List.mem_cons.1 hx with rfl | hx
    · exact this
    · have := hM x hx; omega
theorem bound_app (s u : List Bd) (v : Int) : boundIn (s ++ u) v = (boundIn s v).or (boundIn u v) := by
  unfold boundIn
  rw [List.find?_append]
  cases s.find? (fun b => b.1 == v) <;> simp
theorem bound_cons (b : Bd) (s : List Bd) (v : Int) : boundIn (b :: s) v = if b.1 = v then some b.2 else boundIn s v := by
  unfold boundIn
  rw [List.find?_cons]
  by_cases e : b.1 = v
  · simp [e]
  · rw [show (b.1 == v) = false from beq_eq_false_iff_ne.2 e, if_neg e]
theorem bound_no {s : List Bd} {v : Int} (h : ∀ x ∈ s, x.1 ≠ v) : boundIn s v = none := by
  cases hb : boundIn s v with
  | none => rfl
  | some T => exact absurd rfl (h _ (bound_mem hb))
theorem merge_bound (F : List Int → List Int) (v : Int) : ∀ (s r : List Bd), Rising s → Rising r → boundIn (mergeOn F s r) v = match boundIn s v with
    | some T => some (F T)
    | none => boundIn r v
  | [], r, _, _ => rfl
  | b :: s, r, hs, hr => by
    obtain ⟨h1, h2⟩ := List.pairwise_cons.1 hs
    have hgt := skip_gt (rest_rising hr) (rest_ge hr (v := b.1))
    have hge := rest_ge hr (v := b.1)
    have ih := merge_bound F v s (skip b.1 (rest b.1 r)) h2 (List.Pairwise.sublist (after_sub b.1 r) hr)
    have er : boundIn r v = (boundIn (less b.1 r) v).or (boundIn (rest b.1 r) v) := by
      have := bound_app (less b.1 r) (rest b.1 r) v
      rw [less_rest] at this; exact this
    unfold mergeOn
    rw [bound_app, bound_cons, bound_cons, er, ih]
    rcases Int.lt_trichotomy v b.1 with hv | hv | hv
    · have e1 : boundIn s v = none := bound_no fun x hx => by have := h1 x hx; omega
      have e2 : boundIn (skip b.1 (rest b.1 r)) v = none := bound_no fun x hx => by have := hgt x hx; omega
      have e3 : boundIn (rest b.1 r) v = none := bound_no fun x hx => by have := hge x hx; omega
      rw [if_neg (by omega), if_neg (by omega), e1]
      simp [e2, e3]
    · subst hv
      have e1 : boundIn (less b.1 r) b.1 = none := bound_no fun x hx => by have := less_lt x hx; omega
      rw [if_pos rfl, if_pos rfl, e1]; rfl
    · have e1 : boundIn (less b.1 r) v = none := bound_no fun x hx => by have := less_lt x hx; omega
      have e2 : boundIn (skip b.1 (rest b.1 r)) v = boundIn (rest b.1 r) v := by
        cases hq : rest b.1 r with
        | nil => rfl
        | cons c u =>
          rw [skip_cons]
          split
          · rename_i hc
            rw [bound_cons, if_neg (by omega)]
          · rfl
      rw [if_neg (by omega), if_neg (by omega), e1, e2]
      simp
theorem Right.rising {l : List Sy} {s : List Bd} (h : Right l s) : Rising s := by
  rw [Rising, List.pairwise_iff_getElem]
  intro i j hi hj hij
  have := h.lt i j hij hj
  simpa [List.getD_eq_getElem?_getD, List.getElem?_eq_getElem hi, List.getElem?_eq_getElem hj] using this
theorem right_mem {l : List Sy} {s : List Bd} (h : Right l s) : ∀ b ∈ s, (0 ≤ b.1 ∧ b.1 < 1048576) ∧ rowErr l b.2 = 0 := fun b hb => by
  obtain ⟨i, hi, rfl⟩ := List.getElem_of_mem hb
  have h1 := h.low i hi
  have h2 := h.row i hi
  simp only [List.getD_eq_getElem?_getD, List.getElem?_eq_getElem hi, Option.getD_some] at h1 h2
  exact ⟨h1, h2⟩
theorem bindsFrom_all {l : List Sy} {s : List Bd} (h : ∀ k, k < s.length → bindErr l s k = 0) : ∀ f i, f + i ≤ s.length → bindsFrom l s f i = 0
  | 0, i, _ => rfl
  | f + 1, i, hl => by
    unfold bindsFrom
    rw [if_pos (h i (by omega))]
    exact bindsFrom_all h f (i + 1) (by omega)
theorem subst_ok {l : List Sy} {s : List Bd} (hs : sigErr l = 0) (hr : Rising s) (hm : ∀ b ∈ s, (0 ≤ b.1 ∧ b.1 < 1048576) ∧ rowErr l b.2 = 0) : substErr l s = 0 := by
  unfold substErr
  rw [if_neg (by simp [hs])]
  refine bindsFrom_all (fun k hk => ?_) s.length 0 (by omega)
  have hk1 := hm _ (getD_mem (d := bd0) hk rfl)
  unfold bindErr
  rw [if_neg (by omega), if_neg ?_]
  · exact hk1.2
  · rintro ⟨h0, h1⟩
    rw [Rising, List.pairwise_iff_getElem] at hr
    have := hr (k - 1) k (by omega) hk (by omega)
    simp only [List.getD_eq_getElem?_getD, List.getElem?_eq_getElem hk, List.getElem?_eq_getElem (show k - 1 < s.length by omega), Option.getD_some] at h1
    omega
theorem apply_zero {l : List Sy} {s : List Bd} {t : List Int} (h : applyErr l s t = 0) : substErr l s = 0 ∧ rowErr l t = 0 ∧ sigErr l = 0 ∧ (full s t).length ≤ 512 ∧ applied l s t = full s t := by
  have h0 := h
  unfold applyErr at h
  by_cases h1 : substErr l s = 0
  · rw [if_neg (by simp [h1])] at h
    by_cases h2 : termErr l t = 0
    · rw [if_neg (by simp [h2])] at h
      have hsg := (right_of h1).sig
      have h3 : rowErr l t = 0 := by unfold termErr at h2; rwa [if_neg (by simp [hsg])] at h2
      have hf := laidOn_full s t [] (by simp)
      by_cases h4 : (full s t).length ≤ 512
      · rw [List.nil_append, if_pos h4] at hf
        exact ⟨h1, h3, hsg, h4, by unfold applied; rw [if_pos h0, hf]; rfl⟩
      · rw [List.nil_append, if_neg h4] at hf
        rw [hf] at h; simp at h
    · rw [if_pos h2] at h; exact absurd h h2
  · rw [if_pos h1] at h; exact absurd h h1
theorem apply_of {l : List Sy} {s : List Bd} {t : List Int} (h1 : substErr l s = 0) (h2 : rowErr l t = 0) : applyErr l s t = (if (full s t).length ≤ 512 then 0 else 2) ∧ applied l s t = if (full s t).length ≤ 512 then full s t else [] := by
  have hsg := (right_of h1).sig
  have hf := laidOn_full s t [] (by simp)
  rw [List.nil_append] at hf
  have h3 : termErr l t = 0 := by unfold termErr; rw [if_neg (by simp [hsg])]; exact h2
  have e : applyErr l s t = if (full s t).length ≤ 512 then 0 else 2 := by
    unfold applyErr
    rw [if_neg (by simp [h1]), if_neg (by simp [h3]), hf]
    split <;> simp
  refine ⟨e, ?_⟩
  unfold applied
  rw [e, hf]
  split <;> simp
/-- One after the other. -/
theorem after_both {l : List Sy} {s r : List Bd} {t : List Int} (he : applyErr l s t = 0) (hg : ∀ b ∈ s, applyErr l r b.2 = 0) :
    applyErr l r (applied l s t) = applyErr l (mergeOn (applied l r) s r) t ∧ applied l r (applied l s t) = applied l (mergeOn (applied l r) s r) t := by
  obtain ⟨h1, h2, h3, h4, h5⟩ := apply_zero he
  rw [h5]
  cases s with
  | nil =>
    have : full [] t = t := by
      unfold full
      have : ∀ c, become [] c = [c] := fun c => by unfold become boundIn; simp
      rw [show become [] = fun c => [c] from funext this]; simp
    rw [this]
    exact ⟨rfl, rfl⟩
  | cons b0 s0 =>
    obtain ⟨hr, _⟩ := apply_zero (hg b0 (by simp))
    have hS := right_of h1
    have hR := right_of hr
    have hfr : ∀ b ∈ b0 :: s0, applied l r b.2 = full r b.2 := fun b hb => (apply_zero (hg b hb)).2.2.2.2
    have hfull : rowErr l (full (b0 :: s0) t) = 0 := rowErr_zero.2 (scan_full (fun b hb => (right_mem hS b hb).2) t 1 (rowErr_zero.1 h2))
    have hboth : substErr l (mergeOn (applied l r) (b0 :: s0) r) = 0 := by
      refine subst_ok h3 (merge_rising _ _ _ hS.rising hR.rising) (fun x hx => ?_)
      rcases merge_mem _ _ _ x hx with hx | ⟨b, hb, rfl⟩
      · exact right_mem hR x hx
      · refine ⟨(right_mem hS b hb).1, ?_⟩
        show rowErr l (applied l r b.2) = 0
        rw [hfr b hb]
        exact rowErr_zero.2 (scan_full (fun c hc => (right_mem hR c hc).2) b.2 1 (rowErr_zero.1 (right_mem hS b hb).2))
    have hsame : full r (full (b0 :: s0) t) = full (mergeOn (applied l r) (b0 :: s0) r) t := by
      unfold full
      rw [List.flatMap_assoc]
      have : ∀ c, (become (b0 :: s0) c).flatMap (become r) = become (mergeOn (applied l r) (b0 :: s0) r) c := fun c => by
        by_cases hc : c < 0
        · have hb := merge_bound (applied l r) (-1 - c) (b0 :: s0) r hS.rising hR.rising
          cases hq : boundIn (b0 :: s0) (-1 - c) with
          | none =>
            rw [hq] at hb
            have e1 : become (b0 :: s0) c = [c] := by unfold become; rw [if_pos hc, hq]; rfl
            have e2 : become (mergeOn (applied l r) (b0 :: s0) r) c = become r c := by unfold become; rw [if_pos hc, if_pos hc, hb]
            rw [e1, e2]; simp
          | some T =>
            rw [hq] at hb
            have e1 : become (b0 :: s0) c = T := by unfold become; rw [if_pos hc, hq]; rfl
            have e2 : become (mergeOn (applied l r) (b0 :: s0) r) c = applied l r T := by unfold become; rw [if_pos hc, hb]; rfl
            rw [e1, e2, hfr _ (bound_mem hq)]; rfl
        · have e1 : become (b0 :: s0) c = [c] := by unfold become; rw [if_neg hc]
          have e2 : become (mergeOn (applied l r) (b0 :: s0) r) c = [c] := by unfold become; rw [if_neg hc]
          have e3 : become r c = [c] := by unfold become; rw [if_neg hc]
          rw [e1, e2]; simp [e3]
      exact congrArg (fun f => t.flatMap f) (funext this)
    obtain ⟨a1, a2⟩ := apply_of hr hfull
    obtain ⟨c1, c2⟩ := apply_of hboth h2
    rw [a1, a2, c1, c2, hsame]
    exact ⟨rfl, rfl⟩
end Go.Proofs.YtldnokeejinebaaDoor
