/- Part by part: a term is its root and its arguments, and so is what binds make of it. Conditions: none. -/
import Derived.Test.YtldnokeejinebaaDoorKids
import Derived.Test.YtldnokeejinebaaDoorAfter
set_option linter.unusedVariables false
set_option linter.unusedSimpArgs false
namespace Go.Proofs.YtldnokeejinebaaDoor

theorem scan_take (l : List Sy) : ∀ (u : List Int) (k n : Nat), scan l k u = .ok n → scan l k (u.take n) = .ok n
  | [], k, n, h => by simpa using h
  | c :: u, 0, n, h => by
    simp [scan] at h
    subst h
    simp [scan]
  | c :: u, k + 1, n, h => by
    unfold scan at h
    split at h
    · cases h
    · rename_i hb
      cases hs : scan l (k + arOf l c) u with
      | error e => rw [hs] at h; cases h
      | ok m =>
        rw [hs] at h
        have hm : m + 1 = n := by simpa using h
        subst hm
        rw [List.take_succ_cons, scan, if_neg hb, scan_take l u _ m hs]
theorem sub_right {l : List Sy} {t : List Int} {m e : Nat} (h : scanAt l t 1 m = .ok e) : rowErr l (subAt l t m) = 0 := by
  rw [rowErr_zero]
  unfold subAt
  rw [endOf_ok h]
  unfold scanAt at h
  cases hs : scan l 1 (t.drop m) with
  | error er => rw [hs] at h; cases h
  | ok n =>
    rw [hs] at h
    have hn : n + m = e := by simpa using h
    have hle := (scan_ok l (t.drop m) 1 n hs).2
    have e1 : e - m = n := by omega
    rw [e1, scan_take l _ 1 n hs, List.length_take]
    congr 1
    omega
theorem kids_cover {l : List Sy} {t : List Int} : ∀ (n m e : Nat), m ≤ t.length → scanAt l t n m = .ok e → (kidsFrom l t n m).flatMap (fun k => subAt l t k.toNat) = (t.drop m).take (e - m) ∧ ∀ k ∈ kidsFrom l t n m, ∃ (p e' : Nat), k = (p : Int) ∧ p < t.length ∧ scanAt l t 1 p = .ok e'
  | 0, m, e, _, h => by
    rw [scanAt_zero] at h
    injection h with h
    subst h
    simp [kidsFrom]
  | n + 1, m, e, hm, h => by
    have ha := scanAt_add l t 1 n m
    rw [Nat.add_comm 1 n, h] at ha
    cases hs : scanAt l t 1 m with
    | error er => rw [hs] at ha; cases ha
    | ok m' =>
      rw [hs] at ha
      have h1 := scanAt_ok hs
      have hm' := h1.2 hm
      have h2 := scanAt_ok ha.symm
      have he := h2.2 hm'
      obtain ⟨ih1, ih2⟩ := kids_cover n m' e hm' ha.symm
      have hml : m < t.length := by omega
      refine ⟨?_, fun k hk => ?_⟩
      · rw [kidsFrom, List.flatMap_cons, endOf_ok hs, ih1, Int.toNat_natCast]
        unfold subAt
        rw [endOf_ok hs]
        have e1 : e - m = (m' - m) + (e - m') := by omega
        rw [e1, List.take_add, List.drop_drop]
        have e2 : m + (m' - m) = m' := by omega
        rw [e2]
      · rw [kidsFrom] at hk
        rcases List.mem_cons.1 hk with rfl | hk
        · exact ⟨m, m', rfl, hml, hs⟩
        · rw [endOf_ok hs] at hk; exact ih2 k hk
/-- A term is its root and its arguments. -/
theorem root_kids {l : List Sy} {t : List Int} (h : scanAt l t 1 0 = .ok t.length) (h0 : 0 < t.length) (hp : ¬ t.getD 0 0 < 0) :
    t = t.getD 0 0 :: (kidsAt l t 0).flatMap (fun k => subAt l t k.toNat) ∧ ∀ k ∈ kidsAt l t 0, ∃ (p e' : Nat), k = (p : Int) ∧ p < t.length ∧ scanAt l t 1 p = .ok e' := by
  have hb : ¬ codeBad l (t.getD 0 0) := fun hb => by rw [scanAt_bad l t 0 0 h0 hb] at h; cases h
  rw [scanAt_step l t 0 0 h0 hb, Nat.zero_add] at h
  obtain ⟨h1, h2⟩ := kids_cover _ 1 t.length (by omega) h
  unfold kidsAt
  rw [if_neg hp]
  refine ⟨?_, h2⟩
  rw [h1]
  have e : t = t.drop 0 := rfl
  have e2 : t.drop 0 = t.getD 0 0 :: t.drop 1 := drop_cons t 0 h0
  have e3 : (t.drop 1).take (t.length - 1) = t.drop 1 := List.take_of_length_le (by simp)
  rw [e3, ← e2]; rfl
theorem full_app (s : List Bd) (a b : List Int) : full s (a ++ b) = full s a ++ full s b := by simp [full]
theorem full_parts (s : List Bd) (c : Int) (hc : ¬ c < 0) (ks : List Int) (F : Int → List Int) : full s (c :: ks.flatMap F) = c :: ks.flatMap (fun k => full s (F k)) := by
  have e : ∀ ks : List Int, full s (ks.flatMap F) = ks.flatMap (fun k => full s (F k)) := fun ks => by
    induction ks with
    | nil => rfl
    | cons k ks ih => rw [List.flatMap_cons, List.flatMap_cons, full_app, ih]
  have : full s (c :: ks.flatMap F) = become s c ++ full s (ks.flatMap F) := by simp [full]
  rw [this, e]
  unfold become
  rw [if_neg hc]
  rfl
theorem full_none {s : List Bd} : ∀ {t : List Int}, (∀ c ∈ t, c < 0 → boundIn s (-1 - c) = none) → full s t = t
  | [], _ => rfl
  | c :: t, h => by
    have hc : become s c = [c] := by
      unfold become
      by_cases hn : c < 0
      · rw [if_pos hn, h c (by simp) hn]; rfl
      · rw [if_neg hn]
    have : full s (c :: t) = become s c ++ full s t := by simp [full]
    rw [this, hc, full_none (fun d hd => h d (by simp [hd]))]
    rfl
end Go.Proofs.YtldnokeejinebaaDoor
