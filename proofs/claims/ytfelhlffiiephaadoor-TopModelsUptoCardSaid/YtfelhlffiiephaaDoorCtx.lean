/- A term laid into a place of a term: it is found there, what stands apart stays, and the whole is a term. Conditions: none. -/
import Derived.Test.YtfelhlffiiephaaDoorPlaces
set_option linter.unusedVariables false
set_option linter.unusedSimpArgs false
namespace Go.Proofs.YtfelhlffiiephaaDoor

/-- What a scan reads is all that it needs. -/
theorem scan_pre (l : List Sy) : ∀ (u : List Int) (k n : Nat), scan l k u = .ok n → ∀ v, scan l k (u.take n ++ v) = .ok n
  | [], k, n, h, v => by
    cases k with
    | zero => rw [scan] at h; injection h with h; subst h; rw [scan]
    | succ k => unfold scan at h; cases h
  | c :: u, 0, n, h, v => by
    simp [scan] at h
    subst h
    simp [scan]
  | c :: u, k + 1, n, h, v => by
    unfold scan at h
    split at h
    · cases h
    · rename_i hb
      cases hs : scan l (k + arOf l c) u with
      | error e => rw [hs] at h; cases h
      | ok m =>
        rw [hs] at h
        have hm : m + 1 = n := by simpa using h
        subst hm
        rw [List.take_succ_cons, List.cons_append, scan, if_neg hb, scan_pre l u _ m hs v]
/-- In the midst of a scan: some terms are still wanted. -/
theorem scan_mid (l : List Sy) : ∀ (t : List Int) (n p m : Nat), scan l n t = .ok m → p < m → ∃ k, ∀ s, scan l n (t.take p ++ s) = match scan l (k + 1) s with
    | .ok r => .ok (r + p)
    | .error e => .error e
  | t, n, 0, m, h, hp => by
    cases n with
    | zero => simp [scan] at h; omega
    | succ n =>
      refine ⟨n, fun s => ?_⟩
      rw [List.take_zero, List.nil_append]
      cases scan l (n + 1) s <;> rfl
  | [], n, p + 1, m, h, hp => by
    cases n with
    | zero => simp [scan] at h; omega
    | succ n => unfold scan at h; cases h
  | c :: t, n, p + 1, m, h, hp => by
    cases n with
    | zero => simp [scan] at h; omega
    | succ n =>
      unfold scan at h
      split at h
      · cases h
      · rename_i hb
        cases hs : scan l (n + arOf l c) t with
        | error e => rw [hs] at h; cases h
        | ok m' =>
          rw [hs] at h
          have hm : m' + 1 = m := by simpa using h
          obtain ⟨k, hk⟩ := scan_mid l t (n + arOf l c) p m' hs (by omega)
          refine ⟨k, fun s => ?_⟩
          rw [List.take_succ_cons, List.cons_append, scan, if_neg hb, hk s]
          cases scan l (k + 1) s with
          | error e => rfl
          | ok r => simp; omega
theorem scanAt_is {l : List Sy} {t : List Int} {n i e : Nat} (h : scanAt l t n i = .ok e) : scan l n (t.drop i) = .ok (e - i) ∧ i ≤ e := by
  have hle := (scanAt_ok h).1
  unfold scanAt at h
  cases hs : scan l n (t.drop i) with
  | error er => rw [hs] at h; cases h
  | ok m =>
    rw [hs] at h
    have : m + i = e := by simpa using h
    exact ⟨by congr 1; omega, by omega⟩
theorem scanAt_mk {l : List Sy} {t : List Int} {n i m : Nat} (h : scan l n (t.drop i) = .ok m) : scanAt l t n i = .ok (m + i) := by unfold scanAt; rw [h]
theorem term_mk {l : List Sy} {t : List Int} (hs : sigErr l = 0) (h : scan l 1 t = .ok t.length) : termErr l t = 0 := by
  unfold termErr
  rw [if_neg (by simp [hs]), rowErr_zero]; exact h
theorem term_scan {l : List Sy} {t : List Int} (h : termErr l t = 0) : sigErr l = 0 ∧ scan l 1 t = .ok t.length := by
  refine ⟨term_sig h, ?_⟩
  have := (scanAt_is (root_ok h)).1
  simpa using this
theorem term_pos {l : List Sy} {t : List Int} (h : termErr l t = 0) : 0 < t.length := by
  have := (scanAt_ok (root_ok h)).1
  omega
/-- A place of a term, and what lies behind it. -/
theorem place_end {l : List Sy} {t : List Int} (h : termErr l t = 0) {p : Nat} (hp : p < t.length) : scanAt l t 1 p = .ok (endOf l t p) ∧ p < endOf l t p ∧ endOf l t p ≤ t.length := by
  obtain ⟨E, hE, hE2, _⟩ := scan_inside t.length 1 0 t.length (by omega) (root_ok h) p (Nat.zero_le _) hp
  rw [endOf_ok hE]
  exact ⟨hE, by have := (scanAt_ok hE).1; omega, hE2⟩
theorem place_ok {l : List Sy} {t : List Int} (h : termErr l t = 0) {p : Nat} (hp : p < t.length) : placeErr l t p = 0 := by
  unfold placeErr
  rw [if_neg (by simp [h]), if_neg (by omega)]
theorem sub_term {l : List Sy} {t : List Int} (h : termErr l t = 0) {p : Nat} (hp : p < t.length) : termErr l (subAt l t p) = 0 := by
  unfold termErr
  rw [if_neg (by simp [term_sig h])]
  exact sub_right (place_end h hp).1
theorem sub_length {l : List Sy} {t : List Int} (h : termErr l t = 0) {p : Nat} (hp : p < t.length) : (subAt l t p).length = endOf l t p - p := by
  have := place_end h hp
  unfold subAt
  rw [List.length_take, List.length_drop]; omega
section
variable {l : List Sy} {t u : List Int} {p : Nat}
theorem repl_length (h : termErr l t = 0) (hp : p < t.length) : (replAt l t p u).length = p + u.length + (t.length - endOf l t p) := by
  unfold replAt
  rw [List.length_append, List.length_append, List.length_take, List.length_drop]; omega
theorem repl_drop (h : termErr l t = 0) (hp : p < t.length) : (replAt l t p u).drop p = u ++ t.drop (endOf l t p) := by
  unfold replAt
  rw [List.append_assoc, List.drop_append_of_le_length (by rw [List.length_take]; omega), List.drop_eq_nil_of_le (by rw [List.length_take]; omega), List.nil_append]
/-- It is found there. -/
theorem repl_end (h : termErr l t = 0) (hu : termErr l u = 0) (hp : p < t.length) : scanAt l (replAt l t p u) 1 p = .ok (p + u.length) := by
  have h1 := scan_pre l u 1 u.length (term_scan hu).2 (t.drop (endOf l t p))
  rw [List.take_length] at h1
  have := scanAt_mk (t := replAt l t p u) (i := p) (by rw [repl_drop h hp]; exact h1)
  rw [this]; congr 1; omega
theorem repl_sub (h : termErr l t = 0) (hu : termErr l u = 0) (hp : p < t.length) : subAt l (replAt l t p u) p = u := by
  unfold subAt
  rw [endOf_ok (repl_end h hu hp), repl_drop h hp, Nat.add_sub_cancel_left, List.take_append_of_le_length (Nat.le_refl _), List.take_length]
/-- The whole is a term. -/
theorem repl_term (h : termErr l t = 0) (hu : termErr l u = 0) (hp : p < t.length) : termErr l (replAt l t p u) = 0 := by
  obtain ⟨hs, ht⟩ := term_scan h
  obtain ⟨_, hus⟩ := term_scan hu
  obtain ⟨hE, hE1, hE2⟩ := place_end h hp
  refine term_mk hs ?_
  obtain ⟨k, hk⟩ := scan_mid l t 1 p t.length ht hp
  have h0 := hk (t.drop p)
  rw [List.take_append_drop, ht] at h0
  -- behind the place
  have hd := scan_add l (t.drop p) 1 k
  rw [(scanAt_is hE).1] at hd
  rw [Nat.add_comm 1 k] at hd
  have hrest : scan l k (t.drop (endOf l t p)) = .ok (t.length - endOf l t p) := by
    cases hq : scan l (k + 1) (t.drop p) with
    | error e => rw [hq] at h0; cases h0
    | ok r =>
      rw [hq] at h0 hd
      have hr : t.length = r + p := by simpa using h0
      have := scanAt_is hd.symm
      rw [List.drop_drop, show p + (endOf l t p - p) = endOf l t p by omega] at this
      rw [this.1]; congr 1; omega
  have hx : replAt l t p u = t.take p ++ (u ++ t.drop (endOf l t p)) := by unfold replAt; rw [List.append_assoc]
  have hu1 := scan_pre l u 1 u.length hus (t.drop (endOf l t p))
  rw [List.take_length] at hu1
  have ha := scan_add l (u ++ t.drop (endOf l t p)) 1 k
  rw [hu1, Nat.add_comm 1 k] at ha
  have hb := scanAt_mk (l := l) (t := u ++ t.drop (endOf l t p)) (n := k) (i := u.length) (m := t.length - endOf l t p) (by rw [List.drop_left]; exact hrest)
  have ha := ha.trans hb
  have hf := hk (u ++ t.drop (endOf l t p))
  rw [ha] at hf
  rw [hx, hf, ← hx, repl_length h hp]
  simp; omega
/-- What stood there, laid in again. -/
theorem repl_back (h : termErr l t = 0) (hu : termErr l u = 0) (hp : p < t.length) : replAt l (replAt l t p u) p (subAt l t p) = t := by
  obtain ⟨hE, hE1, hE2⟩ := place_end h hp
  have h1 : (replAt l t p u).take p = t.take p := by
    unfold replAt
    rw [List.append_assoc, List.take_append_of_le_length (by rw [List.length_take]; omega), List.take_take, Nat.min_self]
  have h2 : (replAt l t p u).drop (p + u.length) = t.drop (endOf l t p) := by
    rw [← List.drop_drop, repl_drop h hp, List.drop_left]
  have e : replAt l (replAt l t p u) p (subAt l t p) = (replAt l t p u).take p ++ subAt l t p ++ (replAt l t p u).drop (endOf l (replAt l t p u) p) := rfl
  rw [e, endOf_ok (repl_end h hu hp), h1, h2]
  unfold subAt
  rw [List.append_assoc]
  have h3 : (t.drop p).take (endOf l t p - p) ++ t.drop (endOf l t p) = t.drop p := by
    have := List.take_append_drop (endOf l t p - p) (t.drop p)
    rw [List.drop_drop, show p + (endOf l t p - p) = endOf l t p by omega] at this
    exact this
  rw [h3, List.take_append_drop]
/-- A place behind, seen from the new row. -/
theorem repl_behind (h : termErr l t = 0) (hu : termErr l u = 0) (hp : p < t.length) {q : Nat} (hq : endOf l t p ≤ q) (hql : q < t.length) :
    (replAt l t p u).drop (p + u.length + (q - endOf l t p)) = t.drop q ∧ scanAt l (replAt l t p u) 1 (p + u.length + (q - endOf l t p)) = .ok (p + u.length + (endOf l t q - endOf l t p)) := by
  obtain ⟨hE, hE1, hE2⟩ := place_end h hp
  obtain ⟨hF, hF1, hF2⟩ := place_end h hql
  have h1 : (replAt l t p u).drop (p + u.length + (q - endOf l t p)) = t.drop q := by
    rw [Nat.add_assoc, ← List.drop_drop, repl_drop h hp, ← List.drop_drop, List.drop_left, List.drop_drop, show endOf l t p + (q - endOf l t p) = q by omega]
  refine ⟨h1, ?_⟩
  have := scanAt_mk (t := replAt l t p u) (i := p + u.length + (q - endOf l t p)) (by rw [h1]; exact (scanAt_is hF).1)
  rw [this]; congr 1; omega
/-- A place before, seen from a row that was changed behind it. -/
theorem repl_before (h : termErr l t = 0) (hu : termErr l u = 0) {q : Nat} (hp : p < t.length) (hq : endOf l t p ≤ q) (hql : q < t.length) : scanAt l (replAt l t q u) 1 p = .ok (endOf l t p) ∧ (replAt l t q u).take p = t.take p ∧ (replAt l t q u).drop (endOf l t p) = (t.drop (endOf l t p)).take (q - endOf l t p) ++ (u ++ t.drop (endOf l t q)) := by
  obtain ⟨hE, hE1, hE2⟩ := place_end h hp
  have hd : ∀ i, i ≤ q → (replAt l t q u).drop i = (t.drop i).take (q - i) ++ (u ++ t.drop (endOf l t q)) := fun i hi => by
    unfold replAt
    rw [List.append_assoc, List.drop_append_of_le_length (by rw [List.length_take]; omega), List.drop_take]
  refine ⟨?_, ?_, hd _ hq⟩
  · have h1 := (scanAt_is hE).1
    have h2 := scan_pre l (t.drop p) 1 (endOf l t p - p) h1 ((((t.drop p).take (q - p)).drop (endOf l t p - p)) ++ (u ++ t.drop (endOf l t q)))
    have h3 : (t.drop p).take (endOf l t p - p) ++ ((((t.drop p).take (q - p)).drop (endOf l t p - p)) ++ (u ++ t.drop (endOf l t q))) = (replAt l t q u).drop p := by
      rw [hd p (by omega), ← List.append_assoc]
      congr 1
      have := List.take_append_drop (endOf l t p - p) ((t.drop p).take (q - p))
      rw [List.take_take, Nat.min_eq_left (by omega)] at this
      exact this
    rw [h3] at h2
    rw [scanAt_mk h2]; congr 1; omega
  · unfold replAt
    rw [List.append_assoc, List.take_append_of_le_length (by rw [List.length_take]; omega), List.take_take, Nat.min_eq_left (by omega)]
/-- Two places apart. -/
theorem repl_twice (h : termErr l t = 0) (hu : termErr l u = 0) {q : Nat} (hp : p < t.length) (hq : endOf l t p ≤ q) (hql : q < t.length) :
    replAt l (replAt l t q u) p u = replAt l (replAt l t p u) (p + u.length + (q - endOf l t p)) u := by
  obtain ⟨hE, hE1, hE2⟩ := place_end h hp
  obtain ⟨hF, hF1, hF2⟩ := place_end h hql
  obtain ⟨b1, b2, b3⟩ := repl_before h hu hp hq hql
  obtain ⟨c1, c2⟩ := repl_behind h hu hp hq hql
  have e1 : replAt l (replAt l t q u) p u = (replAt l t q u).take p ++ u ++ (replAt l t q u).drop (endOf l (replAt l t q u) p) := rfl
  have e2 : replAt l (replAt l t p u) (p + u.length + (q - endOf l t p)) u = (replAt l t p u).take (p + u.length + (q - endOf l t p)) ++ u ++ (replAt l t p u).drop (endOf l (replAt l t p u) (p + u.length + (q - endOf l t p))) := rfl
  rw [e1, e2, endOf_ok b1, endOf_ok c2, b2, b3]
  have h1 : (replAt l t p u).take (p + u.length + (q - endOf l t p)) = t.take p ++ u ++ (t.drop (endOf l t p)).take (q - endOf l t p) := by
    unfold replAt
    rw [List.take_append, List.take_of_length_le (by rw [List.length_append, List.length_take]; omega)]
    congr 2
    rw [List.length_append, List.length_take]; omega
  have h2 : (replAt l t p u).drop (p + u.length + (endOf l t q - endOf l t p)) = t.drop (endOf l t q) := by
    rw [Nat.add_assoc, ← List.drop_drop, repl_drop h hp, ← List.drop_drop, List.drop_left, List.drop_drop, show endOf l t p + (endOf l t q - endOf l t p) = endOf l t q by omega]
  rw [h1, h2]
  simp
end
end Go.Proofs.YtfelhlffiiephaaDoor
