/- Binds and places told of trees. Conditions: none. -/
import Derived.Test.YtfelhlffiiephaaDoorLpoTree
import Derived.Test.YtfelhlffiiephaaDoorLaid
set_option linter.unusedVariables false
set_option linter.unusedSimpArgs false
set_option linter.unnecessarySimpa false
namespace Go.Proofs.YtfelhlffiiephaaDoor

/-! ### Trees whose codes are kept to -/
theorem flat_in {f : Int} {zs : List Tm} {a : Tm} {c : Int} (h : a ∈ zs) (hc : c ∈ a.flat) : c ∈ (Tm.fn f zs).flat := by
  rw [Tm.flat, flats_map]; exact List.mem_cons_of_mem _ (List.mem_flatMap.2 ⟨a, h, hc⟩)
theorem flat_head (f : Int) (zs : List Tm) : f ∈ (Tm.fn f zs).flat := by rw [Tm.flat]; exact List.mem_cons_self
theorem codes_ok {l : List Sy} {s : List Int} (h : termErr l s = 0) : ∀ c, c ∈ s → ¬ codeBad l c := by
  obtain ⟨_, _, h3⟩ := tree_exists h (term_pos h)
  have e : subAt l s 0 = s := by
    unfold subAt
    rw [endOf_ok (root_ok h), List.drop_zero, Nat.sub_zero, List.take_length]
  rw [e] at h3
  exact h3
/-! ### Binds -/
theorem binds_right {l : List Sy} {s : List Bd} : ∀ (f i : Nat), s.length ≤ f + i → bindsFrom l s f i = 0 → ∀ k, i ≤ k → k < s.length → bindErr l s k = 0
  | 0, i, hl, _, k, h1, h2 => by omega
  | f + 1, i, hl, h, k, h1, h2 => by
    unfold bindsFrom at h
    by_cases hz : bindErr l s i = 0
    · rw [if_pos hz] at h
      by_cases hk : k = i
      · rw [hk]; exact hz
      · exact binds_right f (i + 1) (by omega) h k (by omega) h2
    · rw [if_neg hz] at h; exact absurd h hz
theorem subst_rows {l : List Sy} {s : List Bd} (h : substErr l s = 0) : sigErr l = 0 ∧ ∀ b, b ∈ s → termErr l b.2 = 0 := by
  unfold substErr at h
  have hs : sigErr l = 0 := by
    by_cases hs : sigErr l = 0
    · exact hs
    · rw [if_pos hs] at h; exact h
  rw [if_neg (by simp [hs])] at h
  refine ⟨hs, fun b hb => ?_⟩
  obtain ⟨k, hk, rfl⟩ := List.getElem_of_mem hb
  have := binds_right s.length 0 (by omega) h k (Nat.zero_le _) hk
  have e : s.getD k bd0 = s[k] := by simp [List.getD_eq_getElem?_getD, List.getElem?_eq_getElem hk]
  unfold bindErr at this
  rw [e] at this
  unfold termErr
  rw [if_neg (by simp [hs])]
  split at this
  · cases this
  · split at this
    · cases this
    · exact this
theorem found_mem {s : List Bd} {v : Int} {T : List Int} (h : boundIn s v = some T) : (v, T) ∈ s := by
  unfold boundIn at h
  cases hf : s.find? (fun b => b.1 == v) with
  | none => rw [hf] at h; cases h
  | some b =>
    rw [hf] at h
    have h1 := List.find?_some hf
    have h2 := List.mem_of_find?_eq_some hf
    have e1 : b.1 = v := by simpa using h1
    have e2 : b.2 = T := by simpa using h
    rw [← e1, ← e2]; exact h2
theorem laid_all (s : List Bd) : ∀ (t acc u : List Int), acc.length ≤ 512 → laidOn s acc t = some u → u = acc ++ t.flatMap (become s) ∧ u.length ≤ 512
  | [], acc, u, h, hu => by
    rw [laidOn] at hu
    injection hu with hu
    subst hu
    exact ⟨by simp, h⟩
  | c :: t, acc, u, h, hu => by
    rw [laidOn] at hu
    by_cases hb : 512 < acc.length + (become s c).length
    · rw [if_pos hb] at hu; cases hu
    · rw [if_neg hb] at hu
      obtain ⟨h1, h2⟩ := laid_all s t _ u (by rw [List.length_append]; omega) hu
      exact ⟨by rw [h1]; simp, h2⟩
/-- What stands for a variable. -/
noncomputable def bindTree (l : List Sy) (s : List Bd) (v : Int) : Tm := treeOf l (become s v)
theorem bind_tree {l : List Sy} {s : List Bd} (h : substErr l s = 0) {v : Int} (hv : v < 0) (hb : ¬ codeBad l v) : (bindTree l s v).flat = become s v ∧ (bindTree l s v).fits (arOf l) ∧ ∀ c, c ∈ become s v → ¬ codeBad l c := by
  obtain ⟨hs, hr⟩ := subst_rows h
  unfold bindTree become
  rw [if_pos hv]
  cases hf : boundIn s (-1 - v) with
  | none =>
    have e : treeOf l [v] = .var v := treeOf_is (by rw [Tm.flat]) (by rw [Tm.fits]; exact hv)
    rw [Option.getD_none, e]
    exact ⟨by rw [Tm.flat], by rw [Tm.fits]; exact hv, fun c hc => by simp at hc; subst hc; exact hb⟩
  | some T =>
    rw [Option.getD_some]
    have ht := hr _ (found_mem hf)
    obtain ⟨a1, a2⟩ := tree_root ht
    have e : treeOf l T = treeAt l T 0 := treeOf_is a1 a2
    rw [e]
    exact ⟨a1, a2, codes_ok ht⟩
theorem flat_bound {l : List Sy} {s : List Bd} (h : substErr l s = 0) : ∀ (n : Nat) (a : Tm), a.size ≤ n → a.fits (arOf l) → (∀ c, c ∈ a.flat → ¬ codeBad l c) → (a.put (bindTree l s)).flat = a.flat.flatMap (become s) ∧ (a.put (bindTree l s)).fits (arOf l)
  | n, .var v, _, hf, hc => by
    rw [Tm.fits] at hf
    obtain ⟨h1, h2, _⟩ := bind_tree h hf (hc v (by rw [Tm.flat]; simp))
    rw [Tm.put, Tm.flat, h1]
    exact ⟨by simp, h2⟩
  | 0, .fn f zs, hn, _, _ => by rw [Tm.size] at hn; omega
  | n + 1, .fn f zs, hn, hf, hc => by
    rw [Tm.fits] at hf
    have ih : ∀ a, a ∈ zs → (a.put (bindTree l s)).flat = a.flat.flatMap (become s) ∧ (a.put (bindTree l s)).fits (arOf l) := fun a ha => flat_bound h n a (by have := Tm.size_lt (c := f) ha; omega) (Tm.fit_mem hf.2.2 ha) fun c hx => hc c (flat_in ha hx)
    have h0 : become s f = [f] := by unfold become; rw [if_neg (by omega)]
    constructor
    · rw [Tm.put, Tm.flat, Tm.flat, Tm.puts_map, flats_map, flats_map, List.flatMap_cons, h0, List.flatMap_map, List.flatMap_assoc, List.singleton_append]
      congr 1
      have key : ∀ xs : List Tm, (∀ a ∈ xs, (a.put (bindTree l s)).flat = a.flat.flatMap (become s)) → xs.flatMap (fun a => (a.put (bindTree l s)).flat) = xs.flatMap fun a => a.flat.flatMap (become s) := fun xs => by
        induction xs with
        | nil => intro _; rfl
        | cons x xs ihx => intro hk; rw [List.flatMap_cons, List.flatMap_cons, hk x (by simp), ihx fun j hj => hk j (by simp [hj])]
      exact key zs fun a ha => (ih a ha).1
    · rw [Tm.put, Tm.fits, Tm.puts_map]
      refine ⟨hf.1, by rw [List.length_map]; exact hf.2.1, allFit_of fun b hb => ?_⟩
      obtain ⟨a, ha, rfl⟩ := List.mem_map.1 hb
      exact (ih a ha).2
theorem become_codes {l : List Sy} {s : List Bd} (h : substErr l s = 0) {t : List Int} (ht : ∀ c, c ∈ t → ¬ codeBad l c) : ∀ c, c ∈ t.flatMap (become s) → ¬ codeBad l c := fun c hc => by
  obtain ⟨x, hx, hcx⟩ := List.mem_flatMap.1 hc
  by_cases h0 : x < 0
  · exact (bind_tree h h0 (ht x hx)).2.2 c hcx
  · unfold become at hcx
    rw [if_neg h0] at hcx
    simp at hcx
    subst hcx
    exact ht _ hx
theorem apply_parts {l : List Sy} {s : List Bd} {t : List Int} (h : applyErr l s t = 0) : substErr l s = 0 ∧ applied l s t = t.flatMap (become s) ∧ (applied l s t).length ≤ 512 := by
  have h0 := h
  unfold applyErr at h0
  by_cases h1 : substErr l s = 0
  · rw [if_neg (by simp [h1])] at h0
    by_cases h2 : termErr l t = 0
    · rw [if_neg (by simp [h2])] at h0
      cases hl : laidOn s [] t with
      | none => rw [hl] at h0; cases h0
      | some u =>
        obtain ⟨e1, e2⟩ := laid_all s t [] u (by simp) hl
        rw [List.nil_append] at e1
        unfold applied
        rw [if_pos h, hl, Option.getD_some]
        exact ⟨h1, e1, e2⟩
    · rw [if_pos h2] at h0; exact absurd h0 h2
  · rw [if_pos h1] at h0; exact absurd h0 h1
/-! ### In one place -/
theorem flats_at : ∀ (zs : List Tm) (i : Nat), i < (Tm.flats zs).length → ∃ p b q, zs = p ++ b :: q ∧ (Tm.flats p).length ≤ i ∧ i < (Tm.flats p).length + b.flat.length
  | [], i, h => by rw [Tm.flats] at h; simp at h
  | a :: zs, i, h => by
    by_cases hi : i < a.flat.length
    · exact ⟨[], a, zs, rfl, by rw [Tm.flats]; simp, by rw [Tm.flats]; simpa using hi⟩
    · rw [Tm.flats, List.length_append] at h
      obtain ⟨p, b, r, rfl, h1, h2⟩ := flats_at zs (i - a.flat.length) (by omega)
      exact ⟨a :: p, b, r, rfl, by rw [Tm.flats, List.length_append]; omega, by rw [Tm.flats, List.length_append]; omega⟩
theorem cut_mid (P B R Y : List Int) (j m : Nat) (h : j + m ≤ B.length) : P ++ ((B.take j ++ Y ++ B.drop (j + m)) ++ R) = (P ++ (B ++ R)).take (P.length + j) ++ Y ++ (P ++ (B ++ R)).drop (P.length + j + m) := by
  have e1 : (P ++ (B ++ R)).take (P.length + j) = P ++ B.take j := by
    rw [List.take_append, List.take_of_length_le (show P.length ≤ P.length + j by omega), Nat.add_sub_cancel_left, List.take_append_of_le_length (show j ≤ B.length by omega)]
  have e2 : (P ++ (B ++ R)).drop (P.length + j + m) = B.drop (j + m) ++ R := by
    rw [Nat.add_assoc, List.drop_append, List.drop_eq_nil_of_le (show P.length ≤ P.length + (j + m) by omega), List.nil_append, Nat.add_sub_cancel_left, List.drop_append_of_le_length h]
  rw [e1, e2]
  simp only [List.append_assoc]
/-- A place of a tree, and what may be told of all that is laid in there. -/
theorem ctx_gen {ar : Int → Nat} : ∀ (n : Nat) (a : Tm), a.size ≤ n → a.fits ar → ∀ i, i < a.flat.length → ∃ (x : Tm) (F : Tm → Tm), F x = a ∧ x.fits ar ∧ (∀ y, (F y).flat = a.flat.take i ++ y.flat ++ a.flat.drop (i + x.flat.length)) ∧
    (∀ y, y.fits ar → (F y).fits ar) ∧ ∀ (R : Tm → Tm → Prop), (∀ f p q y z, R y z → R (.fn f (p ++ y :: q)) (.fn f (p ++ z :: q))) → ∀ y z, R y z → R (F y) (F z)
  | n, a, hn, hf, 0, _ => ⟨a, id, rfl, hf, fun y => by simp, fun y h => h, fun R _ y z h => h⟩
  | n, .var v, _, _, i + 1, hi => by rw [Tm.flat] at hi; simp at hi
  | 0, .fn f zs, hn, _, i + 1, _ => by rw [Tm.size] at hn; omega
  | n + 1, .fn f zs, hn, hf, i + 1, hi => by
    rw [Tm.fits] at hf
    obtain ⟨hf0, hf1, hf2⟩ := hf
    rw [Tm.flat, List.length_cons] at hi
    obtain ⟨p, b, r, rfl, h1, h2⟩ := flats_at zs i (by omega)
    have hb : b ∈ p ++ b :: r := by simp
    obtain ⟨x, F, e, xf, fl, ff, fg⟩ := ctx_gen n b (by have := Tm.size_lt (c := f) hb; omega) (Tm.fit_mem hf2 hb) (i - (Tm.flats p).length) (by omega)
    have hlen : i - (Tm.flats p).length + x.flat.length ≤ b.flat.length := by
      have := congrArg List.length (fl x)
      rw [e] at this
      simp only [List.length_append, List.length_take, List.length_drop] at this
      omega
    rw [fits_app, Tm.allFit] at hf2
    refine ⟨x, fun y => .fn f (p ++ F y :: r), by show Tm.fn f (p ++ F x :: r) = _; rw [e], xf, fun y => ?_, fun y hy => ?_, fun R hR y z h => hR _ _ _ _ _ (fg R hR y z h)⟩
    · have hp : ∀ z : Tm, (Tm.fn f (p ++ z :: r)).flat = (f :: Tm.flats p) ++ (z.flat ++ Tm.flats r) := fun z => by rw [Tm.flat, flats_app, Tm.flats]; rfl
      show (Tm.fn f (p ++ F y :: r)).flat = _
      rw [hp, hp, fl y, cut_mid _ _ _ _ _ _ hlen]
      have e1 : (f :: Tm.flats p).length + (i - (Tm.flats p).length) = i + 1 := by rw [List.length_cons]; omega
      rw [e1]
    · rw [Tm.fits, fits_app, Tm.allFit]
      exact ⟨hf0, by rw [List.length_append, List.length_cons] at hf1 ⊢; exact hf1, hf2.1, ff y hy, hf2.2.2⟩
/-- A place of a term: what stands there, and what comes of all that is laid in. -/
theorem ctx_place {l : List Sy} {c : List Int} (hc : termErr l c = 0) {i : Nat} (hi : i < c.length) : ∃ (x : Tm) (F : Tm → Tm), F x = treeAt l c 0 ∧ x.flat = subAt l c i ∧ x.fits (arOf l) ∧ (∀ y : Tm, (F y).flat = replAt l c i y.flat) ∧ (∀ y, y.fits (arOf l) → (F y).fits (arOf l)) ∧
    ∀ (R : Tm → Tm → Prop), (∀ f p q y z, R y z → R (.fn f (p ++ y :: q)) (.fn f (p ++ z :: q))) → ∀ y z, R y z → R (F y) (F z) := by
  obtain ⟨a1, a2⟩ := tree_root hc
  obtain ⟨x, F, e, xf, fl, ff, fg⟩ := ctx_gen _ (treeAt l c 0) (Nat.le_refl _) a2 i (by rw [a1]; exact hi)
  rw [a1] at fl
  have hx := fl x
  rw [e, a1] at hx
  have hd : c.drop i = x.flat ++ c.drop (i + x.flat.length) := by
    have h2 := congrArg (List.drop i) hx
    rw [List.append_assoc, List.drop_left' (show (c.take i).length = i by rw [List.length_take]; omega)] at h2
    exact h2
  have hsc : scanAt l c 1 i = .ok (i + x.flat.length) := by
    have h := scan_trees l (Tm.sizes [x]) [x] (Nat.le_refl _) (by rw [Tm.allFit, Tm.allFit]; exact ⟨xf, trivial⟩) (fun d hd' => by
      rw [Tm.flats, Tm.flats, List.append_nil] at hd'
      exact codes_ok hc d (List.mem_of_mem_drop (by rw [hd]; exact List.mem_append.2 (.inl hd')))) 0 (c.drop (i + x.flat.length))
    rw [Tm.flats, Tm.flats, List.append_nil, scan] at h
    unfold scanAt
    rw [hd]
    rw [show [x].length + 0 = 1 from rfl] at h
    rw [h]
    simp; omega
  refine ⟨x, F, e, ?_, xf, fun y => ?_, ff, fg⟩
  · unfold subAt
    rw [endOf_ok hsc, Nat.add_sub_cancel_left, hd, List.take_left' rfl]
  · rw [fl y]
    unfold replAt
    rw [endOf_ok hsc]
end Go.Proofs.YtfelhlffiiephaaDoor
