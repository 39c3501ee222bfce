/- Plain laws for LpoKept and LpoMore: the path order is kept by binds, in one place of a term, and by more pairs. Conditions: none. -/
import Derived.Test.YthpdfkhmhaobgaaDoorLpoPlain
import Derived.Test.YthpdfkhmhaobgaaDoorApply
set_option linter.unusedVariables false
set_option linter.unusedSimpArgs false
set_option linter.unnecessarySimpa false
namespace Go.Proofs.YthpdfkhmhaobgaaDoor

/-! ### Binds -/
theorem binds_right {l : List Sy} {s : List Bd} : ∀ (f i : Nat), s.length ≤ f + i → bindsFrom l s f i = 0 → ∀ k, i ≤ k → k < s.length → bindErr l s k = 0
  | 0, i, hl, _, k, h1, h2 => by omega
  | f + 1, i, hl, h, k, h1, h2 => by
    unfold bindsFrom at h
    by_cases hz : bindErr l s i = 0
    · rw [if_pos hz] at h
      by_cases hk : k = i
      · rw [hk]; exact hz
      · exact binds_right f (i + 1) (by omega) h k (by omega) h2
    · rw [if_neg hz] at h; exact absurd h hz
theorem subst_rows {l : List Sy} {s : List Bd} (h : substErr l s = 0) : sigErr l = 0 ∧ ∀ b, b ∈ s → termErr l b.2 = 0 := by
  unfold substErr at h
  have hs : sigErr l = 0 := by
    by_cases hs : sigErr l = 0
    · exact hs
    · rw [if_pos hs] at h; exact h
  rw [if_neg (by simp [hs])] at h
  refine ⟨hs, fun b hb => ?_⟩
  obtain ⟨k, hk, rfl⟩ := List.getElem_of_mem hb
  have := binds_right s.length 0 (by omega) h k (Nat.zero_le _) hk
  have e : s.getD k bd0 = s[k] := by simp [List.getD_eq_getElem?_getD, List.getElem?_eq_getElem hk]
  unfold bindErr at this
  rw [e] at this
  unfold termErr
  rw [if_neg (by simp [hs])]
  split at this
  · cases this
  · split at this
    · cases this
    · exact this
theorem found_mem {s : List Bd} {v : Int} {T : List Int} (h : boundIn s v = some T) : (v, T) ∈ s := by
  unfold boundIn at h
  cases hf : s.find? (fun b => b.1 == v) with
  | none => rw [hf] at h; cases h
  | some b =>
    rw [hf] at h
    have h1 := List.find?_some hf
    have h2 := List.mem_of_find?_eq_some hf
    have e1 : b.1 = v := by simpa using h1
    have e2 : b.2 = T := by simpa using h
    rw [← e1, ← e2]; exact h2
theorem laid_all (s : List Bd) : ∀ (t acc u : List Int), acc.length ≤ 512 → laidOn s acc t = some u → u = acc ++ t.flatMap (become s) ∧ u.length ≤ 512
  | [], acc, u, h, hu => by
    rw [laidOn] at hu
    injection hu with hu
    subst hu
    exact ⟨by simp, h⟩
  | c :: t, acc, u, h, hu => by
    rw [laidOn] at hu
    by_cases hb : 512 < acc.length + (become s c).length
    · rw [if_pos hb] at hu; cases hu
    · rw [if_neg hb] at hu
      obtain ⟨h1, h2⟩ := laid_all s t _ u (by rw [List.length_append]; omega) hu
      exact ⟨by rw [h1]; simp, h2⟩
/-- What stands for a variable. -/
noncomputable def bindTree (l : List Sy) (s : List Bd) (v : Int) : Tm := treeOf l (become s v)
theorem bind_tree {l : List Sy} {s : List Bd} (h : substErr l s = 0) {v : Int} (hv : v < 0) (hb : ¬ codeBad l v) : (bindTree l s v).flat = become s v ∧ (bindTree l s v).fits (arOf l) ∧ ∀ c, c ∈ become s v → ¬ codeBad l c := by
  obtain ⟨hs, hr⟩ := subst_rows h
  unfold bindTree become
  rw [if_pos hv]
  cases hf : boundIn s (-1 - v) with
  | none =>
    have e : treeOf l [v] = .var v := treeOf_is (by rw [Tm.flat]) (by rw [Tm.fits]; exact hv)
    rw [Option.getD_none, e]
    exact ⟨by rw [Tm.flat], by rw [Tm.fits]; exact hv, fun c hc => by simp at hc; subst hc; exact hb⟩
  | some T =>
    rw [Option.getD_some]
    have ht := hr _ (found_mem hf)
    obtain ⟨a1, a2⟩ := tree_root ht
    have e : treeOf l T = treeAt l T 0 := treeOf_is a1 a2
    rw [e]
    exact ⟨a1, a2, codes_ok ht⟩
theorem flat_bound {l : List Sy} {s : List Bd} (h : substErr l s = 0) : ∀ (n : Nat) (a : Tm), a.size ≤ n → a.fits (arOf l) → (∀ c, c ∈ a.flat → ¬ codeBad l c) → (a.put (bindTree l s)).flat = a.flat.flatMap (become s) ∧ (a.put (bindTree l s)).fits (arOf l)
  | n, .var v, _, hf, hc => by
    rw [Tm.fits] at hf
    obtain ⟨h1, h2, _⟩ := bind_tree h hf (hc v (by rw [Tm.flat]; simp))
    rw [Tm.put, Tm.flat, h1]
    exact ⟨by simp, h2⟩
  | 0, .fn f zs, hn, _, _ => by rw [Tm.size] at hn; omega
  | n + 1, .fn f zs, hn, hf, hc => by
    rw [Tm.fits] at hf
    have ih : ∀ a, a ∈ zs → (a.put (bindTree l s)).flat = a.flat.flatMap (become s) ∧ (a.put (bindTree l s)).fits (arOf l) := fun a ha => flat_bound h n a (by have := Tm.size_lt (c := f) ha; omega) (Tm.fit_mem hf.2.2 ha) fun c hx => hc c (flat_in ha hx)
    have h0 : become s f = [f] := by unfold become; rw [if_neg (by omega)]
    constructor
    · rw [Tm.put, Tm.flat, Tm.flat, Tm.puts_map, flats_map, flats_map, List.flatMap_cons, h0, List.flatMap_map, List.flatMap_assoc, List.singleton_append]
      congr 1
      have key : ∀ xs : List Tm, (∀ a ∈ xs, (a.put (bindTree l s)).flat = a.flat.flatMap (become s)) → xs.flatMap (fun a => (a.put (bindTree l s)).flat) = xs.flatMap fun a => a.flat.flatMap (become s) := fun xs => by
        induction xs with
        | nil => intro _; rfl
        | cons x xs ihx => intro hk; rw [List.flatMap_cons, List.flatMap_cons, hk x (by simp), ihx fun j hj => hk j (by simp [hj])]
      exact key zs fun a ha => (ih a ha).1
    · rw [Tm.put, Tm.fits, Tm.puts_map]
      refine ⟨hf.1, by rw [List.length_map]; exact hf.2.1, allFit_of fun b hb => ?_⟩
      obtain ⟨a, ha, rfl⟩ := List.mem_map.1 hb
      exact (ih a ha).2
theorem become_codes {l : List Sy} {s : List Bd} (h : substErr l s = 0) {t : List Int} (ht : ∀ c, c ∈ t → ¬ codeBad l c) : ∀ c, c ∈ t.flatMap (become s) → ¬ codeBad l c := fun c hc => by
  obtain ⟨x, hx, hcx⟩ := List.mem_flatMap.1 hc
  by_cases h0 : x < 0
  · exact (bind_tree h h0 (ht x hx)).2.2 c hcx
  · unfold become at hcx
    rw [if_neg h0] at hcx
    simp at hcx
    subst hcx
    exact ht _ hx
theorem apply_parts {l : List Sy} {s : List Bd} {t : List Int} (h : applyErr l s t = 0) : substErr l s = 0 ∧ applied l s t = t.flatMap (become s) ∧ (applied l s t).length ≤ 512 := by
  have h0 := h
  unfold applyErr at h0
  by_cases h1 : substErr l s = 0
  · rw [if_neg (by simp [h1])] at h0
    by_cases h2 : termErr l t = 0
    · rw [if_neg (by simp [h2])] at h0
      cases hl : laidOn s [] t with
      | none => rw [hl] at h0; cases h0
      | some u =>
        obtain ⟨e1, e2⟩ := laid_all s t [] u (by simp) hl
        rw [List.nil_append] at e1
        unfold applied
        rw [if_pos h, hl, Option.getD_some]
        exact ⟨h1, e1, e2⟩
    · rw [if_pos h2] at h0; exact absurd h0 h2
  · rw [if_pos h1] at h0; exact absurd h0 h1
section
variable {l : List Sy} {q : List (Int × Int)} {s t : List Int}
theorem lg_bound {b : List Bd} (hg : lg l q s t = true) (hs : applyErr l b s = 0) (ht : applyErr l b t = 0) : lg l q (applied l b s) (applied l b t) = true := by
  obtain ⟨⟨s0, s5⟩, ⟨t0, t5⟩, _⟩ := lg_is.1 hg
  obtain ⟨b0, u1, u5⟩ := apply_parts hs
  obtain ⟨_, v1, v5⟩ := apply_parts ht
  obtain ⟨x1, x2⟩ := tree_root s0
  obtain ⟨y1, y2⟩ := tree_root t0
  have gx := (lg_iff s0 t0 s5 t5 x1 x2 y1 y2).1 hg
  obtain ⟨f1, f2⟩ := flat_bound b0 _ (treeAt l s 0) (Nat.le_refl _) x2 (by rw [x1]; exact codes_ok s0)
  obtain ⟨g1, g2⟩ := flat_bound b0 _ (treeAt l t 0) (Nat.le_refl _) y2 (by rw [y1]; exact codes_ok t0)
  rw [x1, ← u1] at f1
  rw [y1, ← v1] at g1
  have tu : termErr l (applied l b s) = 0 := by
    rw [← f1]
    refine term_tree (term_sig s0) f2 fun c hc => ?_
    rw [f1, u1] at hc
    exact become_codes b0 (codes_ok s0) c hc
  have tv : termErr l (applied l b t) = 0 := by
    rw [← g1]
    refine term_tree (term_sig s0) g2 fun c hc => ?_
    rw [g1, v1] at hc
    exact become_codes b0 (codes_ok t0) c hc
  exact (lg_iff tu tv u5 v5 f1 f2 g1 g2).2 (gx.put _)

/-! ### In one place -/
theorem flats_at : ∀ (zs : List Tm) (i : Nat), i < (Tm.flats zs).length → ∃ p b q, zs = p ++ b :: q ∧ (Tm.flats p).length ≤ i ∧ i < (Tm.flats p).length + b.flat.length
  | [], i, h => by rw [Tm.flats] at h; simp at h
  | a :: zs, i, h => by
    by_cases hi : i < a.flat.length
    · exact ⟨[], a, zs, rfl, by rw [Tm.flats]; simp, by rw [Tm.flats]; simpa using hi⟩
    · rw [Tm.flats, List.length_append] at h
      obtain ⟨p, b, r, rfl, h1, h2⟩ := flats_at zs (i - a.flat.length) (by omega)
      exact ⟨a :: p, b, r, rfl, by rw [Tm.flats, List.length_append]; omega, by rw [Tm.flats, List.length_append]; omega⟩
theorem cut_mid (P B R Y : List Int) (j m : Nat) (h : j + m ≤ B.length) : P ++ ((B.take j ++ Y ++ B.drop (j + m)) ++ R) = (P ++ (B ++ R)).take (P.length + j) ++ Y ++ (P ++ (B ++ R)).drop (P.length + j + m) := by
  have e1 : (P ++ (B ++ R)).take (P.length + j) = P ++ B.take j := by
    rw [List.take_append, List.take_of_length_le (show P.length ≤ P.length + j by omega), Nat.add_sub_cancel_left, List.take_append_of_le_length (show j ≤ B.length by omega)]
  have e2 : (P ++ (B ++ R)).drop (P.length + j + m) = B.drop (j + m) ++ R := by
    rw [Nat.add_assoc, List.drop_append, List.drop_eq_nil_of_le (show P.length ≤ P.length + (j + m) by omega), List.nil_append, Nat.add_sub_cancel_left, List.drop_append_of_le_length h]
  rw [e1, e2]
  simp only [List.append_assoc]
theorem ctx_of {ar : Int → Nat} : ∀ (n : Nat) (a : Tm), a.size ≤ n → a.fits ar → ∀ i, i < a.flat.length → ∃ (x : Tm) (F : Tm → Tm), F x = a ∧ x.fits ar ∧ (∀ y, (F y).flat = a.flat.take i ++ y.flat ++ a.flat.drop (i + x.flat.length)) ∧
    (∀ y, y.fits ar → (F y).fits ar) ∧ ∀ (ab : Int → Int → Prop) (y z : Tm), Gt ab y z → Gt ab (F y) (F z)
  | n, a, hn, hf, 0, _ => ⟨a, id, rfl, hf, fun y => by simp, fun y h => h, fun ab y z h => h⟩
  | n, .var v, _, _, i + 1, hi => by rw [Tm.flat] at hi; simp at hi
  | 0, .fn f zs, hn, _, i + 1, _ => by rw [Tm.size] at hn; omega
  | n + 1, .fn f zs, hn, hf, i + 1, hi => by
    rw [Tm.fits] at hf
    obtain ⟨hf0, hf1, hf2⟩ := hf
    rw [Tm.flat, List.length_cons] at hi
    obtain ⟨p, b, r, rfl, h1, h2⟩ := flats_at zs i (by omega)
    have hb : b ∈ p ++ b :: r := by simp
    obtain ⟨x, F, e, xf, fl, ff, fg⟩ := ctx_of n b (by have := Tm.size_lt (c := f) hb; omega) (Tm.fit_mem hf2 hb) (i - (Tm.flats p).length) (by omega)
    have hlen : i - (Tm.flats p).length + x.flat.length ≤ b.flat.length := by
      have := congrArg List.length (fl x)
      rw [e] at this
      simp only [List.length_append, List.length_take, List.length_drop] at this
      omega
    rw [fits_app, Tm.allFit] at hf2
    refine ⟨x, fun y => .fn f (p ++ F y :: r), by show Tm.fn f (p ++ F x :: r) = _; rw [e], xf, fun y => ?_, fun y hy => ?_, fun ab y z h => Gt.round (fg ab y z h)⟩
    · have hp : ∀ z : Tm, (Tm.fn f (p ++ z :: r)).flat = (f :: Tm.flats p) ++ (z.flat ++ Tm.flats r) := fun z => by rw [Tm.flat, flats_app, Tm.flats]; rfl
      show (Tm.fn f (p ++ F y :: r)).flat = _
      rw [hp, hp, fl y, cut_mid _ _ _ _ _ _ hlen]
      have e1 : (f :: Tm.flats p).length + (i - (Tm.flats p).length) = i + 1 := by rw [List.length_cons]; omega
      rw [e1]
    · rw [Tm.fits, fits_app, Tm.allFit]
      exact ⟨hf0, by rw [List.length_append, List.length_cons] at hf1 ⊢; exact hf1, hf2.1, ff y hy, hf2.2.2⟩
theorem ctx_row {c : List Int} (hc : termErr l c = 0) {i : Nat} (hi : i < c.length) : ∃ F : Tm → Tm, (∀ y : Tm, (F y).flat = replAt l c i y.flat) ∧ (∀ y, y.fits (arOf l) → (F y).fits (arOf l)) ∧ ∀ (ab : Int → Int → Prop) (y z : Tm), Gt ab y z → Gt ab (F y) (F z) := by
  obtain ⟨a1, a2⟩ := tree_root hc
  obtain ⟨x, F, e, xf, fl, ff, fg⟩ := ctx_of _ (treeAt l c 0) (Nat.le_refl _) a2 i (by rw [a1]; exact hi)
  rw [a1] at fl
  have hx := fl x
  rw [e, a1] at hx
  have hd : c.drop i = x.flat ++ c.drop (i + x.flat.length) := by
    have h2 := congrArg (List.drop i) hx
    rw [List.append_assoc, List.drop_left' (show (c.take i).length = i by rw [List.length_take]; omega)] at h2
    exact h2
  have hsc : scanAt l c 1 i = .ok (i + x.flat.length) := by
    have h := scan_trees l (Tm.sizes [x]) [x] (Nat.le_refl _) (by rw [Tm.allFit, Tm.allFit]; exact ⟨xf, trivial⟩) (fun d hd' => by
      rw [Tm.flats, Tm.flats, List.append_nil] at hd'
      exact codes_ok hc d (List.mem_of_mem_drop (by rw [hd]; exact List.mem_append.2 (.inl hd')))) 0 (c.drop (i + x.flat.length))
    rw [Tm.flats, Tm.flats, List.append_nil, scan] at h
    unfold scanAt
    rw [hd]
    rw [show [x].length + 0 = 1 from rfl] at h
    rw [h]
    simp; omega
  refine ⟨F, fun y => ?_, ff, fg⟩
  rw [fl y]
  unfold replAt
  rw [endOf_ok hsc]
theorem lg_round {c : List Int} (hg : lg l q s t = true) (hc : termErr l c = 0) {i : Nat} (hi : i < c.length) (hs : replErr l c i s = 0) (ht : replErr l c i t = 0) : lg l q (replAt l c i s) (replAt l c i t) = true := by
  obtain ⟨⟨s0, s5⟩, ⟨t0, t5⟩, _⟩ := lg_is.1 hg
  obtain ⟨x1, x2⟩ := tree_root s0
  obtain ⟨y1, y2⟩ := tree_root t0
  have gx := (lg_iff s0 t0 s5 t5 x1 x2 y1 y2).1 hg
  obtain ⟨F, fl, ff, fg⟩ := ctx_row (l := l) hc hi
  have f1 := fl (treeAt l s 0)
  have g1 := fl (treeAt l t 0)
  rw [x1] at f1
  rw [y1] at g1
  have f2 := ff _ x2
  have g2 := ff _ y2
  have key : ∀ u : List Int, termErr l u = 0 → replErr l c i u = 0 → ∀ a : Tm, a.flat = replAt l c i u → a.fits (arOf l) → termErr l (replAt l c i u) = 0 ∧ (replAt l c i u).length ≤ 512 := fun u hu hr a ha hfit => by
    constructor
    · rw [← ha]
      refine term_tree (term_sig hc) hfit fun d hd => ?_
      rw [ha] at hd
      unfold replAt at hd
      rcases List.mem_append.1 hd with hd | hd
      · rcases List.mem_append.1 hd with hd | hd
        · exact codes_ok hc d (List.mem_of_mem_take hd)
        · exact codes_ok hu d hd
      · exact codes_ok hc d (List.mem_of_mem_drop hd)
    · unfold replErr at hr
      rw [if_neg (by simp [hc]), if_neg (by simp [hu])] at hr
      split at hr
      · rename_i h; exact absurd hr h
      · split at hr
        · cases hr
        · unfold replAt
          simp only [List.length_append, List.length_take, List.length_drop]
          simp only [Int.toNat_natCast] at *
          omega
  obtain ⟨p1, p2⟩ := key s s0 hs _ f1 f2
  obtain ⟨r1, r2⟩ := key t t0 ht _ g1 g2
  exact (lg_iff p1 r1 p2 r2 f1 f2 g1 g2).2 (fg _ _ _ gx)

/-! ### More pairs -/
theorem lg_more {r : List (Int × Int)} (h : ∀ p, p ∈ q → p ∈ r) (hg : lg l q s t = true) : lg l r s t = true := by
  rw [lg_is] at hg ⊢
  exact ⟨hg.1, hg.2.1, Gt.mono (fun f g k => k.sub h) hg.2.2⟩
end
end Go.Proofs.YthpdfkhmhaobgaaDoor
