/- Numbering anew: it knows no names of variables, and twice is once. Conditions: none. -/
import Derived.Test.YtldnokeejinebaaDoorCanon
set_option linter.unusedVariables false
set_option linter.unusedSimpArgs false
namespace Go.Proofs.YtldnokeejinebaaDoor

/-- Different codes of a set become different. -/
def InjOn (S : Int → Prop) (φ : Int → Int) : Prop := ∀ a b, S a → S b → φ a = φ b → a = b
/-- Variables become variables, symbols stay. -/
structure Renames (S : Int → Prop) (φ : Int → Int) : Prop where
  inj : InjOn S φ
  neg : ∀ c, S c → c < 0 → φ c < 0
  pos : ∀ c, 0 ≤ c → φ c = c
theorem idxOf_map {S : Int → Prop} {φ : Int → Int} (hi : InjOn S φ) {c : Int} (hc : S c) : ∀ (met : List Int), (∀ x ∈ met, S x) → (met.map φ).idxOf (φ c) = met.idxOf c
  | [], _ => rfl
  | x :: met, hm => by
    have ih := idxOf_map hi hc met (fun y hy => hm y (by simp [hy]))
    simp only [List.map_cons, List.idxOf_cons]
    by_cases e : x = c
    · subst e; simp
    · have hne : φ x ≠ φ c := fun h => e (hi x c (hm x (by simp)) hc h)
      rw [show (φ x == φ c) = false from beq_eq_false_iff_ne.2 hne, show (x == c) = false from beq_eq_false_iff_ne.2 e]
      simp [ih]
theorem mem_map_inj {S : Int → Prop} {φ : Int → Int} (hi : InjOn S φ) {c : Int} (hc : S c) {met : List Int} (hm : ∀ x ∈ met, S x) : φ c ∈ met.map φ ↔ c ∈ met := by
  constructor
  · intro h
    obtain ⟨y, hy, e⟩ := List.mem_map.1 h
    rw [← hi y c (hm y hy) hc e]; exact hy
  · exact fun h => List.mem_map_of_mem h
theorem meet_map {S : Int → Prop} {φ : Int → Int} (hi : InjOn S φ) {c : Int} (hc : S c) {met : List Int} (hm : ∀ x ∈ met, S x) : meet (met.map φ) (φ c) = (meet met c).map φ := by
  unfold meet
  by_cases h : c ∈ met
  · rw [if_pos h, if_pos ((mem_map_inj hi hc hm).2 h)]
  · rw [if_neg h, if_neg (fun x => h ((mem_map_inj hi hc hm).1 x))]; simp
theorem meet_sub {S : Int → Prop} {c : Int} (hc : S c) {met : List Int} (hm : ∀ x ∈ met, S x) : ∀ x ∈ meet met c, S x := by
  intro x hx
  unfold meet at hx
  split at hx
  · exact hm x hx
  · rcases List.mem_append.1 hx with hx | hx
    · exact hm x hx
    · simp at hx; subst hx; exact hc
theorem canonRow_rename {S : Int → Prop} {φ : Int → Int} (h : Renames S φ) : ∀ (t met acc : List Int), (∀ x ∈ met, S x) → (∀ x ∈ t, x < 0 → S x) →
    canonRow (met.map φ) acc (t.map φ) = ((canonRow met acc t).1.map φ, (canonRow met acc t).2)
  | [], met, acc, _, _ => rfl
  | c :: t, met, acc, hm, ht => by
    have ih := canonRow_rename h t
    rw [List.map_cons]
    by_cases hc : 0 ≤ c
    · rw [h.pos c hc, canonRow, if_pos hc, canonRow, if_pos hc]
      exact ih met (acc ++ [c]) hm (fun x hx => ht x (by simp [hx]))
    · have hS := ht c (by simp) (by omega)
      have hn := h.neg c hS (by omega)
      rw [canonRow, if_neg (by omega), canonRow, if_neg hc, meet_map h.inj hS hm, idxOf_map h.inj hS met hm]
      exact ih (meet met c) _ (meet_sub hS hm) (fun x hx => ht x (by simp [hx]))
theorem canonRow_in {S : Int → Prop} : ∀ (t met acc : List Int), (∀ x ∈ met, S x) → (∀ x ∈ t, x < 0 → S x) → ∀ x ∈ (canonRow met acc t).1, S x
  | [], met, acc, hm, _ => hm
  | c :: t, met, acc, hm, ht => by
    unfold canonRow
    split
    · exact canonRow_in t met _ hm (fun x hx => ht x (by simp [hx]))
    · rename_i hc
      exact canonRow_in t _ _ (meet_sub (ht c (by simp) (by omega)) hm) (fun x hx => ht x (by simp [hx]))
theorem canonOn_rename {S : Int → Prop} {φ : Int → Int} (h : Renames S φ) : ∀ (l : List (List Int)) (met : List Int) (out : List (List Int)), (∀ x ∈ met, S x) → (∀ t ∈ l, ∀ x ∈ t, x < 0 → S x) →
    canonOn (met.map φ) out (l.map (·.map φ)) = canonOn met out l
  | [], met, out, _, _ => rfl
  | t :: l, met, out, hm, hl => by
    rw [List.map_cons, canonOn, canonOn, canonRow_rename h t met [] hm (hl t (by simp))]
    exact canonOn_rename h l _ _ (canonRow_in t met [] hm (hl t (by simp))) (fun u hu => hl u (by simp [hu]))
/-- Numbering anew knows no names. -/
theorem canon_rename {S : Int → Prop} {φ : Int → Int} (h : Renames S φ) (l : List (List Int)) (hl : ∀ t ∈ l, ∀ x ∈ t, x < 0 → S x) : canon (l.map (·.map φ)) = canon l :=
  canonOn_rename h l [] [] (fun x hx => by cases hx) hl

/-! ### what comes out, as a renaming -/
def asIdx (M : List Int) (c : Int) : Int := if 0 ≤ c then c else -1 - (M.idxOf c : Int)
theorem idx_prefix {met M : List Int} {c : Int} (hc : c ∈ met) (h : met <+: M) : M.idxOf c = met.idxOf c := by
  obtain ⟨u, rfl⟩ := h
  rw [List.idxOf_append, if_pos hc]
theorem meet_prefix (met : List Int) (c : Int) : met <+: meet met c := by
  unfold meet
  split
  · exact List.prefix_refl _
  · exact List.prefix_append _ _
theorem canonRow_grows : ∀ (t met acc : List Int), met <+: (canonRow met acc t).1
  | [], met, acc => List.prefix_refl _
  | c :: t, met, acc => by
    unfold canonRow
    split
    · exact canonRow_grows t met _
    · exact (meet_prefix met c).trans (canonRow_grows t _ _)
theorem canonRow_out (M : List Int) : ∀ (t met acc : List Int), (canonRow met acc t).1 <+: M → (canonRow met acc t).2 = acc ++ t.map (asIdx M) ∧ ∀ x ∈ t, x < 0 → x ∈ M
  | [], met, acc, h => by simp [canonRow]
  | c :: t, met, acc, h => by
    unfold canonRow at h ⊢
    by_cases hc : 0 ≤ c
    · rw [if_pos hc] at h ⊢
      obtain ⟨h1, h2⟩ := canonRow_out M t met _ h
      refine ⟨by rw [h1]; simp [asIdx, hc], fun x hx hn => ?_⟩
      rcases List.mem_cons.1 hx with rfl | hx
      · omega
      · exact h2 x hx hn
    · rw [if_neg hc] at h ⊢
      obtain ⟨h1, h2⟩ := canonRow_out M t _ _ h
      have hp : meet met c <+: M := (canonRow_grows t _ _).trans h
      have hi : M.idxOf c = met.idxOf c := by rw [idx_prefix (mem_meet met c) hp, idx_meet]
      refine ⟨by rw [h1]; simp [asIdx, hc, hi], fun x hx hn => ?_⟩
      rcases List.mem_cons.1 hx with rfl | hx
      · exact hp.subset (mem_meet met x)
      · exact h2 x hx hn
/-- All variables that are met. -/
def metAll : List Int → List (List Int) → List Int
  | met, [] => met
  | met, t :: l => metAll (canonRow met [] t).1 l
theorem metAll_grows : ∀ (l : List (List Int)) (met : List Int), met <+: metAll met l
  | [], met => List.prefix_refl _
  | t :: l, met => (canonRow_grows t met []).trans (metAll_grows l _)
theorem canonOn_out (M : List Int) : ∀ (l : List (List Int)) (met : List Int) (out : List (List Int)), metAll met l <+: M → canonOn met out l = out ++ l.map (·.map (asIdx M)) ∧ ∀ t ∈ l, ∀ x ∈ t, x < 0 → x ∈ M
  | [], met, out, h => by simp [canonOn]
  | t :: l, met, out, h => by
    unfold metAll at h
    obtain ⟨h1, h2⟩ := canonRow_out M t met [] ((metAll_grows l _).trans h)
    obtain ⟨h3, h4⟩ := canonOn_out M l _ (out ++ [(canonRow met [] t).2]) h
    refine ⟨by rw [canonOn, h3, h1]; simp, fun u hu => ?_⟩
    rcases List.mem_cons.1 hu with rfl | hu
    · exact h2
    · exact h4 u hu
theorem canon_out (l : List (List Int)) : canon l = l.map (·.map (asIdx (metAll [] l))) ∧ ∀ t ∈ l, ∀ x ∈ t, x < 0 → x ∈ metAll [] l := by
  have := canonOn_out (metAll [] l) l [] [] (List.prefix_refl _)
  rw [List.nil_append] at this
  exact this
theorem idxOf_inj {M : List Int} {a b : Int} (ha : a ∈ M) (hb : b ∈ M) (h : M.idxOf a = M.idxOf b) : a = b := by
  have h1 := List.getElem_idxOf (List.idxOf_lt_length_of_mem ha)
  have h2 := List.getElem_idxOf (List.idxOf_lt_length_of_mem hb)
  rw [← h1, ← h2]
  congr 1
/-- Twice is once. -/
theorem canon_canon (l : List (List Int)) : canon (canon l) = canon l := by
  obtain ⟨h1, h2⟩ := canon_out l
  have hr : Renames (fun x => x ∈ metAll [] l ∧ x < 0) (asIdx (metAll [] l)) := by
    refine ⟨fun a b ha hb h => ?_, fun c _ hc => ?_, fun c hc => by simp [asIdx, hc]⟩
    · have h1 := ha.2
      have h2 := hb.2
      simp only [asIdx, if_neg (show ¬ 0 ≤ a by omega), if_neg (show ¬ 0 ≤ b by omega)] at h
      exact idxOf_inj ha.1 hb.1 (by omega)
    · simp only [asIdx, if_neg (show ¬ 0 ≤ c by omega)]; omega
  have := canon_rename hr l (fun t ht x hx hn => ⟨h2 t ht x hx hn, hn⟩)
  rw [← h1] at this
  exact this
theorem canon_length (l : List (List Int)) : (canon l).length = l.length := by rw [(canon_out l).1]; simp

/-! ### numbers that are greater by as much -/
def plusBy (q c : Int) : Int := if 0 ≤ c then c else -1 - (-1 - c + q)
theorem plusBy_pos {q c : Int} (h : 0 ≤ c) : plusBy q c = c := if_pos h
theorem plusBy_neg {q c : Int} (h : ¬ 0 ≤ c) : plusBy q c = -1 - (-1 - c + q) := if_neg h
theorem shiftOn_some {q : Int} : ∀ (t acc r : List Int), shiftOn q acc t = some r → r = acc ++ t.map (plusBy q) ∧ ∀ c ∈ t, c < 0 → 0 ≤ -1 - c + q ∧ -1 - c + q < 1048576
  | [], acc, r, h => by simp [shiftOn] at h; subst h; simp
  | c :: t, acc, r, h => by
    unfold shiftOn at h
    by_cases hc : 0 ≤ c
    · have hd : shiftOne q c = some c := by unfold shiftOne; rw [if_pos hc]
      rw [hd] at h
      obtain ⟨h1, h2⟩ := shiftOn_some t _ r h
      refine ⟨by rw [h1]; simp [plusBy, hc], fun x hx hn => ?_⟩
      rcases List.mem_cons.1 hx with rfl | hx
      · omega
      · exact h2 x hx hn
    · by_cases hb : 0 ≤ -1 - c + q ∧ -1 - c + q < 1048576
      · have hd : shiftOne q c = some (-1 - (-1 - c + q)) := by unfold shiftOne; rw [if_neg hc, if_pos hb]
        rw [hd] at h
        obtain ⟨h1, h2⟩ := shiftOn_some t _ r h
        refine ⟨by rw [h1]; simp [plusBy, hc], fun x hx hn => ?_⟩
        rcases List.mem_cons.1 hx with rfl | hx
        · exact hb
        · exact h2 x hx hn
      · have hd : shiftOne q c = none := by unfold shiftOne; rw [if_neg hc, if_neg hb]
        rw [hd] at h; cases h
theorem shiftOn_length {q : Int} {t r : List Int} (h : shiftOn q [] t = some r) : r.length = t.length := by
  rw [(shiftOn_some t [] r h).1]; simp
theorem shiftOn_all {q : Int} : ∀ (t acc : List Int), (∀ c ∈ t, c < 0 → 0 ≤ -1 - c + q ∧ -1 - c + q < 1048576) → shiftOn q acc t = some (acc ++ t.map (plusBy q))
  | [], acc, _ => by simp [shiftOn]
  | c :: t, acc, h => by
    unfold shiftOn
    by_cases hc : 0 ≤ c
    · have hd : shiftOne q c = some c := by unfold shiftOne; rw [if_pos hc]
      rw [hd]
      simp only
      rw [shiftOn_all t _ (fun x hx => h x (by simp [hx]))]
      simp [plusBy, hc]
    · have hd : shiftOne q c = some (-1 - (-1 - c + q)) := by unfold shiftOne; rw [if_neg hc, if_pos (h c (by simp) (by omega))]
      rw [hd]
      simp only
      rw [shiftOn_all t _ (fun x hx => h x (by simp [hx]))]
      simp [plusBy, hc]
theorem shiftOn_none {q : Int} {t acc : List Int} {c : Int} (hc : c ∈ t) (hn : c < 0) (hb : ¬ (0 ≤ -1 - c + q ∧ -1 - c + q < 1048576)) : shiftOn q acc t = none := by
  cases h : shiftOn q acc t with
  | none => rfl
  | some r => exact absurd ((shiftOn_some t acc r h).2 c hc hn) hb
/-- There and back. -/
theorem shift_back {q : Int} {t x : List Int} (h : shiftOn q [] t = some x) (hb : ∀ c ∈ t, -1048576 ≤ c) : shiftOn (-q) [] x = some t := by
  obtain ⟨h1, h2⟩ := shiftOn_some t [] x h
  simp only [List.nil_append] at h1
  subst h1
  rw [shiftOn_all]
  · simp only [List.nil_append, List.map_map, Option.some.injEq]
    have : ∀ c ∈ t, (plusBy (-q) ∘ plusBy q) c = c := fun c hc => by
      rw [Function.comp]
      by_cases h0 : 0 ≤ c
      · rw [plusBy_pos h0, plusBy_pos h0]
      · have := h2 c hc (by omega)
        rw [plusBy_neg h0, plusBy_neg (by omega)]; omega
    rw [List.map_congr_left this]; simp
  · intro c hc hn
    obtain ⟨y, hy, rfl⟩ := List.mem_map.1 hc
    have := hb y hy
    by_cases h0 : 0 ≤ y
    · rw [plusBy_pos h0] at hn; omega
    · have := h2 y hy (by omega)
      rw [plusBy_neg h0]; omega
theorem shift_back_not {q : Int} {t x : List Int} (h : shiftOn q [] t = some x) (hb : ¬ ∀ c ∈ t, -1048576 ≤ c) : shiftOn (-q) [] x = none := by
  obtain ⟨h1, h2⟩ := shiftOn_some t [] x h
  simp only [List.nil_append] at h1
  subst h1
  have : ∃ c ∈ t, c < -1048576 := by
    apply Classical.byContradiction
    intro hne
    exact hb (fun c hc => by
      apply Classical.byContradiction
      intro hlt
      exact hne ⟨c, hc, by omega⟩)
  obtain ⟨c, hc, hlt⟩ := this
  have hr := h2 c hc (by omega)
  refine shiftOn_none (List.mem_map_of_mem hc) ?_ ?_
  · rw [plusBy_neg (show ¬ 0 ≤ c by omega)]; omega
  · rw [plusBy_neg (show ¬ 0 ≤ c by omega)]; omega
/-- Numbering anew, of what was shifted. -/
theorem canon_shift {q : Int} {l m : List (List Int)} (hl : m.length = l.length) (h : ∀ k, k < l.length → shiftOn q [] (l.getD k []) = some (m.getD k [])) : canon m = canon l := by
  have hm : m = l.map (·.map (plusBy q)) := by
    apply List.ext_getElem (by simp [hl])
    intro i h1 h2
    have hi : i < l.length := by omega
    have := (shiftOn_some _ _ _ (h i hi)).1
    simp only [List.getD_eq_getElem?_getD, List.getElem?_eq_getElem hi, List.getElem?_eq_getElem h1, Option.getD_some, List.nil_append] at this
    simp [this]
  rw [hm]
  refine canon_rename (S := fun c => c < 0 ∧ 0 ≤ -1 - c + q) ⟨fun a b ha hb h => ?_, fun c hc _ => ?_, fun c hc => plusBy_pos hc⟩ l (fun t ht x hx hn => ?_)
  · rw [plusBy_neg (show ¬ 0 ≤ a by omega), plusBy_neg (show ¬ 0 ≤ b by omega)] at h
    omega
  · rw [plusBy_neg (show ¬ 0 ≤ c by omega)]; omega
  · obtain ⟨i, hi, rfl⟩ := List.getElem_of_mem ht
    have := (shiftOn_some _ _ _ (h i hi)).2
    simp only [List.getD_eq_getElem?_getD, List.getElem?_eq_getElem hi, Option.getD_some] at this
    exact ⟨hn, (this x hx hn).1⟩
end Go.Proofs.YtldnokeejinebaaDoor
