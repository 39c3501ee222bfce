/- Linear forms over the numbers 0 to m - 1: what is added, and when two are the same. Conditions: none. -/
import Derived.Test.YtfelhlffiiephaaDoorModel
set_option linter.unusedVariables false
set_option linter.unusedSimpArgs false
set_option linter.unnecessarySimpa false
namespace Go.Proofs.YtfelhlffiiephaaDoor

/-- What a form's variables come to. -/
def lin (ρ : Int → Int) : List (Int × Int) → Int
  | [] => 0
  | p :: l => p.2 * ρ p.1 + lin ρ l
theorem lin_app (ρ : Int → Int) : ∀ l r, lin ρ (l ++ r) = lin ρ l + lin ρ r
  | [], r => by rw [List.nil_append, lin, Int.zero_add]
  | p :: l, r => by rw [List.cons_append, lin, lin, lin_app ρ l r, Int.add_assoc]
/-- A form stands for a function. -/
structure Rep (m : Int) (V : (Int → Int) → Int) (x : Int) (l : List (Int × Int)) : Prop where
  low : 0 ≤ x ∧ x < m
  coef : ∀ p, p ∈ l → 0 ≤ p.2 ∧ p.2 < m
  dist : (l.map (·.1)).Nodup
  val : ∀ ρ, V ρ % m = (x + lin ρ l) % m
/-- One variable more. -/
def addOne (m k : Int) (l : List (Int × Int)) (y : Int × Int) : List (Int × Int) :=
  if y.1 ∈ l.map (·.1) then l.map (fun p => if p.1 = y.1 then (p.1, (p.2 + k * y.2) % m) else p) else l ++ [(y.1, k * y.2 % m)]
def addAll (m k : Int) (l r : List (Int × Int)) : List (Int × Int) := r.foldl (addOne m k) l
theorem emod_mul (m a b : Int) : (a % m * b) % m = (a * b) % m := by rw [Int.mul_emod, Int.emod_emod_of_dvd a (Int.dvd_refl m), ← Int.mul_emod]
theorem emod_low {m a : Int} (hm : 0 < m) : 0 ≤ a % m ∧ a % m < m := ⟨Int.emod_nonneg a (by omega), Int.emod_lt_of_pos a hm⟩
theorem add_mod {m a b c : Int} (h : a % m = b % m) : (a + c) % m = (b + c) % m := by rw [Int.add_emod, h, ← Int.add_emod]
theorem add_mod' {m a b c : Int} (h : a % m = b % m) : (c + a) % m = (c + b) % m := by rw [Int.add_emod, h, ← Int.add_emod]
theorem map_fst (m k : Int) (y : Int × Int) (l : List (Int × Int)) : (l.map (fun p => if p.1 = y.1 then (p.1, (p.2 + k * y.2) % m) else p)).map (·.1) = l.map (·.1) := by
  rw [List.map_map]
  refine List.map_congr_left fun p _ => ?_
  simp only [Function.comp]
  split <;> rfl
theorem lin_skip (m k : Int) (ρ : Int → Int) (y : Int × Int) : ∀ (l : List (Int × Int)), y.1 ∉ l.map (·.1) → l.map (fun p => if p.1 = y.1 then (p.1, (p.2 + k * y.2) % m) else p) = l
  | [], _ => rfl
  | p :: l, h => by
    rw [List.map_cons, List.mem_cons, not_or] at h
    rw [List.map_cons, lin_skip m k ρ y l h.2, if_neg (fun e => h.1 e.symm)]
theorem lin_map (m k : Int) (ρ : Int → Int) (y : Int × Int) : ∀ (l : List (Int × Int)), (l.map (·.1)).Nodup → y.1 ∈ l.map (·.1) → lin ρ (l.map (fun p => if p.1 = y.1 then (p.1, (p.2 + k * y.2) % m) else p)) % m = (lin ρ l + k * (y.2 * ρ y.1)) % m
  | [], _, h => by simp at h
  | p :: l, hd, h => by
    rw [List.map_cons, List.nodup_cons] at hd
    rw [List.map_cons, lin, lin]
    by_cases e : p.1 = y.1
    · rw [if_pos e, lin_skip m k ρ y l (by rw [← e]; exact hd.1)]
      have h1 : ((p.2 + k * y.2) % m * ρ p.1) % m = (p.2 * ρ p.1 + k * (y.2 * ρ y.1)) % m := by
        rw [emod_mul, Int.add_mul, e, Int.mul_assoc]
      show ((p.2 + k * y.2) % m * ρ p.1 + lin ρ l) % m = _
      rw [add_mod h1]
      congr 1; omega
    · rw [if_neg e]
      rw [List.map_cons, List.mem_cons] at h
      have ih := lin_map m k ρ y l hd.2 (h.resolve_left fun e' => e e'.symm)
      rw [add_mod' ih]
      congr 1; omega
theorem lin_addOne (m k : Int) (ρ : Int → Int) (y : Int × Int) (l : List (Int × Int)) (hd : (l.map (·.1)).Nodup) : lin ρ (addOne m k l y) % m = (lin ρ l + k * (y.2 * ρ y.1)) % m := by
  unfold addOne
  by_cases h : y.1 ∈ l.map (·.1)
  · rw [if_pos h]; exact lin_map m k ρ y l hd h
  · rw [if_neg h, lin_app, lin, lin, Int.add_zero]
    refine add_mod' ?_
    show (k * y.2 % m * ρ y.1) % m = _
    rw [emod_mul, Int.mul_assoc]
theorem nodup_addOne (m k : Int) (y : Int × Int) (l : List (Int × Int)) (hd : (l.map (·.1)).Nodup) : ((addOne m k l y).map (·.1)).Nodup := by
  unfold addOne
  by_cases h : y.1 ∈ l.map (·.1)
  · rw [if_pos h, map_fst]; exact hd
  · rw [if_neg h, List.map_append, List.nodup_append]
    refine ⟨hd, by simp, fun a ha b hb e => ?_⟩
    simp at hb
    subst hb
    subst e
    exact h ha
theorem coef_addOne {m k : Int} (hm : 0 < m) (y : Int × Int) (l : List (Int × Int)) (hc : ∀ p, p ∈ l → 0 ≤ p.2 ∧ p.2 < m) : ∀ p, p ∈ addOne m k l y → 0 ≤ p.2 ∧ p.2 < m := by
  unfold addOne
  intro p hp
  by_cases h : y.1 ∈ l.map (·.1)
  · rw [if_pos h] at hp
    obtain ⟨x, hx, rfl⟩ := List.mem_map.1 hp
    split
    · exact emod_low hm
    · exact hc x hx
  · rw [if_neg h] at hp
    rcases List.mem_append.1 hp with hp | hp
    · exact hc p hp
    · simp at hp
      subst hp
      exact emod_low hm
theorem len_addOne (m k : Int) (y : Int × Int) (l : List (Int × Int)) : (addOne m k l y).length ≤ l.length + 1 := by
  unfold addOne
  split <;> simp
theorem len_addAll (m k : Int) : ∀ (r l : List (Int × Int)), (addAll m k l r).length ≤ l.length + r.length
  | [], l => by simp [addAll]
  | y :: r, l => by
    have h1 := len_addAll m k r (addOne m k l y)
    have h2 := len_addOne m k y l
    show (addAll m k (addOne m k l y) r).length ≤ _
    rw [List.length_cons]
    omega
theorem addAll_ok {m k : Int} (hm : 0 < m) : ∀ (r l : List (Int × Int)), (l.map (·.1)).Nodup → (∀ p, p ∈ l → 0 ≤ p.2 ∧ p.2 < m) → ((addAll m k l r).map (·.1)).Nodup ∧ (∀ p, p ∈ addAll m k l r → 0 ≤ p.2 ∧ p.2 < m) ∧ ∀ ρ, lin ρ (addAll m k l r) % m = (lin ρ l + k * lin ρ r) % m
  | [], l, hd, hc => ⟨hd, hc, fun ρ => by simp [addAll, lin]⟩
  | y :: r, l, hd, hc => by
    obtain ⟨h1, h2, h3⟩ := addAll_ok (k := k) hm r (addOne m k l y) (nodup_addOne m k y l hd) (coef_addOne hm y l hc)
    refine ⟨h1, h2, fun ρ => ?_⟩
    show lin ρ (addAll m k (addOne m k l y) r) % m = _
    rw [h3 ρ, add_mod (lin_addOne m k ρ y l hd), lin, Int.mul_add]
    congr 1; omega
theorem Rep.plus {m k x y : Int} {V W : (Int → Int) → Int} {l r : List (Int × Int)} (hm : 0 < m) (h : Rep m V x l) (g : Rep m W y r) : Rep m (fun ρ => V ρ + k * W ρ) ((x + k * y) % m) (addAll m k l r) := by
  obtain ⟨h1, h2, h3⟩ := addAll_ok (k := k) hm r l h.dist h.coef
  refine ⟨emod_low hm, h2, h1, fun ρ => ?_⟩
  have e1 := h.val ρ
  have e2 := g.val ρ
  have e3 : (k * W ρ) % m = (k * (y + lin ρ r)) % m := by rw [Int.mul_emod, e2, ← Int.mul_emod]
  show (V ρ + k * W ρ) % m = _
  rw [add_mod e1, add_mod' e3, add_mod' (h3 ρ), add_mod (show (x + k * y) % m % m = (x + k * y) % m from Int.emod_emod_of_dvd _ (Int.dvd_refl m)), Int.mul_add]
  congr 1; omega
theorem Rep.same {m x : Int} {V W : (Int → Int) → Int} {l : List (Int × Int)} (h : Rep m V x l) (e : ∀ ρ, W ρ % m = V ρ % m) : Rep m W x l := ⟨h.low, h.coef, h.dist, fun ρ => (e ρ).trans (h.val ρ)⟩
theorem lin_zero : ∀ (l : List (Int × Int)), lin (fun _ => 0) l = 0
  | [] => rfl
  | p :: l => by rw [lin, lin_zero l, Int.mul_zero, Int.add_zero]
theorem lin_off (v : Int) : ∀ (l : List (Int × Int)), v ∉ l.map (·.1) → lin (fun u => if u = v then 1 else 0) l = 0
  | [], _ => rfl
  | p :: l, h => by
    rw [List.map_cons, List.mem_cons, not_or] at h
    rw [lin, lin_off v l h.2, if_neg (fun e => h.1 e.symm), Int.mul_zero, Int.add_zero]
theorem lin_unit : ∀ (l : List (Int × Int)), (l.map (·.1)).Nodup → ∀ p, p ∈ l → lin (fun u => if u = p.1 then 1 else 0) l = p.2
  | [], _, p, h => by cases h
  | x :: l, hd, p, h => by
    rw [List.map_cons, List.nodup_cons] at hd
    rw [lin]
    rcases List.mem_cons.1 h with rfl | h
    · rw [lin_off p.1 l hd.1, if_pos rfl, Int.mul_one, Int.add_zero]
    · have hne : x.1 ≠ p.1 := fun e => hd.1 (by rw [e]; exact List.mem_map_of_mem h)
      rw [lin_unit l hd.2 p h, if_neg hne, Int.mul_zero, Int.zero_add]
theorem lin_none (ρ : Int → Int) : ∀ (l : List (Int × Int)), (∀ p, p ∈ l → p.2 = 0) → lin ρ l = 0
  | [], _ => rfl
  | p :: l, h => by rw [lin, h p (by simp), lin_none ρ l fun q hq => h q (by simp [hq]), Int.zero_mul, Int.zero_add]
/-- A difference comes to nothing just if both come to the same. -/
theorem rep_alike {m x : Int} (hm : 0 < m) {A B : (Int → Int) → Int} {l : List (Int × Int)} (h : Rep m (fun ρ => A ρ + (m - 1) * B ρ) x l) : (x = 0 ∧ ∀ p, p ∈ l → p.2 = 0) ↔ ∀ ρ, A ρ % m = B ρ % m := by
  have key : ∀ a b : Int, (a + (m - 1) * b) % m = 0 ↔ a % m = b % m := fun a b => by
    have e : a + (m - 1) * b = (a - b) + m * b := by rw [Int.sub_mul, Int.one_mul]; omega
    rw [e, Int.add_mul_emod_self_left]
    constructor
    · intro h
      exact (Int.emod_emod_of_dvd a (Int.dvd_refl m)).symm.trans (by
        have : a % m = (a - b + b) % m := by congr 1; omega
        rw [this, Int.add_emod, h, Int.zero_add, Int.emod_emod_of_dvd _ (Int.dvd_refl m), Int.emod_emod_of_dvd _ (Int.dvd_refl m)])
    · intro h
      rw [Int.sub_emod, h, Int.sub_self, Int.zero_emod]
  constructor
  · rintro ⟨hx, hl⟩ ρ
    have := h.val ρ
    rw [hx, lin_none ρ l hl, Int.add_zero, Int.zero_emod] at this
    exact (key _ _).1 this
  · intro hab
    have h0 : ∀ ρ, (x + lin ρ l) % m = 0 := fun ρ => (h.val ρ).symm.trans ((key _ _).2 (hab ρ))
    have hx : x = 0 := by
      have := h0 fun _ => 0
      rw [lin_zero, Int.add_zero, Int.emod_eq_of_lt h.low.1 h.low.2] at this
      exact this
    refine ⟨hx, fun p hp => ?_⟩
    have := h0 fun u => if u = p.1 then 1 else 0
    rw [lin_unit l h.dist p hp, hx, Int.zero_add, Int.emod_eq_of_lt (h.coef p hp).1 (h.coef p hp).2] at this
    exact this
end Go.Proofs.YtfelhlffiiephaaDoor
