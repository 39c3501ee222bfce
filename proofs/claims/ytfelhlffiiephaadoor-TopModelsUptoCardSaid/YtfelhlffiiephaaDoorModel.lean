/- Algebras of linear functions: what a term is worth; steps by equations that hold keep it. Conditions: none. -/
import Derived.Test.YtfelhlffiiephaaDoorTreeBinds
set_option linter.unusedVariables false
set_option linter.unusedSimpArgs false
set_option linter.unnecessarySimpa false
namespace Go.Proofs.YtfelhlffiiephaaDoor

mutual
/-- What a tree is worth: its symbol's own number, and each argument's worth as often as its factor says. -/
def Tm.val (F : Int → Nat → Int) (ρ : Int → Int) : Tm → Int
  | .var v => ρ v
  | .fn c zs => F c 0 + Tm.vals F ρ c 1 zs
def Tm.vals (F : Int → Nat → Int) (ρ : Int → Int) (c : Int) : Nat → List Tm → Int
  | _, [] => 0
  | k, a :: zs => F c k * a.val F ρ + Tm.vals F ρ c (k + 1) zs
end
theorem vals_app (F : Int → Nat → Int) (ρ : Int → Int) (c : Int) : ∀ (p q : List Tm) (k : Nat), Tm.vals F ρ c k (p ++ q) = Tm.vals F ρ c k p + Tm.vals F ρ c (k + p.length) q
  | [], q, k => by rw [List.nil_append, Tm.vals, Int.zero_add]; rfl
  | a :: p, q, k => by
    rw [List.cons_append, Tm.vals, Tm.vals, vals_app F ρ c p q (k + 1), List.length_cons, show k + 1 + p.length = k + (p.length + 1) by omega, Int.add_assoc]
theorem val_put (F : Int → Nat → Int) (ρ : Int → Int) (σ : Int → Tm) : ∀ (n : Nat) (a : Tm), a.size ≤ n → (a.put σ).val F ρ = a.val F fun v => (σ v).val F ρ
  | n, .var v, _ => by rw [Tm.put, Tm.val]
  | 0, .fn c zs, hn => by rw [Tm.size] at hn; omega
  | n + 1, .fn c zs, hn => by
    rw [Tm.put, Tm.val, Tm.val, Tm.puts_map]
    congr 1
    have key : ∀ (xs : List Tm) (k : Nat), (∀ a, a ∈ xs → (a.put σ).val F ρ = a.val F fun v => (σ v).val F ρ) → Tm.vals F ρ c k (xs.map (Tm.put σ)) = Tm.vals F (fun v => (σ v).val F ρ) c k xs := fun xs => by
      induction xs with
      | nil => intro k _; rw [List.map_nil, Tm.vals, Tm.vals]
      | cons x xs ih => intro k hk; rw [List.map_cons, Tm.vals, Tm.vals, hk x (by simp), ih (k + 1) fun a ha => hk a (by simp [ha])]
    exact key zs 1 fun a ha => val_put F ρ σ n a (by have := Tm.size_lt (c := c) ha; omega)
/-- Two trees are worth the same, whatever their variables are worth. -/
def Worth (m : Int) (F : Int → Nat → Int) (a b : Tm) : Prop := ∀ ρ, a.val F ρ % m = b.val F ρ % m
theorem Worth.refl {m : Int} {F : Int → Nat → Int} (a : Tm) : Worth m F a a := fun _ => rfl
theorem Worth.symm {m : Int} {F : Int → Nat → Int} {a b : Tm} (h : Worth m F a b) : Worth m F b a := fun ρ => (h ρ).symm
theorem Worth.trans {m : Int} {F : Int → Nat → Int} {a b c : Tm} (h : Worth m F a b) (k : Worth m F b c) : Worth m F a c := fun ρ => (h ρ).trans (k ρ)
theorem Worth.put {m : Int} {F : Int → Nat → Int} {a b : Tm} (h : Worth m F a b) (σ : Int → Tm) : Worth m F (a.put σ) (b.put σ) := fun ρ => by
  rw [val_put F ρ σ _ a (Nat.le_refl _), val_put F ρ σ _ b (Nat.le_refl _)]
  exact h _
theorem Worth.round {m : Int} {F : Int → Nat → Int} (f : Int) (p q : List Tm) (y z : Tm) (h : Worth m F y z) : Worth m F (.fn f (p ++ y :: q)) (.fn f (p ++ z :: q)) := fun ρ => by
  rw [Tm.val, Tm.val, vals_app, vals_app, Tm.vals, Tm.vals]
  have hm : (F f (1 + p.length) * y.val F ρ) % m = (F f (1 + p.length) * z.val F ρ) % m := by rw [Int.mul_emod, h ρ, ← Int.mul_emod]
  have key : ∀ A B X Y : Int, X % m = Y % m → (A + (X + B)) % m = (A + (Y + B)) % m := fun A B X Y e => by
    rw [show A + (X + B) = X + (A + B) by omega, show A + (Y + B) = Y + (A + B) by omega, Int.add_emod, e, ← Int.add_emod]
  rw [show F f 0 + (Tm.vals F ρ f 1 p + (F f (1 + p.length) * y.val F ρ + Tm.vals F ρ f (1 + p.length + 1) q)) = (F f 0 + Tm.vals F ρ f 1 p) + (F f (1 + p.length) * y.val F ρ + Tm.vals F ρ f (1 + p.length + 1) q) by omega,
    show F f 0 + (Tm.vals F ρ f 1 p + (F f (1 + p.length) * z.val F ρ + Tm.vals F ρ f (1 + p.length + 1) q)) = (F f 0 + Tm.vals F ρ f 1 p) + (F f (1 + p.length) * z.val F ρ + Tm.vals F ρ f (1 + p.length + 1) q) by omega]
  exact key _ _ _ _ hm
/-- The same of rows. -/
def RowWorth (l : List Sy) (m : Int) (F : Int → Nat → Int) (s t : List Int) : Prop := Worth m F (treeAt l s 0) (treeAt l t 0)
theorem tree_of {l : List Sy} {s : List Int} {a : Tm} (h : termErr l s = 0) (h1 : a.flat = s) (h2 : a.fits (arOf l)) : treeAt l s 0 = a := by
  obtain ⟨b1, b2⟩ := tree_root h
  exact flat_inj b2 h2 (b1.trans h1.symm)
theorem apply_terms {l : List Sy} {b : List Bd} {s : List Int} (h : applyErr l b s = 0) : substErr l b = 0 ∧ termErr l s = 0 := by
  have h0 := h
  unfold applyErr at h0
  by_cases h1 : substErr l b = 0
  · rw [if_neg (by simp [h1])] at h0
    by_cases h2 : termErr l s = 0
    · exact ⟨h1, h2⟩
    · rw [if_pos h2] at h0; exact absurd h0 h2
  · rw [if_pos h1] at h0; exact absurd h0 h1
/-- What binds make of a term is a term, with the binds laid in. -/
theorem applied_tree {l : List Sy} {b : List Bd} {s : List Int} (h : applyErr l b s = 0) : termErr l (applied l b s) = 0 ∧ treeAt l (applied l b s) 0 = (treeAt l s 0).put (bindTree l b) := by
  obtain ⟨b0, s0⟩ := apply_terms h
  obtain ⟨_, u1, _⟩ := apply_parts h
  obtain ⟨x1, x2⟩ := tree_root s0
  obtain ⟨f1, f2⟩ := flat_bound b0 _ (treeAt l s 0) (Nat.le_refl _) x2 (by rw [x1]; exact codes_ok s0)
  rw [x1, ← u1] at f1
  have tu : termErr l (applied l b s) = 0 := by
    rw [← f1]
    refine term_tree (term_sig s0) f2 fun c hc => ?_
    rw [f1, u1] at hc
    exact become_codes b0 (codes_ok s0) c hc
  exact ⟨tu, tree_of tu f1 f2⟩
/-- A step by an equation that holds. -/
theorem step_worth {l : List Sy} {m : Int} {F : Int → Nat → Int} {b : List Bd} {s t c : List Int} (hst : RowWorth l m F s t) (hs : applyErr l b s = 0) (ht : applyErr l b t = 0) (hc : termErr l c = 0) {i : Nat} (hi : i < c.length) (hsub : applied l b s = subAt l c i) :
    termErr l (replAt l c i (applied l b t)) = 0 ∧ RowWorth l m F c (replAt l c i (applied l b t)) := by
  obtain ⟨su, st⟩ := applied_tree hs
  obtain ⟨tu, tt⟩ := applied_tree ht
  obtain ⟨x, G, e, xs, xf, fl, ff, fg⟩ := ctx_place (l := l) hc hi
  obtain ⟨t1, t2⟩ := tree_root tu
  obtain ⟨c1, c2⟩ := tree_root hc
  have hx : x = (treeAt l s 0).put (bindTree l b) := by
    rw [← st]
    exact (tree_of su (by rw [xs, hsub]) xf).symm
  have f1 := fl (treeAt l (applied l b t) 0)
  rw [t1] at f1
  have f2 := ff _ t2
  have hv : termErr l (replAt l c i (applied l b t)) = 0 := by
    rw [← f1]
    refine term_tree (term_sig hc) f2 fun d hd => ?_
    rw [f1] at hd
    unfold replAt at hd
    rcases List.mem_append.1 hd with hd | hd
    · rcases List.mem_append.1 hd with hd | hd
      · exact codes_ok hc d (List.mem_of_mem_take hd)
      · exact codes_ok tu d hd
    · exact codes_ok hc d (List.mem_of_mem_drop hd)
  refine ⟨hv, ?_⟩
  unfold RowWorth
  rw [tree_of hv f1 f2, ← e]
  refine fg (Worth m F) (fun f p q y z h => Worth.round f p q y z h) _ _ ?_
  rw [hx, tt]
  exact Worth.put hst _
end Go.Proofs.YtfelhlffiiephaaDoor
