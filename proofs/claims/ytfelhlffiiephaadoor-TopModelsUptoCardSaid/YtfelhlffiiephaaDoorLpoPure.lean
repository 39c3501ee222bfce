/- The path order on trees: it is an order, each part is lesser, it is kept by binds and by what stands around, grows with the precedence, and tells any two trees without variables apart. Conditions: the precedence is an order. -/
set_option linter.unusedVariables false
set_option linter.unusedSimpArgs false
set_option linter.unnecessarySimpa false
namespace Go.Proofs.YtfelhlffiiephaaDoor

/-- A term as a tree: a variable's code, or a symbol's with its arguments. -/
inductive Tm where
  | var (v : Int)
  | fn (c : Int) (as : List Tm)
mutual
def Tm.size : Tm → Nat
  | .var _ => 1
  | .fn _ as => 1 + Tm.sizes as
def Tm.sizes : List Tm → Nat
  | [] => 0
  | a :: as => a.size + Tm.sizes as
end
mutual
def Tm.flat : Tm → List Int
  | .var v => [v]
  | .fn c as => c :: Tm.flats as
def Tm.flats : List Tm → List Int
  | [] => []
  | a :: as => a.flat ++ Tm.flats as
end
theorem Tm.size_mem {a : Tm} : ∀ {as : List Tm}, a ∈ as → a.size ≤ Tm.sizes as
  | [], h => by cases h
  | b :: as, h => by
    rw [Tm.sizes]
    rcases List.mem_cons.1 h with rfl | h
    · omega
    · have := Tm.size_mem h; omega
theorem Tm.size_lt {c : Int} {a : Tm} {as : List Tm} (h : a ∈ as) : a.size < (Tm.fn c as).size := by
  rw [Tm.size]; have := Tm.size_mem h; omega

/-- The path order over a precedence. -/
inductive Gt (ab : Int → Int → Prop) : Tm → Tm → Prop
  | self {f : Int} {as : List Tm} {a : Tm} (h : a ∈ as) : Gt ab (.fn f as) a
  | sub {f : Int} {as : List Tm} {a t : Tm} (h : a ∈ as) (g : Gt ab a t) : Gt ab (.fn f as) t
  | prec {f g : Int} {as bs : List Tm} (h : ab f g) (k : ∀ b, b ∈ bs → Gt ab (.fn f as) b) : Gt ab (.fn f as) (.fn g bs)
  | lex {f : Int} {pre as bs : List Tm} {a b : Tm} (h : Gt ab a b) (k : ∀ x, x ∈ pre ++ b :: bs → Gt ab (.fn f (pre ++ a :: as)) x) : Gt ab (.fn f (pre ++ a :: as)) (.fn f (pre ++ b :: bs))
section
variable {ab : Int → Int → Prop}
theorem Gt.part : ∀ {s : Tm} {g : Int} {bs : List Tm} {b : Tm}, Gt ab s (.fn g bs) → b ∈ bs → Gt ab s b := by
  intro s g bs b h hb
  generalize ht : Tm.fn g bs = t at h
  induction h with
  | self h => subst ht; exact .sub h (.self hb)
  | sub h _ ih => exact .sub h (ih ht)
  | prec h k _ => cases ht; exact k b hb
  | lex h k _ _ => cases ht; exact k b hb
theorem split_two {α : Type} : ∀ {p q : List α} {a b : α} {as bs : List α}, p ++ a :: as = q ++ b :: bs → (p = q ∧ a = b ∧ as = bs) ∨ (∃ r, q = p ++ a :: r) ∨ ∃ r, p = q ++ b :: r
  | [], [], a, b, as, bs, h => by simp at h; exact .inl ⟨rfl, h.1, h.2⟩
  | [], y :: q, a, b, as, bs, h => by simp at h; obtain ⟨rfl, rfl⟩ := h; exact .inr (.inl ⟨q, rfl⟩)
  | x :: p, [], a, b, as, bs, h => by simp at h; obtain ⟨rfl, rfl⟩ := h; exact .inr (.inr ⟨p, rfl⟩)
  | x :: p, y :: q, a, b, as, bs, h => by
    simp at h
    obtain ⟨rfl, h⟩ := h
    rcases split_two h with ⟨rfl, h2, h3⟩ | ⟨r, rfl⟩ | ⟨r, rfl⟩
    · exact .inl ⟨rfl, h2, h3⟩
    · exact .inr (.inl ⟨r, rfl⟩)
    · exact .inr (.inr ⟨r, rfl⟩)
theorem Gt.trans_by (tr : ∀ f g h, ab f g → ab g h → ab f h) : ∀ (n : Nat) {s t u : Tm}, s.size + t.size + u.size ≤ n → Gt ab s t → Gt ab t u → Gt ab s u
  | 0, s, t, u, hn, _, _ => by cases s <;> rw [Tm.size] at hn <;> omega
  | n + 1, s, t, u, hn, h1, h2 => by
    have ih := @Gt.trans_by tr n
    have all : ∀ (f : Int) (as : List Tm) (g : Int) (bs : List Tm), s = .fn f as → t = .fn g bs → (∀ b, b ∈ bs → Gt ab s b) → Gt ab s t →
        (ab f g ∨ (f = g ∧ ∃ p a b as' bs', as = p ++ a :: as' ∧ bs = p ++ b :: bs' ∧ Gt ab a b)) → Gt ab s u := by
      intro f as g bs hs ht hall h1 hc
      subst hs ht
      cases h2 with
      | self hb => exact hall _ hb
      | sub hb h3 => exact ih (by have := Tm.size_lt (c := g) hb; omega) (hall _ hb) h3
      | prec h3 k =>
        rename_i h cs
        have hcs : ∀ c, c ∈ cs → Gt ab (.fn f as) c := fun c hc' => ih (by have := Tm.size_lt (c := h) hc'; omega) h1 (k c hc')
        rcases hc with hc | ⟨rfl, _⟩
        · exact .prec (tr _ _ _ hc h3) hcs
        · exact .prec h3 hcs
      | lex h3 k =>
        rename_i p2 bs2 cs2 b2 c2 _
        have hcs : ∀ c, c ∈ p2 ++ c2 :: cs2 → Gt ab (.fn f as) c := fun c hc' => ih (by have := Tm.size_lt (c := g) hc'; omega) h1 (k c hc')
        rcases hc with hc | ⟨rfl, p, a, b, as', bs', rfl, hbs, hab⟩
        · exact .prec hc hcs
        · rcases split_two hbs with ⟨rfl, rfl, rfl⟩ | ⟨r, rfl⟩ | ⟨r, rfl⟩
          · have h5 := Tm.size_lt (c := f) (show a ∈ p2 ++ a :: as' by simp)
            have h6 := Tm.size_lt (c := f) (show c2 ∈ p2 ++ c2 :: cs2 by simp)
            have h7 := Tm.size_lt (c := f) (show b2 ∈ p2 ++ b2 :: bs2 by simp)
            exact .lex (ih (by omega) hab h3) hcs
          · have e1 : p2 ++ b2 :: r ++ a :: as' = p2 ++ b2 :: (r ++ a :: as') := by simp
            rw [e1] at hcs ⊢
            exact .lex h3 hcs
          · have e1 : p ++ b :: r ++ c2 :: cs2 = p ++ b :: (r ++ c2 :: cs2) := by simp
            rw [e1] at hcs ⊢
            exact .lex hab hcs
    cases h1 with
    | self h => exact .sub h h2
    | sub h h3 => rename_i f as a; exact .sub h (ih (by have := Tm.size_lt (c := f) h; omega) h3 h2)
    | prec h k => exact all _ _ _ _ rfl rfl k (.prec h k) (.inl h)
    | lex h k => exact all _ _ _ _ rfl rfl k (.lex h k) (.inr ⟨rfl, _, _, _, _, _, rfl, rfl, h⟩)
theorem Gt.trans (tr : ∀ f g h, ab f g → ab g h → ab f h) {s t u : Tm} (h : Gt ab s t) (k : Gt ab t u) : Gt ab s u := Gt.trans_by tr _ (Nat.le_refl _) h k
theorem Gt.irrefl_by (tr : ∀ f g h, ab f g → ab g h → ab f h) (ir : ∀ f, ¬ ab f f) : ∀ (n : Nat) {s t : Tm}, s.size ≤ n → s = t → ¬ Gt ab s t
  | 0, s, t, hn, _, _ => by cases s <;> rw [Tm.size] at hn <;> omega
  | n + 1, s, t, hn, he, h => by
    have ih := fun (s : Tm) (h1 : s.size ≤ n) (h2 : Gt ab s s) => Gt.irrefl_by tr ir n h1 rfl h2
    cases h with
    | self h =>
      rename_i f as
      have := Tm.size_lt (c := f) h
      rw [he] at this
      omega
    | sub h g =>
      rename_i f as a
      subst he
      have h2 := Tm.size_lt (c := f) h
      exact ih a (by omega) (g.trans tr (.self h))
    | prec h k => cases he; exact ir _ h
    | lex h k =>
      rename_i f p as bs a b
      injection he with _ he
      have he := List.append_cancel_left he
      injection he with e1 e2
      subst e1
      have h2 := Tm.size_lt (c := f) (show a ∈ p ++ a :: as by simp)
      exact ih a (by omega) h
theorem Gt.irrefl (tr : ∀ f g h, ab f g → ab g h → ab f h) (ir : ∀ f, ¬ ab f f) (s : Tm) : ¬ Gt ab s s := Gt.irrefl_by tr ir _ (Nat.le_refl _) rfl
theorem Gt.mono {ab' : Int → Int → Prop} (h : ∀ f g, ab f g → ab' f g) {s t : Tm} (k : Gt ab s t) : Gt ab' s t := by
  induction k with
  | self k => exact .self k
  | sub k _ ih => exact .sub k ih
  | prec k _ ih => exact .prec (h _ _ k) ih
  | lex _ _ ih1 ih2 => exact .lex ih1 ih2
/-- In one place. -/
theorem Gt.round {f : Int} {p q : List Tm} {s t : Tm} (h : Gt ab s t) : Gt ab (.fn f (p ++ s :: q)) (.fn f (p ++ t :: q)) :=
  .lex h fun x hx => by
    rcases List.mem_append.1 hx with hx | hx
    · exact .self (List.mem_append.2 (.inl hx))
    · rcases List.mem_cons.1 hx with rfl | hx
      · exact .sub (a := s) (by simp) h
      · exact .self (by simp [hx])
end
mutual
/-- What is laid in for variables. -/
def Tm.put (σ : Int → Tm) : Tm → Tm
  | .var v => σ v
  | .fn c as => .fn c (Tm.puts σ as)
def Tm.puts (σ : Int → Tm) : List Tm → List Tm
  | [] => []
  | a :: as => a.put σ :: Tm.puts σ as
end
theorem Tm.puts_map (σ : Int → Tm) : ∀ as, Tm.puts σ as = as.map (Tm.put σ)
  | [] => rfl
  | a :: as => by rw [Tm.puts, Tm.puts_map σ as]; rfl
theorem Gt.put {ab : Int → Int → Prop} (σ : Int → Tm) {s t : Tm} (h : Gt ab s t) : Gt ab (s.put σ) (t.put σ) := by
  induction h with
  | self h => rw [Tm.put, Tm.puts_map]; exact .self (List.mem_map_of_mem h)
  | sub h _ ih => rw [Tm.put, Tm.puts_map]; exact .sub (List.mem_map_of_mem h) ih
  | prec h _ ih =>
    rw [Tm.put, Tm.put]
    refine .prec h fun b hb => ?_
    rw [Tm.puts_map] at hb
    obtain ⟨c, hc, rfl⟩ := List.mem_map.1 hb
    have := ih c hc
    rwa [Tm.put] at this
  | lex _ _ ih1 ih2 =>
    rw [Tm.put, Tm.put, Tm.puts_map, Tm.puts_map, List.map_append, List.map_append, List.map_cons, List.map_cons]
    refine .lex ih1 fun x hx => ?_
    rw [← List.map_cons, ← List.map_append] at hx
    obtain ⟨c, hc, rfl⟩ := List.mem_map.1 hx
    have := ih2 c hc
    rwa [Tm.put, Tm.puts_map, List.map_append, List.map_cons] at this
mutual
/-- The symbols' arities, as given. -/
def Tm.fits (ar : Int → Nat) : Tm → Prop
  | .var v => v < 0
  | .fn c as => 0 ≤ c ∧ as.length = ar c ∧ Tm.allFit ar as
def Tm.allFit (ar : Int → Nat) : List Tm → Prop
  | [] => True
  | a :: as => a.fits ar ∧ Tm.allFit ar as
end
mutual
/-- No variables. -/
def Tm.ground : Tm → Prop
  | .var _ => False
  | .fn _ as => Tm.grounds as
def Tm.grounds : List Tm → Prop
  | [] => True
  | a :: as => a.ground ∧ Tm.grounds as
end
theorem Tm.fit_mem {ar : Int → Nat} {a : Tm} : ∀ {as : List Tm}, Tm.allFit ar as → a ∈ as → a.fits ar
  | b :: as, h, hm => by
    rw [Tm.allFit] at h
    rcases List.mem_cons.1 hm with rfl | hm
    · exact h.1
    · exact Tm.fit_mem h.2 hm
theorem Tm.ground_mem {a : Tm} : ∀ {as : List Tm}, Tm.grounds as → a ∈ as → a.ground
  | b :: as, h, hm => by
    rw [Tm.grounds] at h
    rcases List.mem_cons.1 hm with rfl | hm
    · exact h.1
    · exact Tm.ground_mem h.2 hm
theorem lists_differ {α : Type} : ∀ {as bs : List α}, as.length = bs.length → as ≠ bs → ∃ p a b as' bs', as = p ++ a :: as' ∧ bs = p ++ b :: bs' ∧ a ≠ b
  | [], [], _, h => absurd rfl h
  | [], _ :: _, h, _ => by simp at h
  | _ :: _, [], h, _ => by simp at h
  | a :: as, b :: bs, hl, h => by
    by_cases e : a = b
    · subst e
      obtain ⟨p, x, y, as', bs', rfl, rfl, hne⟩ := lists_differ (as := as) (bs := bs) (by simpa using hl) (fun e => h (by rw [e]))
      exact ⟨a :: p, x, y, as', bs', rfl, rfl, hne⟩
    · exact ⟨[], a, b, as, bs, rfl, rfl, e⟩
/-- Any two trees without variables are told apart. -/
theorem Gt.total_by {ab : Int → Int → Prop} {ar : Int → Nat} (tot : ∀ f g, f ≠ g → ab f g ∨ ab g f) : ∀ (n : Nat) {s t : Tm}, s.size + t.size ≤ n → s.fits ar → t.fits ar → s.ground → t.ground → s ≠ t → Gt ab s t ∨ Gt ab t s
  | 0, s, t, hn, _, _, _, _, _ => by cases s <;> rw [Tm.size] at hn <;> omega
  | n + 1, .var v, t, hn, _, _, hg, _, _ => by rw [Tm.ground] at hg; exact hg.elim
  | n + 1, .fn f as, .var v, hn, _, _, _, hg, _ => by rw [Tm.ground] at hg; exact hg.elim
  | n + 1, .fn f as, .fn g bs, hn, fs, ft, gs, gt, hne => by
    have ih := @Gt.total_by ab ar tot n
    rw [Tm.fits] at fs ft
    rw [Tm.ground] at gs gt
    have left : (∀ b, b ∈ bs → Gt ab (.fn f as) b) ∨ Gt ab (.fn g bs) (.fn f as) := by
      apply Classical.byContradiction
      intro hno
      have h1 := not_or.1 hno
      obtain ⟨b, hb⟩ := Classical.not_forall.1 h1.1
      obtain ⟨hb, hbn⟩ := Classical.not_imp.1 hb
      by_cases e : Tm.fn f as = b
      · exact h1.2 (by rw [e]; exact .self hb)
      · rcases ih (s := .fn f as) (t := b) (by have := Tm.size_lt (c := g) hb; omega) (by rw [Tm.fits]; exact fs) (Tm.fit_mem ft.2.2 hb) (by rw [Tm.ground]; exact gs) (Tm.ground_mem gt hb) e with h | h
        · exact hbn h
        · exact h1.2 (.sub hb h)
    have right : (∀ a, a ∈ as → Gt ab (.fn g bs) a) ∨ Gt ab (.fn f as) (.fn g bs) := by
      apply Classical.byContradiction
      intro hno
      have h1 := not_or.1 hno
      obtain ⟨b, hb⟩ := Classical.not_forall.1 h1.1
      obtain ⟨hb, hbn⟩ := Classical.not_imp.1 hb
      by_cases e : Tm.fn g bs = b
      · exact h1.2 (by rw [e]; exact .self hb)
      · rcases ih (s := .fn g bs) (t := b) (by have := Tm.size_lt (c := f) hb; omega) (by rw [Tm.fits]; exact ft) (Tm.fit_mem fs.2.2 hb) (by rw [Tm.ground]; exact gt) (Tm.ground_mem gs hb) e with h | h
        · exact hbn h
        · exact h1.2 (.sub hb h)
    rcases left with left | left
    · rcases right with right | right
      · by_cases e : f = g
        · subst e
          obtain ⟨p, a, b, as', bs', rfl, rfl, hab⟩ := lists_differ (as := as) (bs := bs) (by rw [fs.2.1, ft.2.1]) (fun e => hne (by rw [e]))
          have ha : a ∈ p ++ a :: as' := by simp
          have hb : b ∈ p ++ b :: bs' := by simp
          rcases ih (s := a) (t := b) (by have := Tm.size_lt (c := f) ha; have := Tm.size_lt (c := f) hb; omega) (Tm.fit_mem fs.2.2 ha) (Tm.fit_mem ft.2.2 hb) (Tm.ground_mem gs ha) (Tm.ground_mem gt hb) hab with h | h
          · exact .inl (.lex h left)
          · exact .inr (.lex h right)
        · rcases tot f g e with h | h
          · exact .inl (.prec h left)
          · exact .inr (.prec h right)
      · exact .inl right
    · exact .inr left
theorem Gt.total {ab : Int → Int → Prop} {ar : Int → Nat} (tot : ∀ f g, f ≠ g → ab f g ∨ ab g f) {s t : Tm} (fs : s.fits ar) (ft : t.fits ar) (gs : s.ground) (gt : t.ground) (hne : s ≠ t) : Gt ab s t ∨ Gt ab t s :=
  Gt.total_by tot _ (Nat.le_refl _) fs ft gs gt hne
end Go.Proofs.YtfelhlffiiephaaDoor
