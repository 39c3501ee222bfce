/- One step of the path order, as the definition's cases are tried in turn; and the same at places of two rows. Conditions: the precedence is an order. -/
import Derived.Test.YthpdfkhmhaobgaaDoorLpoTree
import Derived.Test.YthpdfkhmhaobgaaDoorPrecPure
set_option linter.unusedVariables false
set_option linter.unusedSimpArgs false
set_option linter.unnecessarySimpa false
namespace Go.Proofs.YthpdfkhmhaobgaaDoor

section
variable {ab : Int → Int → Prop} {f g : Int} {xs ys : List Tm}
theorem gt_above (hno : ∀ a, a ∈ xs → a ≠ .fn g ys ∧ ¬ Gt ab a (.fn g ys)) (h : ab f g) : Gt ab (.fn f xs) (.fn g ys) ↔ ∀ b, b ∈ ys → Gt ab (.fn f xs) b :=
  ⟨fun k b hb => k.part hb, fun k => .prec h k⟩
theorem gt_differ (hno : ∀ a, a ∈ xs → a ≠ .fn g ys ∧ ¬ Gt ab a (.fn g ys)) (h : ¬ ab f g) (hne : f ≠ g) : ¬ Gt ab (.fn f xs) (.fn g ys) := fun k => by
  cases k with
  | self hm => exact (hno _ hm).1 rfl
  | sub hm hg => exact (hno _ hm).2 hg
  | prec h' _ => exact h h'
  | lex _ _ => exact hne rfl
theorem gt_lex (tr : ∀ f g h, ab f g → ab g h → ab f h) (ir : ∀ f, ¬ ab f f) {p as' bs' : List Tm} {a b : Tm} (hno : ∀ c, c ∈ p ++ a :: as' → c ≠ .fn f (p ++ b :: bs') ∧ ¬ Gt ab c (.fn f (p ++ b :: bs'))) (hne : a ≠ b) :
    Gt ab (.fn f (p ++ a :: as')) (.fn f (p ++ b :: bs')) ↔ Gt ab a b ∧ ∀ x, x ∈ p ++ b :: bs' → Gt ab (.fn f (p ++ a :: as')) x := by
  refine ⟨fun k => ⟨?_, fun x hx => k.part hx⟩, fun ⟨h1, h2⟩ => .lex h1 h2⟩
  generalize hs : Tm.fn f (p ++ a :: as') = s at k hno
  generalize ht : Tm.fn f (p ++ b :: bs') = t at k hno
  cases k with
  | self hm => injection hs with h1 h2; rw [h2] at hno; exact absurd rfl (hno _ hm).1
  | sub hm hg => injection hs with h1 h2; rw [h2] at hno; exact absurd hg (hno _ hm).2
  | prec h' _ =>
    injection hs with h1 _
    injection ht with h2 _
    rw [← h1, ← h2] at h'
    exact absurd h' (ir _)
  | lex hg _ =>
    injection hs with _ h2
    injection ht with _ h3
    rcases split_two h2 with ⟨rfl, rfl, rfl⟩ | ⟨r, rfl⟩ | ⟨r, rfl⟩
    · have := List.append_cancel_left h3
      injection this with e1 _
      rw [e1]; exact hg
    · rw [List.append_assoc, List.cons_append] at h3
      have := List.append_cancel_left h3
      injection this with e1 _
      exact absurd e1.symm hne
    · rw [List.append_assoc, List.cons_append] at h2 h3
      have e2 := List.append_cancel_left h2
      have e3 := List.append_cancel_left h3
      injection e2 with e2 _
      injection e3 with e3 _
      rw [← e2, ← e3] at hg
      exact absurd hg (Gt.irrefl tr ir _)
end
/-- The precedence of pairs. -/
abbrev Ab (q : List (Int × Int)) : Int → Int → Prop := fun f g => TC q f g
theorem ab_trans (q : List (Int × Int)) : ∀ f g h, Ab q f g → Ab q g h → Ab q f h := fun f g h a b => a.trans b
theorem ab_irrefl {q : List (Int × Int)} (h : ¬ Cyclic q) : ∀ f, ¬ Ab q f f := fun f hf => h ⟨f, hf⟩
/-- One term's part is greater than another one's. -/
def G (l : List Sy) (q : List (Int × Int)) (s t : List Int) (i j : Nat) : Prop := Gt (Ab q) (treeAt l s i) (treeAt l t j)
section
variable {l : List Sy} {q : List (Int × Int)} {s t : List Int} {i j : Nat}
theorem tree_eq (hs : termErr l s = 0) (ht : termErr l t = 0) (hi : i < s.length) (hj : j < t.length) : treeAt l s i = treeAt l t j ↔ subAt l s i = subAt l t j := by
  obtain ⟨a1, a2, _⟩ := tree_exists hs hi
  obtain ⟨b1, b2, _⟩ := tree_exists ht hj
  exact ⟨fun h => by rw [← a1, ← b1, h], fun h => flat_inj a2 b2 (by rw [a1, b1, h])⟩
/-- The places right below a place. -/
def kidN (l : List Sy) (t : List Int) (i : Nat) : List Nat := (kidsAt l t i).map Int.toNat
theorem kidN_lt (ht : termErr l t = 0) (hj : j < t.length) : ∀ k, k ∈ kidN l t j → j < k ∧ k < t.length := by
  intro k hk
  unfold kidN at hk
  obtain ⟨x, hx, rfl⟩ := List.mem_map.1 hk
  unfold kidsAt at hx
  by_cases hn : t.getD j 0 < 0
  · rw [if_pos hn] at hx; cases hx
  rw [if_neg hn] at hx
  obtain ⟨hE, hE1, hE2⟩ := place_end ht hj
  obtain ⟨_, _, hN⟩ := scan_more (k := 0) hE
  rw [Nat.zero_add] at hN
  have hm : ∀ n m e, m ≤ t.length → scanAt l t n m = .ok e → ∀ k ∈ kidsFrom l t n m, ∃ p : Nat, k = (p : Int) ∧ m ≤ p ∧ p < t.length := by
    intro n
    induction n with
    | zero => intro m e _ _ k hk; simp [kidsFrom] at hk
    | succ n ih =>
      intro m e hm hs k hk
      obtain ⟨m', hs1, hs2, hmm⟩ := scan_next hs
      have hm' := (scanAt_ok hs1).2 hm
      rw [kidsFrom, endOf_ok hs1] at hk
      rcases List.mem_cons.1 hk with rfl | hk
      · exact ⟨m, rfl, Nat.le_refl _, by omega⟩
      · obtain ⟨p, rfl, h1, h2⟩ := ih m' e hm' hs2 k hk
        exact ⟨p, rfl, by omega, h2⟩
  obtain ⟨p, rfl, h1, h2⟩ := hm _ _ _ (by omega) hN x hx
  rw [Int.toNat_natCast]
  omega
theorem tree_fn (hs : termErr l s = 0) (hi : i < s.length) (h0 : ¬ s.getD i 0 < 0) : treeAt l s i = .fn (s.getD i 0) ((kidN l s i).map (treeAt l s)) := by
  rw [tree_step hs hi, if_neg h0]
  unfold kidN
  rw [List.map_map]; rfl
theorem tree_var (hs : termErr l s = 0) (hi : i < s.length) (h0 : s.getD i 0 < 0) : treeAt l s i = .var (s.getD i 0) := by
  rw [tree_step hs hi, if_pos h0]
theorem G_var (hs : termErr l s = 0) (hi : i < s.length) (h0 : s.getD i 0 < 0) : ¬ G l q s t i j := by
  unfold G
  rw [tree_var hs hi h0]
  intro h
  cases h
theorem G_kid (hs : termErr l s = 0) (ht : termErr l t = 0) (hi : i < s.length) (hj : j < t.length) (h0 : ¬ s.getD i 0 < 0) {k : Nat} (hk : k ∈ kidN l s i) (h : subAt l s k = subAt l t j ∨ G l q s t k j) : G l q s t i j := by
  unfold G at h ⊢
  rw [tree_fn hs hi h0]
  have hm := List.mem_map_of_mem (f := treeAt l s) hk
  rcases h with h | h
  · rw [← (tree_eq hs ht (kidN_lt hs hi k hk).2 hj).2 h]; exact .self hm
  · exact .sub hm h
/-- No argument is as great. -/
def NoKid (l : List Sy) (q : List (Int × Int)) (s t : List Int) (i j : Nat) : Prop := ∀ k, k ∈ kidN l s i → subAt l s k ≠ subAt l t j ∧ ¬ G l q s t k j
theorem no_trees (hs : termErr l s = 0) (ht : termErr l t = 0) (hi : i < s.length) (hj : j < t.length) (hno : NoKid l q s t i j) : ∀ a, a ∈ (kidN l s i).map (treeAt l s) → a ≠ treeAt l t j ∧ ¬ Gt (Ab q) a (treeAt l t j) := by
  intro a ha
  obtain ⟨k, hk, rfl⟩ := List.mem_map.1 ha
  obtain ⟨h1, h2⟩ := hno k hk
  exact ⟨fun e => h1 ((tree_eq hs ht (kidN_lt hs hi k hk).2 hj).1 e), h2⟩
theorem G_above (hs : termErr l s = 0) (ht : termErr l t = 0) (hi : i < s.length) (hj : j < t.length) (h0 : ¬ s.getD i 0 < 0) (h1 : ¬ t.getD j 0 < 0) (hno : NoKid l q s t i j) (h : TC q (s.getD i 0) (t.getD j 0)) :
    G l q s t i j ↔ ∀ k, k ∈ kidN l t j → G l q s t i k := by
  have hx := no_trees hs ht hi hj hno
  unfold G
  rw [tree_fn hs hi h0, tree_fn ht hj h1]
  rw [tree_fn ht hj h1] at hx
  rw [gt_above hx h]
  exact ⟨fun k b hb => k _ (List.mem_map_of_mem hb), fun k b hb => by obtain ⟨c, hc, rfl⟩ := List.mem_map.1 hb; exact k c hc⟩
theorem G_differ (hs : termErr l s = 0) (ht : termErr l t = 0) (hi : i < s.length) (hj : j < t.length) (h0 : ¬ s.getD i 0 < 0) (h1 : ¬ t.getD j 0 < 0) (hno : NoKid l q s t i j) (h : ¬ TC q (s.getD i 0) (t.getD j 0)) (hne : s.getD i 0 ≠ t.getD j 0) : ¬ G l q s t i j := by
  have hx := no_trees hs ht hi hj hno
  unfold G
  rw [tree_fn hs hi h0, tree_fn ht hj h1]
  rw [tree_fn ht hj h1] at hx
  exact gt_differ hx h hne
theorem G_lex (hc : ¬ Cyclic q) (hs : termErr l s = 0) (ht : termErr l t = 0) (hi : i < s.length) (hj : j < t.length) (h0 : ¬ s.getD i 0 < 0) (h1 : ¬ t.getD j 0 < 0) (hno : NoKid l q s t i j) (he : s.getD i 0 = t.getD j 0) {k : Nat} (hk : k < (kidN l s i).length) (hk2 : k < (kidN l t j).length)
    (hpre : ∀ m, m < k → subAt l s ((kidN l s i).getD m 0) = subAt l t ((kidN l t j).getD m 0)) (hd : subAt l s ((kidN l s i).getD k 0) ≠ subAt l t ((kidN l t j).getD k 0)) :
    G l q s t i j ↔ G l q s t ((kidN l s i).getD k 0) ((kidN l t j).getD k 0) ∧ ∀ k, k ∈ kidN l t j → G l q s t i k := by
  have hx := no_trees hs ht hi hj hno
  have split : ∀ (L : List Nat) (F : Nat → Tm), k < L.length → L.map F = (L.take k).map F ++ F (L.getD k 0) :: (L.drop (k + 1)).map F := fun L F h => by
    have e : L = L.take k ++ L.getD k 0 :: L.drop (k + 1) := by
      have := List.take_append_drop k L
      rw [List.drop_eq_getElem_cons h] at this
      simpa [List.getD_eq_getElem?_getD, List.getElem?_eq_getElem h] using this.symm
    conv => lhs; rw [e]
    rw [List.map_append, List.map_cons]
  have hpp : ((kidN l s i).take k).map (treeAt l s) = ((kidN l t j).take k).map (treeAt l t) := by
    apply List.ext_getElem
    · simp; omega
    · intro m m1 m2
      have hm : m < k := by simp at m1; omega
      have := hpre m hm
      rw [List.getD_eq_getElem?_getD, List.getElem?_eq_getElem (show m < (kidN l s i).length by omega), List.getD_eq_getElem?_getD, List.getElem?_eq_getElem (show m < (kidN l t j).length by omega)] at this
      simp only [List.getElem_map, List.getElem_take]
      exact (tree_eq hs ht (kidN_lt hs hi _ (List.getElem_mem _)).2 (kidN_lt ht hj _ (List.getElem_mem _)).2).2 this
  have ka := kidN_lt hs hi _ (getD_mem (d := 0) hk rfl)
  have kb := kidN_lt ht hj _ (getD_mem (d := 0) hk2 rfl)
  have hne : treeAt l s ((kidN l s i).getD k 0) ≠ treeAt l t ((kidN l t j).getD k 0) := fun e => hd ((tree_eq hs ht ka.2 kb.2).1 e)
  have es := split (kidN l s i) (treeAt l s) hk
  have et := split (kidN l t j) (treeAt l t) hk2
  rw [hpp] at es
  have hts := tree_fn hs hi h0
  have htt := tree_fn ht hj h1
  rw [es] at hts
  rw [et, ← he] at htt
  rw [es, htt] at hx
  have := gt_lex (ab := Ab q) (f := s.getD i 0) (ab_trans q) (ab_irrefl hc) hx hne
  unfold G
  rw [hts, htt, this]
  refine and_congr Iff.rfl ⟨fun k b hb => k _ (by rw [← et]; exact List.mem_map_of_mem hb), fun k b hb => ?_⟩
  rw [← et] at hb
  obtain ⟨c, hc, rfl⟩ := List.mem_map.1 hb
  exact k c hc
theorem G_same (hc : ¬ Cyclic q) (hs : termErr l s = 0) (ht : termErr l t = 0) (hi : i < s.length) (hj : j < t.length) (h0 : ¬ s.getD i 0 < 0) (h1 : ¬ t.getD j 0 < 0) (he : s.getD i 0 = t.getD j 0) (hl : (kidN l s i).length = (kidN l t j).length)
    (hpre : ∀ m, m < (kidN l s i).length → subAt l s ((kidN l s i).getD m 0) = subAt l t ((kidN l t j).getD m 0)) : ¬ G l q s t i j := by
  have hpp : (kidN l s i).map (treeAt l s) = (kidN l t j).map (treeAt l t) := by
    apply List.ext_getElem
    · simp [hl]
    · intro m m1 m2
      have hm : m < (kidN l s i).length := by simpa using m1
      have := hpre m hm
      rw [List.getD_eq_getElem?_getD, List.getElem?_eq_getElem hm, List.getD_eq_getElem?_getD, List.getElem?_eq_getElem (show m < (kidN l t j).length by omega)] at this
      simp only [List.getElem_map]
      exact (tree_eq hs ht (kidN_lt hs hi _ (List.getElem_mem _)).2 (kidN_lt ht hj _ (List.getElem_mem _)).2).2 this
  unfold G
  rw [tree_fn hs hi h0, tree_fn ht hj h1, hpp, he]
  exact Gt.irrefl (ab_trans q) (ab_irrefl hc) _
/-- Two trees of one symbol have as many arguments. -/
theorem kidN_len (h0 : ¬ t.getD j 0 < 0) : (kidN l t j).length = arOf l (t.getD j 0) := by
  have hl : ∀ n m, (kidsFrom l t n m).length = n := fun n => by
    induction n with
    | zero => intro m; rfl
    | succ n ih => intro m; rw [kidsFrom, List.length_cons, ih]
  unfold kidN kidsAt
  rw [List.length_map, if_neg h0, hl]
/-- A variable below: it stands in the row. -/
theorem G_in (hs : termErr l s = 0) (ht : termErr l t = 0) : ∀ (n i : Nat), s.length - i ≤ n → i < s.length → ∀ j, j < t.length → t.getD j 0 < 0 → ¬ s.getD i 0 < 0 → (G l q s t i j ↔ t.getD j 0 ∈ subAt l s i)
  | 0, i, hn, hi, _, _, _, _ => by omega
  | n + 1, i, hn, hi, j, hj, hjn, h0 => by
    have hvt := tree_var ht hj hjn
    have hfl := (tree_exists hs hi).1
    have hfn := tree_fn hs hi h0
    have hsub : subAt l s i = s.getD i 0 :: (kidN l s i).flatMap (subAt l s) := by
      rw [← hfl, hfn, Tm.flat, flats_map, List.flatMap_map]
      congr 1
      have : ∀ ks : List Nat, (∀ k ∈ ks, k < s.length) → ks.flatMap (fun k => (treeAt l s k).flat) = ks.flatMap (subAt l s) := fun ks => by
        induction ks with
        | nil => intro _; rfl
        | cons k ks ih => intro hk; rw [List.flatMap_cons, List.flatMap_cons, (tree_exists hs (hk k (by simp))).1, ih fun j hj => hk j (by simp [hj])]
      exact this _ fun k hk => (kidN_lt hs hi k hk).2
    have hsj : subAt l t j = [t.getD j 0] := by rw [← (tree_exists ht hj).1, hvt, Tm.flat]
    constructor
    · intro h
      unfold G at h
      rw [hfn, hvt] at h
      rw [hsub]
      generalize hL : (kidN l s i).map (treeAt l s) = L at h
      cases h with
      | self hm =>
        rw [← hL] at hm
        obtain ⟨k, hk, he⟩ := List.mem_map.1 hm
        obtain ⟨hk1, hk2⟩ := kidN_lt hs hi k hk
        have : subAt l s k = [t.getD j 0] := by rw [← (tree_exists hs hk2).1, he, Tm.flat]
        exact List.mem_cons.2 (.inr (List.mem_flatMap.2 ⟨k, hk, by rw [this]; simp⟩))
      | sub hm hg =>
        rw [← hL] at hm
        obtain ⟨k, hk, rfl⟩ := List.mem_map.1 hm
        obtain ⟨hk1, hk2⟩ := kidN_lt hs hi k hk
        by_cases hkn : s.getD k 0 < 0
        · rw [tree_var hs hk2 hkn] at hg; cases hg
        · have := (G_in hs ht n k (by omega) hk2 j hj hjn hkn).1 (by unfold G; rw [hvt]; exact hg)
          exact List.mem_cons.2 (.inr (List.mem_flatMap.2 ⟨k, hk, this⟩))
    · intro h
      rw [hsub] at h
      rcases List.mem_cons.1 h with h | h
      · omega
      · obtain ⟨k, hk, hin⟩ := List.mem_flatMap.1 h
        obtain ⟨hk1, hk2⟩ := kidN_lt hs hi k hk
        refine G_kid hs ht hi hj h0 hk ?_
        by_cases hkn : s.getD k 0 < 0
        · left
          have : subAt l s k = [s.getD k 0] := by rw [← (tree_exists hs hk2).1, tree_var hs hk2 hkn, Tm.flat]
          rw [this] at hin ⊢
          rw [hsj, List.mem_singleton.1 hin]
        · exact .inr ((G_in hs ht n k (by omega) hk2 j hj hjn hkn).2 hin)
end
end Go.Proofs.YthpdfkhmhaobgaaDoor
