/- The path order is an order in which each part is lesser: of rows. Conditions: the precedence is an order. -/
import Derived.Test.YthpdfkhmhaobgaaDoorLpoEx
set_option linter.unusedVariables false
set_option linter.unusedSimpArgs false
set_option linter.unnecessarySimpa false
namespace Go.Proofs.YthpdfkhmhaobgaaDoor

section
variable {l : List Sy} {q : List (Int × Int)} {s t u : List Int}
theorem lg_is : lg l q s t = true ↔ (termErr l s = 0 ∧ s.length ≤ 512) ∧ (termErr l t = 0 ∧ t.length ≤ 512) ∧ G l q s t 0 0 := by
  unfold lg
  by_cases h : termErr l s = 0 ∧ termErr l t = 0 ∧ s.length ≤ 512 ∧ t.length ≤ 512
  · rw [if_pos h, gB_iff]
    exact ⟨fun k => ⟨⟨h.1, h.2.2.1⟩, ⟨h.2.1, h.2.2.2⟩, k⟩, fun k => k.2.2⟩
  · rw [if_neg h]
    exact ⟨fun k => by simp at k, fun k => absurd ⟨k.1.1, k.2.1.1, k.1.2, k.2.1.2⟩ h⟩
theorem lg_trans (h1 : lg l q s t = true) (h2 : lg l q t u = true) : lg l q s u = true := by
  rw [lg_is] at h1 h2 ⊢
  exact ⟨h1.1, h2.2.1, Gt.trans (ab_trans q) h1.2.2 h2.2.2⟩
theorem lg_self (hc : ¬ Cyclic q) : lg l q s s = false := by
  cases h : lg l q s s with
  | false => rfl
  | true => exact absurd (lg_is.1 h).2.2 (Gt.irrefl (ab_trans q) (ab_irrefl hc) _)
theorem lg_back (hc : ¬ Cyclic q) (h : lg l q s t = true) : lg l q t s = false := by
  cases h2 : lg l q t s with
  | false => rfl
  | true => have := lg_trans h h2; rw [lg_self hc] at this; cases this
theorem kid_over {i : Nat} : ∀ (n m e : Nat), m ≤ t.length → scanAt l t n m = .ok e → m ≤ i → i < e → ∃ k : Nat, (k : Int) ∈ kidsFrom l t n m ∧ k ≤ i ∧ i < endOf l t k ∧ k < t.length
  | 0, m, e, _, h, h1, h2 => by rw [scanAt_zero] at h; injection h with h; omega
  | n + 1, m, e, hm, h, h1, h2 => by
    obtain ⟨m', hs1, hs2, hmm⟩ := scan_next h
    have hm' := (scanAt_ok hs1).2 hm
    have he := endOf_ok hs1
    by_cases hi : i < m'
    · exact ⟨m, by rw [kidsFrom]; exact List.mem_cons.2 (.inl rfl), h1, by rw [he]; exact hi, by omega⟩
    · obtain ⟨k, k1, k2, k3, k4⟩ := kid_over n m' e hm' hs2 (by omega) h2
      exact ⟨k, by rw [kidsFrom, he]; exact List.mem_cons.2 (.inr k1), k2, k3, k4⟩
theorem G_below (hs : termErr l s = 0) : ∀ (n j i : Nat), s.length - j ≤ n → j < i → i < endOf l s j → j < s.length → i < s.length → G l q s s j i
  | 0, j, i, h0, _, _, hj, _ => by omega
  | n + 1, j, i, h0, h1, h2, hj, hi => by
    obtain ⟨hE, hE1, hE2⟩ := place_end hs hj
    obtain ⟨_, _, hN⟩ := scan_more (k := 0) hE
    rw [Nat.zero_add] at hN
    have hneg : ¬ s.getD j 0 < 0 := fun hn => by
      rw [arOf, if_pos hn, scanAt_zero] at hN
      injection hN with hN
      omega
    obtain ⟨k, k1, k2, k3, k4⟩ := kid_over _ _ _ (by omega) hN (show j + 1 ≤ i by omega) h2
    have hk : k ∈ kidN l s j := by
      unfold kidN kidsAt
      rw [if_neg hneg]
      exact List.mem_map.2 ⟨_, k1, by simp⟩
    have hjk := (kidN_lt hs hj k hk).1
    refine G_kid hs hs hj hi hneg hk ?_
    by_cases he : k = i
    · exact .inl (by rw [he])
    · exact .inr (G_below hs n k i (by omega) (by omega) k3 k4 hi)
theorem lg_part (hs : termErr l s = 0) (h5 : s.length ≤ 512) {i : Nat} (h0 : 0 < i) (hi : i < s.length) : lg l q s (subAt l s i) = true := by
  have hE := (place_end hs hi).1
  have hr := sub_right hE
  have hsub : termErr l (subAt l s i) = 0 := by
    have h := term_sig hs
    unfold termErr
    rw [if_neg (by simp [h])]
    exact hr
  have hl : (subAt l s i).length ≤ s.length := by unfold subAt; simp; omega
  obtain ⟨a1, a2, _⟩ := tree_exists hs hi
  have ht : treeAt l (subAt l s i) 0 = treeAt l s i := root_tree hsub a1 a2
  rw [lg_is]
  refine ⟨⟨hs, h5⟩, ⟨hsub, by omega⟩, ?_⟩
  unfold G
  rw [ht]
  exact G_below hs _ 0 i (Nat.le_refl _) h0 (by rw [endOf_ok (root_ok hs)]; exact hi) (by omega) hi
end
end Go.Proofs.YthpdfkhmhaobgaaDoor
