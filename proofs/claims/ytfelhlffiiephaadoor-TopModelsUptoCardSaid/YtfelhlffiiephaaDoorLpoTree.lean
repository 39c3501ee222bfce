/- Rows as trees: each term's row is one tree's, and its parts are the tree's. Conditions: none. -/
import Derived.Test.YtfelhlffiiephaaDoorLpoPure
import Derived.Test.YtfelhlffiiephaaDoorCtx
set_option linter.unusedVariables false
set_option linter.unusedSimpArgs false
set_option linter.unnecessarySimpa false
namespace Go.Proofs.YtfelhlffiiephaaDoor

theorem flats_app : ∀ (ts bs : List Tm), Tm.flats (ts ++ bs) = Tm.flats ts ++ Tm.flats bs
  | [], bs => rfl
  | a :: ts, bs => by rw [List.cons_append, Tm.flats, Tm.flats, flats_app ts bs, List.append_assoc]
theorem sizes_app : ∀ (ts bs : List Tm), Tm.sizes (ts ++ bs) = Tm.sizes ts + Tm.sizes bs
  | [], bs => by rw [List.nil_append, Tm.sizes]; omega
  | a :: ts, bs => by rw [List.cons_append, Tm.sizes, Tm.sizes, sizes_app ts bs]; omega
theorem fits_app {ar : Int → Nat} : ∀ {ts bs : List Tm}, Tm.allFit ar (ts ++ bs) ↔ Tm.allFit ar ts ∧ Tm.allFit ar bs
  | [], bs => by rw [List.nil_append, Tm.allFit]; simp
  | a :: ts, bs => by rw [List.cons_append, Tm.allFit, Tm.allFit, fits_app ]; exact ⟨fun ⟨h1, h2, h3⟩ => ⟨⟨h1, h2⟩, h3⟩, fun ⟨⟨h1, h2⟩, h3⟩ => ⟨h1, h2, h3⟩⟩
theorem allFit_of {ar : Int → Nat} : ∀ {ts : List Tm}, (∀ a, a ∈ ts → a.fits ar) → Tm.allFit ar ts
  | [], _ => by rw [Tm.allFit]; trivial
  | a :: ts, h => by rw [Tm.allFit]; exact ⟨h a (by simp), allFit_of fun b hb => h b (by simp [hb])⟩
theorem flats_map : ∀ (ts : List Tm), Tm.flats ts = ts.flatMap Tm.flat
  | [] => rfl
  | a :: ts => by rw [Tm.flats, flats_map ts]; rfl
/-- A scan's row is a row of trees. -/
theorem trees_of (l : List Sy) : ∀ (t : List Int) (k n : Nat), scan l k t = .ok n → ∃ ts : List Tm, ts.length = k ∧ Tm.flats ts = t.take n ∧ Tm.allFit (arOf l) ts ∧ ∀ c, c ∈ t.take n → ¬ codeBad l c
  | t, 0, n, h => by
    rw [scan] at h
    injection h with h
    subst h
    exact ⟨[], rfl, by rw [Tm.flats]; rfl, by rw [Tm.allFit]; trivial, fun c hc => by simp at hc⟩
  | [], k + 1, n, h => by unfold scan at h; cases h
  | c :: t, k + 1, n, h => by
    unfold scan at h
    split at h
    · cases h
    · rename_i hb
      cases hs : scan l (k + arOf l c) t with
      | error e => rw [hs] at h; cases h
      | ok m =>
        rw [hs] at h
        have hm : m + 1 = n := by simpa using h
        subst hm
        obtain ⟨ts, h1, h2, h3, h4⟩ := trees_of l t _ m hs
        have hcode : ∀ d, d ∈ (c :: t).take (m + 1) → ¬ codeBad l d := fun d hd => by
          rw [List.take_succ_cons] at hd
          rcases List.mem_cons.1 hd with rfl | hd
          · exact hb
          · exact h4 d hd
        by_cases hn : c < 0
        · have ha : arOf l c = 0 := by unfold arOf; rw [if_pos hn]
          rw [ha] at h1
          exact ⟨.var c :: ts, by simp [h1], by rw [Tm.flats, Tm.flat, h2, List.take_succ_cons]; rfl, by rw [Tm.allFit, Tm.fits]; exact ⟨hn, h3⟩, hcode⟩
        · have hsp := List.take_append_drop (arOf l c) ts
          have hf := h3
          rw [← hsp, fits_app] at hf
          refine ⟨.fn c (ts.take (arOf l c)) :: ts.drop (arOf l c), by simp; omega, ?_, ?_, hcode⟩
          · rw [Tm.flats, Tm.flat, List.cons_append, ← flats_app, hsp, h2, List.take_succ_cons]
          · rw [Tm.allFit, Tm.fits]
            exact ⟨⟨by omega, by simp; omega, hf.1⟩, hf.2⟩
/-- A row of trees is scanned to its end. -/
theorem scan_trees (l : List Sy) : ∀ (m : Nat) (ts : List Tm), Tm.sizes ts ≤ m → Tm.allFit (arOf l) ts → (∀ c, c ∈ Tm.flats ts → ¬ codeBad l c) → ∀ (k : Nat) (s : List Int), scan l (ts.length + k) (Tm.flats ts ++ s) = match scan l k s with
    | .ok r => .ok (r + (Tm.flats ts).length)
    | .error e => .error e
  | m, [], _, _, _, k, s => by
    rw [Tm.flats, List.nil_append, List.length_nil, Nat.zero_add]
    cases scan l k s <;> rfl
  | 0, a :: ts, hm, _, _, k, s => by
    rw [Tm.sizes] at hm
    cases a <;> rw [Tm.size] at hm <;> omega
  | m + 1, .var v :: ts, hm, hf, hc, k, s => by
    rw [Tm.allFit, Tm.fits] at hf
    rw [Tm.sizes, Tm.size] at hm
    rw [Tm.flats, Tm.flat] at hc ⊢
    have hb : ¬ codeBad l v := hc v (by simp)
    have ha : arOf l v = 0 := by unfold arOf; rw [if_pos hf.1]
    have ih := scan_trees l m ts (by omega) hf.2 (fun c h => hc c (by simp [h])) k s
    rw [List.length_cons, show ts.length + 1 + k = (ts.length + k) + 1 by omega, List.append_assoc, List.singleton_append, scan, if_neg hb, ha, Nat.add_zero, ih]
    cases scan l k s with
    | error e => rfl
    | ok r => simp; omega
  | m + 1, .fn c xs :: ts, hm, hf, hc, k, s => by
    rw [Tm.allFit, Tm.fits] at hf
    rw [Tm.sizes, Tm.size] at hm
    rw [Tm.flats, Tm.flat] at hc ⊢
    have hb : ¬ codeBad l c := hc c (by simp)
    have ih := scan_trees l m (xs ++ ts) (by rw [sizes_app]; omega) (fits_app.2 ⟨hf.1.2.2, hf.2⟩) (fun d h => hc d (by rw [flats_app] at h; simp at h ⊢; exact .inr h)) k s
    rw [List.length_append, flats_app] at ih
    rw [List.length_cons, show ts.length + 1 + k = (ts.length + k) + 1 by omega, List.append_assoc, List.cons_append, scan, if_neg hb, ← hf.1.2.1]
    rw [show ts.length + k + xs.length = xs.length + ts.length + k by omega]
    rw [← List.append_assoc, ih]
    cases scan l k s with
    | error e => rfl
    | ok r => simp; omega
/-- A row is one tree's at most. -/
theorem flats_inj {ar : Int → Nat} : ∀ (m : Nat) (ts bs : List Tm), Tm.sizes ts ≤ m → ts.length = bs.length → Tm.allFit ar ts → Tm.allFit ar bs → Tm.flats ts = Tm.flats bs → ts = bs
  | m, [], [], _, _, _, _, _ => rfl
  | m, [], b :: bs, _, hl, _, _, _ => by simp at hl
  | m, a :: ts, [], _, hl, _, _, _ => by simp at hl
  | 0, a :: ts, b :: bs, hm, _, _, _, _ => by
    rw [Tm.sizes] at hm
    cases a <;> rw [Tm.size] at hm <;> omega
  | m + 1, .var v :: ts, .var u :: bs, hm, hl, ha, hb, h => by
    rw [Tm.flats, Tm.flats, Tm.flat, Tm.flat] at h
    simp at h
    rw [Tm.sizes, Tm.size] at hm
    rw [Tm.allFit] at ha hb
    rw [h.1, flats_inj m ts bs (by omega) (by simpa using hl) ha.2 hb.2 h.2]
  | m + 1, .var v :: ts, .fn c ys :: bs, hm, hl, ha, hb, h => by
    rw [Tm.flats, Tm.flats, Tm.flat, Tm.flat] at h
    simp only [Tm.allFit, Tm.fits] at ha hb
    simp at h
    have := ha.1; have := hb.1.1; omega
  | m + 1, .fn c xs :: ts, .var v :: bs, hm, hl, ha, hb, h => by
    rw [Tm.flats, Tm.flats, Tm.flat, Tm.flat] at h
    simp only [Tm.allFit, Tm.fits] at ha hb
    simp at h
    have := ha.1.1; have := hb.1; omega
  | m + 1, .fn c xs :: ts, .fn d ys :: bs, hm, hl, ha, hb, h => by
    rw [Tm.flats, Tm.flats, Tm.flat, Tm.flat, List.cons_append, List.cons_append] at h
    rw [Tm.allFit, Tm.fits] at ha hb
    rw [Tm.sizes, Tm.size] at hm
    injection h with h1 h2
    subst h1
    rw [← flats_app, ← flats_app] at h2
    have hxy : xs.length = ys.length := by rw [ha.1.2.1, hb.1.2.1]
    have := flats_inj m (xs ++ ts) (ys ++ bs) (by rw [sizes_app]; omega) (by rw [List.length_append, List.length_append]; simp at hl; omega) (fits_app.2 ⟨ha.1.2.2, ha.2⟩) (fits_app.2 ⟨hb.1.2.2, hb.2⟩) h2
    obtain ⟨e1, e2⟩ := List.append_inj this hxy
    rw [e1, e2]
theorem flat_inj {ar : Int → Nat} {a b : Tm} (ha : a.fits ar) (hb : b.fits ar) (h : a.flat = b.flat) : a = b := by
  have := flats_inj (ar := ar) (Tm.sizes [a]) [a] [b] (Nat.le_refl _) rfl (by rw [Tm.allFit, Tm.allFit]; exact ⟨ha, trivial⟩) (by rw [Tm.allFit, Tm.allFit]; exact ⟨hb, trivial⟩) (by simp only [Tm.flats, h])
  simpa using this
theorem flat_pos (a : Tm) : 0 < a.flat.length := by cases a <;> rw [Tm.flat] <;> simp

open Classical in
/-- The tree of a row. -/
noncomputable def treeOf (l : List Sy) (u : List Int) : Tm := if h : ∃ a : Tm, a.flat = u ∧ a.fits (arOf l) then Classical.choose h else .var 0
theorem treeOf_is {l : List Sy} {u : List Int} {a : Tm} (h : a.flat = u) (hf : a.fits (arOf l)) : treeOf l u = a := by
  have hx : ∃ a : Tm, a.flat = u ∧ a.fits (arOf l) := ⟨a, h, hf⟩
  unfold treeOf
  rw [dif_pos hx]
  have := Classical.choose_spec hx
  exact flat_inj this.2 hf (this.1.trans h.symm)
/-- The tree at a place of a row. -/
noncomputable def treeAt (l : List Sy) (t : List Int) (i : Nat) : Tm := treeOf l (subAt l t i)
section
variable {l : List Sy} {t : List Int}
theorem tree_exists (h : termErr l t = 0) {i : Nat} (hi : i < t.length) : (treeAt l t i).flat = subAt l t i ∧ (treeAt l t i).fits (arOf l) ∧ ∀ c, c ∈ subAt l t i → ¬ codeBad l c := by
  obtain ⟨hE, _, _⟩ := place_end h hi
  obtain ⟨ts, h1, h2, h3, h4⟩ := trees_of l _ _ _ (scanAt_is hE).1
  obtain ⟨a, rfl⟩ : ∃ a, ts = [a] := by
    match ts, h1 with
    | [a], _ => exact ⟨a, rfl⟩
  rw [Tm.flats, Tm.flats, List.append_nil] at h2
  rw [Tm.allFit] at h3
  have e : treeAt l t i = a := treeOf_is h2 h3.1
  rw [e]
  exact ⟨h2, h3.1, h4⟩
/-- The tree at a place is its code with the trees at the places below. -/
theorem tree_step (h : termErr l t = 0) {i : Nat} (hi : i < t.length) :
    treeAt l t i = if t.getD i 0 < 0 then .var (t.getD i 0) else .fn (t.getD i 0) ((kidsAt l t i).map fun k => treeAt l t k.toNat) := by
  obtain ⟨hE, hE1, hE2⟩ := place_end h hi
  obtain ⟨_, hb, hN⟩ := scan_more (k := 0) hE
  rw [Nat.zero_add] at hN
  by_cases hn : t.getD i 0 < 0
  · rw [if_pos hn]
    refine treeOf_is ?_ (by rw [Tm.fits]; exact hn)
    have ha : arOf l (t.getD i 0) = 0 := by unfold arOf; rw [if_pos hn]
    rw [ha, scanAt_zero] at hN
    injection hN with hN
    unfold subAt
    rw [← hN, drop_cons t i hi, show i + 1 - i = 1 by omega, Tm.flat]
    rfl
  · rw [if_neg hn]
    obtain ⟨c1, c2⟩ := kids_cover _ (i + 1) _ (by omega) hN
    have hk : kidsAt l t i = kidsFrom l t (arOf l (t.getD i 0)) (i + 1) := by unfold kidsAt; rw [if_neg hn]
    rw [← hk] at c1 c2
    have hall : ∀ k ∈ kidsAt l t i, (treeAt l t k.toNat).flat = subAt l t k.toNat ∧ (treeAt l t k.toNat).fits (arOf l) := fun k hk => by
      obtain ⟨p, e', rfl, hp, _⟩ := c2 k hk
      rw [Int.toNat_natCast]
      obtain ⟨h1, h2, _⟩ := tree_exists h hp
      exact ⟨h1, h2⟩
    refine treeOf_is ?_ ?_
    · rw [Tm.flat, flats_map]
      unfold subAt
      rw [drop_cons t i hi, show endOf l t i - i = (endOf l t i - (i + 1)) + 1 by omega, List.take_succ_cons, ← c1]
      congr 1
      rw [List.flatMap_map]
      have : ∀ ks : List Int, (∀ k ∈ ks, (treeAt l t k.toNat).flat = subAt l t k.toNat) → ks.flatMap (fun k => (treeAt l t k.toNat).flat) = ks.flatMap fun k => subAt l t k.toNat := fun ks => by
        induction ks with
        | nil => intro _; rfl
        | cons k ks ih => intro hk; rw [List.flatMap_cons, List.flatMap_cons, hk k (by simp), ih fun j hj => hk j (by simp [hj])]
      exact this _ fun k hk => (hall k hk).1
    · rw [Tm.fits]
      refine ⟨by omega, ?_, allFit_of fun a ha => ?_⟩
      · rw [List.length_map, hk]
        have hl : ∀ n m, (kidsFrom l t n m).length = n := fun n => by
          induction n with
          | zero => intro m; rfl
          | succ n ih => intro m; rw [kidsFrom, List.length_cons, ih]
        exact hl _ _
      · obtain ⟨k, hk, rfl⟩ := List.mem_map.1 ha
        exact (hall k hk).2
theorem tree_root (h : termErr l t = 0) : (treeAt l t 0).flat = t ∧ (treeAt l t 0).fits (arOf l) := by
  obtain ⟨h1, h2, _⟩ := tree_exists h (term_pos h)
  refine ⟨?_, h2⟩
  rw [h1]
  unfold subAt
  rw [endOf_ok (root_ok h), List.drop_zero, Nat.sub_zero, List.take_length]
/-- A tree's row is a term. -/
theorem term_tree {a : Tm} (hs : sigErr l = 0) (hf : a.fits (arOf l)) (hc : ∀ c, c ∈ a.flat → ¬ codeBad l c) : termErr l a.flat = 0 := by
  refine term_mk hs ?_
  have h := scan_trees l (Tm.sizes [a]) [a] (Nat.le_refl _) (by rw [Tm.allFit, Tm.allFit]; exact ⟨hf, trivial⟩) (fun c hc' => hc c (by rw [Tm.flats, Tm.flats, List.append_nil] at hc'; exact hc')) 0 []
  rw [Tm.flats, Tm.flats, List.append_nil, List.append_nil, scan] at h
  rw [show [a].length + 0 = 1 from rfl] at h
  rw [h]; simp
theorem tree_flat {a : Tm} (hf : a.fits (arOf l)) (h : termErr l a.flat = 0) : treeAt l a.flat 0 = a := by
  obtain ⟨h1, h2⟩ := tree_root h
  exact flat_inj h2 hf h1
end
end Go.Proofs.YtfelhlffiiephaaDoor
