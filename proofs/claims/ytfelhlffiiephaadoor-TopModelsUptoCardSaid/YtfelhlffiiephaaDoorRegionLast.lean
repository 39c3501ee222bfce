/- A region whose order of evaluation is open and whose last operation, a store, waits for all others: operations that look but do not change may be taken first; what they read need hold up to the store alone. Conditions: the Booleans over the region's operations. -/
import Derived.OrdersHeld
import Derived.Test.YtfelhlffiiephaaDoorRegion
set_option linter.unusedVariables false
namespace Go.Proofs.YtfelhlffiiephaaDoor
section
variable {P : Program} {ops : Array Oper} {Q : Exit → Act → World → Prop} {md : Region.Mode} {S : World → Prop} {n : Nat}

/-- Whatever order is picked from here on, and S holds behind every operation but number n. -/
def wpHL (P : Program) (md : Region.Mode) (ops : Array Oper) (Q : Exit → Act → World → Prop) (S : World → Prop) (n : Nat) : Nat → Array Bool → Act → World → Prop
  | 0, listed, a, w => Region.ready md ops listed = [] ∧ Q .normal a w
  | fuel + 1, listed, a, w =>
    (Region.ready md ops listed = [] → Q .normal a w) ∧
    ∀ i ∈ Region.ready md ops listed, wpOp P ops Q i (fun a' w' => (i ≠ n → S w') ∧ wpHL P md ops Q S n fuel (listed.setIfInBounds i true) a' w') a w
theorem wpAny_of_HL : ∀ (fuel : Nat) (listed : Array Bool) (a : Act) (w : World), wpHL P md ops Q S n fuel listed a w → wpAny P md ops Q fuel listed a w
  | 0, _, _, _, h => h
  | fuel + 1, _, _, _, h => ⟨h.1, fun i hi => wpOp_mono (fun a' w' h' => wpAny_of_HL fuel _ a' w' h'.2) (h.2 i hi)⟩
theorem wpHL_first {i : Nat} {oi : Oper} {v : Value} (hi : ops[i]? = some oi) (hsel : ∀ (j : Nat) (o : Oper) cs b, ops[j]? = some o → o.op ≠ .select cs b)
    (hin : i ≠ n) (hwait : Region.waitsFor md ops n i = true)
    (hQ : ∀ c a w, Q (.panic c) (a.put oi.dst v) w → Q (.panic c) a w) :
    ∀ (fuel : Nat) (listed : Array Bool) (a : Act) (w : World),
      (∀ j oj, ops[j]? = some oj → j ≠ i → listed.getD j true = false → (∀ e ∈ oj.after, Region.binds md e = true → e.on ≠ i) → oi.apart ops oj = true) →
      i ∈ Region.ready md ops listed → YieldsIf P ops S oi v a → S w →
      wpHL P md ops Q S n fuel (listed.setIfInBounds i true) (a.put oi.dst v) w → wpHL P md ops Q S n (fuel + 1) listed a w := by
  intro fuel
  induction fuel with
  | zero =>
    intro listed a w _ hr hy hS H
    refine ⟨fun h => (by rw [h] at hr; cases hr), fun j hj => ?_⟩
    by_cases hji : j = i
    · subst hji; exact hy.wpOp hi hS ⟨fun _ => hS, H⟩
    · have := ready_mono hj hji
      rw [H.1] at this
      cases this
  | succ fuel ih =>
    intro listed a w hfree hr hy hS H
    refine ⟨fun h => (by rw [h] at hr; cases hr), fun j hj => ?_⟩
    by_cases hji : j = i
    · subst hji; exact hy.wpOp hi hS ⟨fun _ => hS, H⟩
    · have h1 := H.2 j (ready_mono hj hji)
      obtain ⟨hjun, oj, hoj, hall⟩ := mem_ready.1 hj
      have hnot : ∀ e ∈ oj.after, Region.binds md e = true → e.on ≠ i := fun e he hb heq => by
        have h1 := hall e he hb
        have h0 := (mem_ready.1 hr).1
        rw [heq] at h1
        rcases Nat.lt_or_ge i listed.size with h' | h'
        · simp [h'] at h0 h1; rw [h0] at h1; cases h1
        · simp [Array.getElem?_eq_none h'] at h1
      have hjn : j ≠ n := fun e => by
        obtain ⟨oj', hoj', e', he', hb', hon'⟩ := Region.waitsFor_spec hwait
        rw [← e, hoj] at hoj'
        cases hoj'
        exact hnot e' he' hb' hon'
      have h2 := wpOp_putIf hoj (hfree j oj hoj hji hjun hnot) (fun cs b => hsel i oi cs b hi) (fun cs b => hsel j oj cs b hoj) hQ hy h1
      have hfree' : ∀ k ok, ops[k]? = some ok → k ≠ i → (listed.setIfInBounds j true).getD k true = false →
          (∀ e ∈ ok.after, Region.binds md e = true → e.on ≠ i) → oi.apart ops ok = true := fun k ok hk hki hun hno => by
        refine hfree k ok hk hki ?_ hno
        by_cases hjk : j = k
        · subst hjk; exact hjun
        · rw [getD_set_ne true hjk] at hun; exact hun
      refine wpOp_mono (fun a' w' h3 => ⟨h3.2.1, ih (listed.setIfInBounds j true) a' w' hfree' (ready_mono hr (Ne.symm hji)) h3.1 (h3.2.1 hjn) ?_⟩) h2
      rw [Array.setIfInBounds_comm _ _ hji]
      exact h3.2.2
/-- The operations that may be taken first, one by one. -/
def hoistB (md : Region.Mode) (ops : Array Oper) (n : Nat) : List Nat → Array Bool → Bool
  | [], _ => true
  | i :: is, listed => (i != n) && Region.waitsFor md ops n i && Region.free md ops listed i && (Region.ready md ops listed).contains i && (ops[i]?).isSome && hoistB md ops n is (listed.setIfInBounds i true)
def listAfter : List Nat → Array Bool → Array Bool
  | [], listed => listed
  | i :: is, listed => listAfter is (listed.setIfInBounds i true)
/-- What they yield in every world that meets S. -/
def wpStill (P : Program) (ops : Array Oper) (S : World → Prop) (L : Act → Prop) : List Oper → Act → Prop
  | [], a => L a
  | o :: l, a => ∃ v, YieldsIf P ops S o v a ∧ wpStill P ops S L l (a.put o.dst v)
theorem still_nil {L : Act → Prop} {a : Act} (h : L a) : wpStill P ops S L [] a := h
theorem still_step {L : Act → Prop} {a : Act} {o : Oper} {l : List Oper} {v : Value} (hg : o.guard = none) (h : ∀ w, S w → (execOp a.eval o).run P w = .ok (.value v) w) (k : wpStill P ops S L l (a.put o.dst v)) : wpStill P ops S L (o :: l) a :=
  ⟨v, .inl ⟨by simp [Region.wanted, hg], h⟩, k⟩
theorem wpHL_hoist {L : Act → Prop} {g : Nat} (hsel : Region.noSelect ops = true) (hQ : ∀ c a d v w, Q (.panic c) (Act.put a d v) w → Q (.panic c) a w) :
    ∀ (is : List Nat) (listed : Array Bool) (a : Act) (w : World), hoistB md ops n is listed = true → S w → wpStill P ops S L (is.filterMap fun i => ops[i]?) a →
      (∀ a', L a' → wpHL P md ops Q S n g (listAfter is listed) a' w) → wpHL P md ops Q S n (is.length + g) listed a w
  | [], listed, a, w, _, _, h, hL => by rw [List.length_nil, Nat.zero_add]; exact hL a h
  | i :: is, listed, a, w, hB, hS, h, hL => by
    simp only [hoistB, Bool.and_eq_true, bne_iff_ne, ne_eq] at hB
    obtain ⟨⟨⟨⟨⟨h1, h2⟩, h3⟩, h4⟩, h5⟩, h6⟩ := hB
    obtain ⟨o, ho⟩ := Option.isSome_iff_exists.1 h5
    rw [List.filterMap_cons, ho] at h
    obtain ⟨v, hy, hk⟩ := h
    rw [List.length_cons, show is.length + 1 + g = (is.length + g) + 1 by omega]
    exact wpHL_first ho (Region.noSelect_spec hsel) h1 h2 (fun c a w => hQ c a o.dst v w) _ _ _ _ (Region.free_spec ho h3) (by simpa using h4) hy hS (wpHL_hoist hsel hQ is _ _ w h6 hS hk hL)
/-- One alone may come up. -/
theorem wpHL_one {i : Nat} {o : Oper} {fuel : Nat} {listed : Array Bool} {a : Act} {w : World} (hr : Region.ready md ops listed = [i]) (ho : ops[i]? = some o) (hg : o.guard = none)
    (h : if Region.wanted o (yielded ops a.tmps) = true then o.wp P a w (fun a' w' => (i ≠ n → S w') ∧ wpHL P md ops Q S n fuel (listed.setIfInBounds i true) a' w') Q else True) : wpHL P md ops Q S n (fuel + 1) listed a w := by
  rw [if_pos (by simp [Region.wanted, hg])] at h
  refine ⟨fun h0 => (by rw [hr] at h0; cases h0), fun j hj => ?_⟩
  rw [hr] at hj
  have hji : j = i := by simpa using hj
  subst hji
  unfold wpOp
  simp only [ho]
  rw [if_pos (by simp [Region.wanted, hg])]
  exact .inl h
/-- One alone may come up: it yields a value. -/
theorem wpHL_val {i : Nat} {o : Oper} {fuel : Nat} {listed : Array Bool} {a : Act} {w w' : World} {v : Value} (hr : Region.ready md ops listed = [i]) (ho : ops[i]? = some o) (hg : o.guard = none)
    (hrun : (execOp a.eval o).run P w = .ok (.value v) w') (hS : i ≠ n → S w') (h : wpHL P md ops Q S n fuel (listed.setIfInBounds i true) (a.put o.dst v) w') : wpHL P md ops Q S n (fuel + 1) listed a w :=
  wpHL_one hr ho hg (by rw [if_pos (by simp [Region.wanted, hg])]; unfold Oper.wp; rw [hrun]; exact ⟨hS, h⟩)
/-- One alone may come up: it stores. -/
theorem wpHL_skip {i : Nat} {o : Oper} {fuel : Nat} {listed : Array Bool} {a : Act} {w w' : World} (hr : Region.ready md ops listed = [i]) (ho : ops[i]? = some o) (hg : o.guard = none)
    (hrun : (execOp a.eval o).run P w = .ok .skip w') (hS : i ≠ n → S w') (h : wpHL P md ops Q S n fuel (listed.setIfInBounds i true) (a.put o.dst undef) w') : wpHL P md ops Q S n (fuel + 1) listed a w :=
  wpHL_one hr ho hg (by rw [if_pos (by simp [Region.wanted, hg])]; unfold Oper.wp; rw [hrun]; exact ⟨hS, h⟩)
/-- One alone may come up: a law tells of it. -/
theorem wpHL_law {i : Nat} {o : Oper} {fuel : Nat} {listed : Array Bool} {a : Act} {w : World} (hr : Region.ready md ops listed = [i]) (ho : ops[i]? = some o) (hg : o.guard = none)
    (h : ∀ K : Act → World → Prop, (∀ a' w', (i ≠ n → S w') → wpHL P md ops Q S n fuel (listed.setIfInBounds i true) a' w' → K a' w') → if Region.wanted o (yielded ops a.tmps) = true then o.wp P a w K Q else True) : wpHL P md ops Q S n (fuel + 1) listed a w :=
  wpHL_one hr ho hg (h _ fun a' w' h1 h2 => ⟨h1, h2⟩)
theorem wpHL_end {fuel : Nat} {listed : Array Bool} {a : Act} {w : World} (hr : Region.ready md ops listed = []) (h : Q .normal a w) : wpHL P md ops Q S n fuel listed a w := by
  cases fuel with
  | zero => exact ⟨hr, h⟩
  | succ fuel => exact ⟨fun _ => h, by rw [hr]; simp⟩
theorem wp_region_last {id : Nat} {a : Act} {w : World} (hm : P.follows .mixedOrders = true) (n : Nat) (is : List Nat) (g : Nat) (hsz : ops.size = is.length + g) (hsel : Region.noSelect ops = true) (hB : hoistB .any ops n is (Array.replicate ops.size false) = true)
    (hQ : ∀ c a d v w, Q (.panic c) (Act.put a d v) w → Q (.panic c) a w) (hS : S w.drew)
    (h : wpStill P ops S (fun a' => wpHL P .any ops Q S n g (listAfter is (Array.replicate ops.size false)) a' w.drew) (is.filterMap fun i => ops[i]?) a) : (Code.region id ops true).wp P Q a w := by
  refine wp_region_any hm (wpAny_of_HL (S := S) (n := n) _ _ _ _ ?_)
  have := wpHL_hoist (md := .any) (S := S) (n := n) (g := g) hsel hQ is (Array.replicate ops.size false) a w.drew hB hS h (fun _ h => h)
  rw [← hsz] at this
  exact this
end
end Go.Proofs.YtfelhlffiiephaaDoor
