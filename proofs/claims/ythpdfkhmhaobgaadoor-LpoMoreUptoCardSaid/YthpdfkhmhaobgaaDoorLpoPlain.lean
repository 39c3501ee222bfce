/- Plain laws for the statements of layer 11: a row of all symbols tells any two terms without variables apart; variables are nothing but names. Conditions: none. -/
import Derived.Test.YthpdfkhmhaobgaaDoorLpoParts
import Derived.Test.YthpdfkhmhaobgaaDoorShiftRef
import Derived.Test.YthpdfkhmhaobgaaDoorMet
set_option linter.unusedVariables false
set_option linter.unusedSimpArgs false
set_option linter.unnecessarySimpa false
namespace Go.Proofs.YthpdfkhmhaobgaaDoor

/-! ### A row of all symbols, each above those behind it -/
def chain (R : List Int) : List (Int × Int) := (List.range (R.length - 1)).map fun i => (R.getD i 0, R.getD (i + 1) 0)
structure Perm (n : Nat) (R : List Int) : Prop where
  len : R.length = n
  low : ∀ i, i < n → 0 ≤ R.getD i 0 ∧ R.getD i 0 < n
  inj : ∀ i j, i < n → j < n → R.getD i 0 = R.getD j 0 → i = j
  all : ∀ a : Int, 0 ≤ a → a < n → ∃ i, i < n ∧ R.getD i 0 = a
theorem chain_mem {R : List Int} {a b : Int} : (a, b) ∈ chain R ↔ ∃ i, i + 1 < R.length ∧ a = R.getD i 0 ∧ b = R.getD (i + 1) 0 := by
  unfold chain
  rw [List.mem_map]
  constructor
  · rintro ⟨i, hi, h⟩
    rw [List.mem_range] at hi
    rw [Prod.mk.injEq] at h
    exact ⟨i, by omega, h.1.symm, h.2.symm⟩
  · rintro ⟨i, hi, rfl, rfl⟩
    exact ⟨i, List.mem_range.2 (by omega), rfl⟩
theorem tc_chain {n : Nat} {R : List Int} (h : Perm n R) {a b : Int} (k : TC (chain R) a b) : ∃ i j, i < j ∧ j < n ∧ a = R.getD i 0 ∧ b = R.getD j 0 := by
  have hl := h.len
  induction k with
  | one k =>
    obtain ⟨i, hi, rfl, rfl⟩ := chain_mem.1 k
    exact ⟨i, i + 1, by omega, by omega, rfl, rfl⟩
  | step k _ ih =>
    obtain ⟨i, hi, rfl, rfl⟩ := chain_mem.1 k
    obtain ⟨i', j, h1, h2, h3, h4⟩ := ih
    have := h.inj (i + 1) i' (by omega) (by omega) h3
    exact ⟨i, j, by omega, h2, rfl, h4⟩
theorem chain_tc {R : List Int} : ∀ (d i : Nat), i + d + 1 < R.length → TC (chain R) (R.getD i 0) (R.getD (i + d + 1) 0)
  | 0, i, h => .one (chain_mem.2 ⟨i, h, rfl, rfl⟩)
  | d + 1, i, h => by
    have := chain_tc (R := R) d (i + 1) (by omega)
    rw [show i + 1 + d + 1 = i + (d + 1) + 1 by omega] at this
    exact .step (chain_mem.2 ⟨i, by omega, rfl, rfl⟩) this
theorem perr_chain {n : Nat} {R : List Int} (h : Perm n R) (hn : n ≤ 128) : perr n (chain R) = 0 := by
  refine perr_zero.2 ⟨by omega, fun p hp => ?_, fun ⟨f, hf⟩ => ?_⟩
  · obtain ⟨a, b⟩ := p
    obtain ⟨i, hi, rfl, rfl⟩ := chain_mem.1 hp
    have hl := h.len
    have h1 := h.low i (by omega)
    have h2 := h.low (i + 1) (by omega)
    unfold badPair
    simp only
    omega
  · obtain ⟨i, j, h1, h2, h3, h4⟩ := tc_chain h hf
    have := h.inj i j (by omega) h2 (h3.symm.trans h4)
    omega
theorem chain_total {n : Nat} {R : List Int} (h : Perm n R) {a b : Int} (ha : 0 ≤ a ∧ a < n) (hb : 0 ≤ b ∧ b < n) (hne : a ≠ b) : TC (chain R) a b ∨ TC (chain R) b a := by
  obtain ⟨i, hi, rfl⟩ := h.all a ha.1 ha.2
  obtain ⟨j, hj, rfl⟩ := h.all b hb.1 hb.2
  have hl := h.len
  rcases Nat.lt_trichotomy i j with hij | hij | hij
  · have := chain_tc (R := R) (j - i - 1) i (by omega)
    rw [show i + (j - i - 1) + 1 = j by omega] at this
    exact .inl this
  · exact absurd (by rw [hij]) hne
  · have := chain_tc (R := R) (i - j - 1) j (by omega)
    rw [show j + (i - j - 1) + 1 = i by omega] at this
    exact .inr this
theorem range_getD (n i : Nat) (hi : i < n) : ((List.range n).map fun i : Nat => (i : Int)).getD i 0 = i := by
  simp [List.getD_eq_getElem?_getD, List.getElem?_map, List.getElem?_range hi]
theorem Perm.range (n : Nat) : Perm n ((List.range n).map fun i : Nat => (i : Int)) := by
  refine ⟨by simp, fun i hi => ?_, fun i j hi hj h => ?_, fun a h0 h1 => ⟨a.toNat, by omega, ?_⟩⟩
  · rw [range_getD n i hi]; omega
  · rw [range_getD n i hi, range_getD n j hj] at h; omega
  · rw [range_getD n _ (by omega)]; omega
theorem set2_getD {R : List Int} {j k : Nat} (hj : j < R.length) (hk : k < R.length) (i : Nat) (hi : i < R.length) :
    ((R.set j (R.getD k 0)).set k (R.getD j 0)).getD i 0 = R.getD (if i = k then j else if i = j then k else i) 0 := by
  simp only [List.getD_eq_getElem?_getD]
  by_cases h1 : i = k
  · subst h1
    rw [if_pos rfl, List.getElem?_set_self (by simpa using hi)]
    simp
  · rw [if_neg h1, List.getElem?_set_ne (fun e => h1 e.symm)]
    by_cases h2 : i = j
    · subst h2
      rw [if_pos rfl, List.getElem?_set_self hi]
      simp
    · rw [if_neg h2, List.getElem?_set_ne (fun e => h2 e.symm)]
theorem Perm.swap {n : Nat} {R : List Int} (h : Perm n R) {j k : Nat} (hj : j < n) (hk : k < n) : Perm n ((R.set j (R.getD k 0)).set k (R.getD j 0)) := by
  have hl := h.len
  have g := fun i (hi : i < n) => set2_getD (R := R) (j := j) (k := k) (by omega) (by omega) i (by omega)
  have hm : ∀ i, i < n → (if i = k then j else if i = j then k else i) < n := fun i hi => by
    split
    · omega
    · split <;> omega
  refine ⟨by simpa using hl, fun i hi => ?_, fun a b ha hb e => ?_, fun a h0 h1 => ?_⟩
  · rw [g i hi]; exact h.low _ (hm i hi)
  · rw [g a ha, g b hb] at e
    have := h.inj _ _ (hm a ha) (hm b hb) e
    revert this
    split <;> split <;> (try split) <;> (try split) <;> omega
  · obtain ⟨i, hi, rfl⟩ := h.all a h0 h1
    refine ⟨if i = k then j else if i = j then k else i, hm i hi, ?_⟩
    rw [g _ (hm i hi)]
    congr 1
    split <;> split <;> (try split) <;> omega

/-! ### Trees whose codes are kept to -/
theorem flat_in {f : Int} {zs : List Tm} {a : Tm} {c : Int} (h : a ∈ zs) (hc : c ∈ a.flat) : c ∈ (Tm.fn f zs).flat := by
  rw [Tm.flat, flats_map]; exact List.mem_cons_of_mem _ (List.mem_flatMap.2 ⟨a, h, hc⟩)
theorem flat_head (f : Int) (zs : List Tm) : f ∈ (Tm.fn f zs).flat := by rw [Tm.flat]; exact List.mem_cons_self
theorem Gt.mono_in {ab ab' : Int → Int → Prop} {P : Int → Prop} (h : ∀ f g, P f → P g → ab f g → ab' f g) {s t : Tm} (k : Gt ab s t) : (∀ c, c ∈ s.flat → P c) → (∀ c, c ∈ t.flat → P c) → Gt ab' s t := by
  induction k with
  | self k => exact fun _ _ => .self k
  | sub k _ ih => exact fun hs ht => .sub k (ih (fun c hc => hs c (flat_in k hc)) ht)
  | prec k _ ih => exact fun hs ht => .prec (h _ _ (hs _ (flat_head _ _)) (ht _ (flat_head _ _)) k) fun b hb => ih b hb hs (fun c hc => ht c (flat_in hb hc))
  | lex _ _ ih1 ih2 => exact fun hs ht => .lex (ih1 (fun c hc => hs c (flat_in (by simp) hc)) (fun c hc => ht c (flat_in (by simp) hc))) fun x hx => ih2 x hx hs (fun c hc => ht c (flat_in hx hc))
theorem grounds_of : ∀ {zs : List Tm}, (∀ a, a ∈ zs → a.ground) → Tm.grounds zs
  | [], _ => by rw [Tm.grounds]; trivial
  | a :: zs, h => by rw [Tm.grounds]; exact ⟨h a (by simp), grounds_of fun b hb => h b (by simp [hb])⟩
theorem ground_of {ar : Int → Nat} : ∀ (n : Nat) (t : Tm), t.size ≤ n → t.fits ar → (∀ c, c ∈ t.flat → 0 ≤ c) → t.ground
  | n, .var v, _, hf, h => by
    rw [Tm.fits] at hf
    have := h v (by rw [Tm.flat]; simp)
    omega
  | 0, .fn f zs, hn, _, _ => by rw [Tm.size] at hn; omega
  | n + 1, .fn f zs, hn, hf, h => by
    rw [Tm.fits] at hf
    rw [Tm.ground]
    exact grounds_of fun a ha => ground_of n a (by have := Tm.size_lt (c := f) ha; omega) (Tm.fit_mem hf.2.2 ha) fun c hc => h c (flat_in ha hc)
section
variable {l : List Sy} {q : List (Int × Int)} {s t : List Int}
theorem codes_ok (h : termErr l s = 0) : ∀ c, c ∈ s → ¬ codeBad l c := by
  obtain ⟨_, _, h3⟩ := tree_exists h (term_pos h)
  have e : subAt l s 0 = s := by
    unfold subAt
    rw [endOf_ok (root_ok h), List.drop_zero, Nat.sub_zero, List.take_length]
  rw [e] at h3
  exact h3
theorem vars_none (h : varsOf s = []) : ∀ c, c ∈ s → 0 ≤ c := fun c hc => by
  by_cases h0 : 0 ≤ c
  · exact h0
  · have : -1 - c ∈ varsOf s := mem_vars.2 ⟨c, hc, by omega, rfl⟩
    rw [h] at this
    cases this
theorem lg_total (hs : termErr l s = 0) (ht : termErr l t = 0) (hs5 : s.length ≤ 512) (ht5 : t.length ≤ 512) {R : List Int} (hR : Perm l.length R) (vs : varsOf s = []) (vt : varsOf t = []) (hne : s ≠ t) :
    lg l (chain R) s t = true ∨ lg l (chain R) t s = true := by
  obtain ⟨a1, a2⟩ := tree_root hs
  obtain ⟨b1, b2⟩ := tree_root ht
  have cs := codes_ok hs
  have ct := codes_ok ht
  have gs := vars_none vs
  have gt := vars_none vt
  obtain ⟨a, ha⟩ : ∃ a, a = treeAt l s 0 := ⟨_, rfl⟩
  obtain ⟨b, hb⟩ : ∃ b, b = treeAt l t 0 := ⟨_, rfl⟩
  rw [← ha] at a1 a2
  rw [← hb] at b1 b2
  rw [lg_iff hs ht hs5 ht5 a1 a2 b1 b2, lg_iff ht hs ht5 hs5 b1 b2 a1 a2]
  have hab : a ≠ b := fun e => hne (by rw [← a1, ← b1, e])
  let P : Int → Prop := fun c => 0 ≤ c ∧ c < l.length
  have pa : ∀ c, c ∈ a.flat → P c := fun c hc => by
    rw [a1] at hc
    have h1 := gs c hc
    have h2 := cs c hc
    unfold codeBad at h2
    exact ⟨h1, by omega⟩
  have pb : ∀ c, c ∈ b.flat → P c := fun c hc => by
    rw [b1] at hc
    have h1 := gt c hc
    have h2 := ct c hc
    unfold codeBad at h2
    exact ⟨h1, by omega⟩
  have tot : ∀ f g : Int, f ≠ g → (TC (chain R) f g ∨ (¬ (P f ∧ P g) ∧ f < g)) ∨ (TC (chain R) g f ∨ (¬ (P g ∧ P f) ∧ g < f)) := fun f g hfg => by
    by_cases hp : P f ∧ P g
    · rcases chain_total hR hp.1 hp.2 hfg with h | h
      · exact .inl (.inl h)
      · exact .inr (.inl h)
    · have hp' : ¬ (P g ∧ P f) := fun h => hp ⟨h.2, h.1⟩
      rcases Int.lt_or_gt_of_ne hfg with h | h
      · exact .inl (.inr ⟨hp, h⟩)
      · exact .inr (.inr ⟨hp', h⟩)
  have down : ∀ f g, P f → P g → (TC (chain R) f g ∨ (¬ (P f ∧ P g) ∧ f < g)) → Ab (chain R) f g := fun f g hf hg h => h.resolve_right fun h => h.1 ⟨hf, hg⟩
  have ga := ground_of _ a (Nat.le_refl _) a2 fun c hc => (pa c hc).1
  have gb := ground_of _ b (Nat.le_refl _) b2 fun c hc => (pb c hc).1
  rcases Gt.total (ab := fun f g => TC (chain R) f g ∨ (¬ (P f ∧ P g) ∧ f < g)) tot a2 b2 ga gb hab with h | h
  · exact .inl (h.mono_in down pa pb)
  · exact .inr (h.mono_in down pb pa)

/-! ### Variables by other names -/
def move (d : Int) (c : Int) : Int := if c < 0 then c - d else c
def mover (d : Int) : Int → Tm := fun v => .var (v - d)
theorem puts_app (σ : Int → Tm) (zs : List Tm) : Tm.puts σ zs = zs.map (Tm.put σ) := Tm.puts_map σ zs
theorem flat_moved {ar : Int → Nat} (d : Int) : ∀ (n : Nat) (a : Tm), a.size ≤ n → a.fits ar → (a.put (mover d)).flat = a.flat.map (move d)
  | n, .var v, _, hf => by
    rw [Tm.fits] at hf
    rw [Tm.put, mover, Tm.flat, Tm.flat, List.map_cons, List.map_nil, move, if_pos hf]
  | 0, .fn f zs, hn, _ => by rw [Tm.size] at hn; omega
  | n + 1, .fn f zs, hn, hf => by
    rw [Tm.fits] at hf
    rw [Tm.put, Tm.flat, Tm.flat, Tm.puts_map, flats_map, flats_map, List.map_cons, move, if_neg (by omega), List.flatMap_map, List.map_flatMap]
    congr 1
    have ih : ∀ a ∈ zs, (a.put (mover d)).flat = a.flat.map (move d) := fun a ha => flat_moved d n a (by have := Tm.size_lt (c := f) ha; omega) (Tm.fit_mem hf.2.2 ha)
    have key : ∀ xs : List Tm, (∀ a ∈ xs, (a.put (mover d)).flat = a.flat.map (move d)) → xs.flatMap (fun a => (a.put (mover d)).flat) = xs.flatMap fun a => a.flat.map (move d) := fun xs => by
      induction xs with
      | nil => intro _; rfl
      | cons x xs ihx => intro hk; rw [List.flatMap_cons, List.flatMap_cons, hk x (by simp), ihx fun j hj => hk j (by simp [hj])]
    exact key zs ih
theorem fits_moved {ar : Int → Nat} (d : Int) : ∀ (n : Nat) (a : Tm), a.size ≤ n → a.fits ar → (∀ c, c ∈ a.flat → c < 0 → c - d < 0) → (a.put (mover d)).fits ar
  | n, .var v, _, hf, h => by
    rw [Tm.fits] at hf
    rw [Tm.put, mover, Tm.fits]
    exact h v (by rw [Tm.flat]; simp) hf
  | 0, .fn f zs, hn, _, _ => by rw [Tm.size] at hn; omega
  | n + 1, .fn f zs, hn, hf, h => by
    rw [Tm.fits] at hf
    rw [Tm.put, Tm.fits, Tm.puts_map]
    refine ⟨hf.1, by rw [List.length_map]; exact hf.2.1, allFit_of fun b hb => ?_⟩
    obtain ⟨a, ha, rfl⟩ := List.mem_map.1 hb
    exact fits_moved d n a (by have := Tm.size_lt (c := f) ha; omega) (Tm.fit_mem hf.2.2 ha) fun c hc => h c (flat_in ha hc)
theorem put_back (d : Int) : ∀ (n : Nat) (a : Tm), a.size ≤ n → (a.put (mover d)).put (mover (-d)) = a
  | n, .var v, _ => by rw [Tm.put, mover, Tm.put, mover]; congr 1; omega
  | 0, .fn f zs, hn => by rw [Tm.size] at hn; omega
  | n + 1, .fn f zs, hn => by
    rw [Tm.put, Tm.put, Tm.puts_map, Tm.puts_map, List.map_map]
    congr 1
    have key : ∀ xs : List Tm, (∀ a ∈ xs, (a.put (mover d)).put (mover (-d)) = a) → xs.map (Tm.put (mover (-d)) ∘ Tm.put (mover d)) = xs := fun xs => by
      induction xs with
      | nil => intro _; rfl
      | cons x xs ihx => intro hk; rw [List.map_cons, ihx fun j hj => hk j (by simp [hj])]; congr 1; exact hk x (by simp)
    exact key zs fun a ha => put_back d n a (by have := Tm.size_lt (c := f) ha; omega)
theorem gt_moved {ab : Int → Int → Prop} (d : Int) (a b : Tm) : Gt ab (a.put (mover d)) (b.put (mover d)) ↔ Gt ab a b := by
  refine ⟨fun h => ?_, fun h => h.put _⟩
  have := h.put (mover (-d))
  rwa [put_back d _ a (Nat.le_refl _), put_back d _ b (Nat.le_refl _)] at this
theorem shift_map {d : Int} : ∀ {t acc u : List Int}, shiftOn d acc t = some u → u = acc ++ t.map (move d) ∧ ∀ c, c ∈ t → c < 0 → -1048576 ≤ c - d ∧ c - d < 0
  | [], acc, u, h => by rw [shiftOn] at h; injection h with h; subst h; simp
  | c :: t, acc, u, h => by
    rw [shiftOn] at h
    cases hc : shiftOne d c with
    | none => rw [hc] at h; cases h
    | some x =>
      rw [hc] at h
      obtain ⟨h1, h2⟩ := shift_map h
      unfold shiftOne at hc
      have hx : x = move d c ∧ (c < 0 → -1048576 ≤ c - d ∧ c - d < 0) := by
        unfold move
        split at hc
        · injection hc with hc
          rw [if_neg (by omega)]
          exact ⟨hc.symm, fun _ => by omega⟩
        · split at hc
          · injection hc with hc
            rw [if_pos (by omega)]
            exact ⟨by omega, fun _ => by omega⟩
          · cases hc
      refine ⟨by rw [h1, List.append_assoc, List.singleton_append, hx.1]; rfl, fun y hy => ?_⟩
      rcases List.mem_cons.1 hy with rfl | hy
      · exact hx.2
      · exact h2 y hy
theorem term_moved {d : Int} {u : List Int} (hs : termErr l s = 0) (h : shiftOn d [] s = some u) : ∃ a : Tm, a.flat = s ∧ a.fits (arOf l) ∧ (a.put (mover d)).flat = u ∧ (a.put (mover d)).fits (arOf l) ∧ termErr l u = 0 ∧ u.length = s.length := by
  obtain ⟨h1, h2⟩ := shift_map h
  rw [List.nil_append] at h1
  obtain ⟨a1, a2⟩ := tree_root hs
  have f1 := flat_moved (ar := arOf l) d _ (treeAt l s 0) (Nat.le_refl _) a2
  have f2 := fits_moved (ar := arOf l) d _ (treeAt l s 0) (Nat.le_refl _) a2 (by rw [a1]; exact fun c hc h0 => (h2 c hc h0).2)
  rw [a1, ← h1] at f1
  refine ⟨_, a1, a2, f1, f2, ?_, by rw [h1, List.length_map]⟩
  rw [← f1]
  refine term_tree (term_sig hs) f2 fun c hc => ?_
  rw [f1, h1] at hc
  obtain ⟨x, hx, rfl⟩ := List.mem_map.1 hc
  have hb := codes_ok hs x hx
  unfold codeBad at hb ⊢
  unfold move
  split
  · rename_i h0
    have := h2 x hx h0
    omega
  · exact hb
theorem lg_moved {d : Int} {u v : List Int} (hs : termErr l s = 0) (ht : termErr l t = 0) (hs5 : s.length ≤ 512) (ht5 : t.length ≤ 512) (hu : shiftOn d [] s = some u) (hv : shiftOn d [] t = some v) : lg l q u v = lg l q s t := by
  obtain ⟨a, a1, a2, a3, a4, a5, a6⟩ := term_moved hs hu
  obtain ⟨b, b1, b2, b3, b4, b5, b6⟩ := term_moved ht hv
  rw [Bool.eq_iff_iff, lg_iff hs ht hs5 ht5 a1 a2 b1 b2, lg_iff a5 b5 (by omega) (by omega) a3 a4 b3 b4]
  exact gt_moved d a b
theorem lor_turned (hc : ¬ Cyclic q) : lor l q s t = -lor l q t s := by
  unfold lor
  cases h1 : lg l q s t with
  | true => rw [lg_back hc h1]; simp
  | false => cases h2 : lg l q t s <;> simp
theorem lg_lor (hc : ¬ Cyclic q) : lg l q s t = (lor l q s t == 1) := by
  unfold lor
  cases h1 : lg l q s t with
  | true => simp
  | false => cases h2 : lg l q t s <;> simp
end
end Go.Proofs.YthpdfkhmhaobgaaDoor
