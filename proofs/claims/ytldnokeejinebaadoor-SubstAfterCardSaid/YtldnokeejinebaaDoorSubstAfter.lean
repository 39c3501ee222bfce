/- The walk of SubstAfter: over every signature, for any two rows of binds and every row it answers true. Conditions: utf8's tables as laid. -/
import Derived.Test.YtldnokeejinebaaDoorMore
import Derived.Test.YtldnokeejinebaaDoorAfter
set_option linter.unusedVariables false
set_option linter.unusedSimpArgs false
namespace Go.Proofs.YtldnokeejinebaaDoor
open Go.RowKit Go.Lib

theorem other_ne' {w : World} {base n size : Nat} {e : TypeId} {xs : List Value} {x' y : Value} {x : Option Nat} (hy : ∀ b, y.ownBlock = some b → b < w.heap.size) (hys : y.ownBlock ≠ none) (hne : y.ownBlock ≠ x)
    (hat : x'.ownBlock = x ∨ ∃ g, x'.ownBlock = some g ∧ w.heap.size ≤ g) : y.ownBlock ≠ x'.ownBlock := fun e => by
  rcases hat with h | ⟨g, h, hg⟩
  · exact hne (e.trans h)
  · have := hy g (e.trans h); omega
/-- A row that is read lives on while another block is written. -/
theorem RowV.turned {w w' : World} {v : Value} {t : List Int} {row : Option Nat} (h : RowV w v t) (hg : w.grownBy w' row) (hne : 0 < t.length → v.ownBlock ≠ row) : RowV w' v t := by
  obtain ⟨A, c, rfl, h1, h2, h3, h4⟩ := h
  refine ⟨A, c, rfl, h1, h2, h3, h4.1, h4.2.1, fun h0 => ?_⟩
  obtain ⟨b, off, rfl, hc⟩ := h4.2.2 h0
  exact ⟨b, off, rfl, fun k hk => hg.cell (hc k hk) (fun e => hne h0 e)⟩
theorem RowV.block {w : World} {v : Value} {t : List Int} (h : RowV w v t) (h0 : 0 < t.length) : ∃ b, v.ownBlock = some b ∧ b < w.heap.size := by
  obtain ⟨A, c, rfl, _, _, _, h4⟩ := h
  obtain ⟨b, off, rfl, hc⟩ := h4.2.2 h0
  exact ⟨b, rfl, World.block_lt_of_cell? w _ (hc 0 h0)⟩
/-- Binds in a row of the call's own; their rows lie wherever. -/
structure Mixed (w : World) (base : Nat) (v : Value) (s : List Bd) (us : List Value) : Prop where
  len : us.length = s.length
  own : w.ownsRow base 43 2 v s.length (bcells s us)
  hxs : ∀ x ∈ s, -9223372036854775808 ≤ x.1 ∧ x.1 ≤ 9223372036854775807
  vs : v.ownBlock ≠ none
  rows : ∀ k u, us[k]? = some u → RowV w u (s.getD k bd0).2 ∧ (0 < (s.getD k bd0).2.length → u.ownBlock ≠ v.ownBlock)
theorem Mixed.over {w w' : World} {base : Nat} {v : Value} {s : List Bd} {us : List Value} (h : Mixed w base v s us) (hb : Below w.heap.size w w') : Mixed w' base v s us :=
  ⟨h.len, own_kept h.own hb, h.hxs, h.vs, fun k u hu => ⟨(h.rows k u hu).1.kept hb, (h.rows k u hu).2⟩⟩
theorem bcells_app (s r : List Bd) (us ur : List Value) (h : us.length = s.length) : bcells (s ++ r) (us ++ ur) = bcells s us ++ bcells r ur := by
  unfold bcells
  rw [List.zip_append h.symm, List.flatMap_append]
theorem Mixed.push {w w2 : World} {base : Nat} {v v' : Value} {s r : List Bd} {us ur : List Value} (h : Mixed w base v s us) (hl : ur.length = r.length) (hr : ∀ x ∈ r, -9223372036854775808 ≤ x.1 ∧ x.1 ≤ 9223372036854775807)
    (hru : ∀ k u, ur[k]? = some u → RowV w u (r.getD k bd0).2 ∧ (0 < (r.getD k bd0).2.length → u.ownBlock ≠ v.ownBlock))
    (ho : w2.ownsRow base 43 2 v' (s.length + r.length) (bcells s us ++ bcells r ur)) (hg : w.grownBy w2 v.ownBlock) (hat : v'.ownBlock = v.ownBlock ∨ ∃ g, v'.ownBlock = some g ∧ w.heap.size ≤ g) : Mixed w2 base v' (s ++ r) (us ++ ur) := by
  have hat' : v'.ownBlock ≠ none := by
    rcases hat with h' | ⟨g, h', _⟩ <;> rw [h']
    · exact h.vs
    · exact fun e => by cases e
  have step : ∀ (u : Value) (t : List Int), RowV w u t → (0 < t.length → u.ownBlock ≠ v.ownBlock) → RowV w2 u t ∧ (0 < t.length → u.ownBlock ≠ v'.ownBlock) := fun u t hu hn =>
    ⟨hu.turned hg hn, fun h0 e => by
      obtain ⟨b, hb, hlt⟩ := hu.block h0
      rcases hat with h' | ⟨g, h', hgl⟩
      · exact hn h0 (e.trans h')
      · rw [hb, h'] at e; injection e with e; omega⟩
  refine ⟨by simp [h.len, hl], by rw [List.length_append, bcells_app s r us ur h.len]; exact ho, fun x hx => ?_, hat', fun k u hu => ?_⟩
  · rcases List.mem_append.1 hx with hx | hx
    · exact h.hxs x hx
    · exact hr x hx
  · by_cases hk : k < us.length
    · rw [List.getElem?_append_left hk] at hu
      have e : (s ++ r).getD k bd0 = s.getD k bd0 := by simp [List.getD_eq_getElem?_getD, List.getElem?_append_left (show k < s.length by have := h.len; omega)]
      rw [e]
      exact step u _ (h.rows k u hu).1 (h.rows k u hu).2
    · rw [List.getElem?_append_right (by omega)] at hu
      have e : (s ++ r).getD k bd0 = r.getD (k - us.length) bd0 := by
        rw [h.len]
        simp [List.getD_eq_getElem?_getD, List.getElem?_append_right (show s.length ≤ k by have := h.len; omega)]
      rw [e]
      exact step u _ (hru _ u hu).1 (hru _ u hu).2
theorem Mixed.reads {w : World} {base : Nat} {v : Value} {s : List Bd} {us : List Value} (h : Mixed w base v s us) (h32 : s.length ≤ 140737488355328) : ∃ A c, v = .slice A s.length c ∧ s.length ≤ c ∧ (A = none → s.length = 0 ∧ c = 0) ∧ Binds w A s := by
  obtain ⟨hl, hown, hxs, _, hrows⟩ := h
  obtain ⟨A, c, hv, hle, hn⟩ := own_le hown
  refine ⟨A, c, hv, hle, hn, h32, fun h0 => ?_⟩
  obtain ⟨g, cap, hv', _, _⟩ := hown.form h0
  rw [hv] at hv'
  injection hv' with e1 e2 e3
  subst e1 e3
  refine ⟨g, 0, rfl, fun k hk => ?_⟩
  subst hv
  have hu := List.getElem?_eq_getElem (show k < us.length by omega)
  have hc := bcells_at s us hl k _ hu
  refine ⟨?_, hxs _ (getD_mem hk rfl), us[k]'(by omega), ?_, (hrows k _ hu).1⟩
  · rw [Nat.zero_add, hown.cellAt (k * 2) (by omega)]; exact hc.1
  · rw [Nat.zero_add, hown.cellAt (k * 2 + 1) (by omega)]; exact hc.2
theorem Mixed.start {w : World} {hb : Nat} (h : hb = w.heap.size) : Mixed (w.alloc (.cells #[] 43)) hb (.slice (some ⟨hb, 0, none⟩) 0 0) [] [] :=
  ⟨rfl, own_empty w 43 2 hb h, (fun x hx => by cases hx), (fun e => by cases e), fun k u hu => by simp at hu⟩
/-- What binds that are read hold, as a list. -/
theorem Binds.values {w : World} {A : Option Addr} {s : List Bd} (h : Binds w A s) : ∃ us : List Value, us.length = s.length ∧ (∀ k u, us[k]? = some u → RowV w u (s.getD k bd0).2) ∧
    (0 < s.length → ∃ b off, A = some ⟨b, off, none⟩ ∧ ∀ j y, (bcells s us)[j]? = some y → w.cell? ⟨b, off + j, none⟩ = some y) := by
  have each : ∀ k, ∃ u : Value, k < s.length → RowV w u (s.getD k bd0).2 ∧ ∃ b off, A = some ⟨b, off, none⟩ ∧ w.cell? ⟨b, off + k * 2, none⟩ = some (.int .i64 (s.getD k bd0).1) ∧ w.cell? ⟨b, off + k * 2 + 1, none⟩ = some u := fun k => by
    by_cases hk : k < s.length
    · obtain ⟨b, off, hA, hc⟩ := h.2 (by omega)
      obtain ⟨h1, _, u, h2, h3⟩ := hc k hk
      exact ⟨u, fun _ => ⟨h3, b, off, hA, h1, h2⟩⟩
    · exact ⟨undef, fun h => absurd h hk⟩
  obtain ⟨F, hF⟩ := Classical.axiomOfChoice each
  have hget : ∀ k, k < s.length → ((List.range s.length).map F)[k]? = some (F k) := fun k hk => by simp [hk]
  refine ⟨(List.range s.length).map F, by simp, fun k u hu => ?_, fun h0 => ?_⟩
  · have hk : k < s.length := by have := (List.getElem?_eq_some_iff.1 hu).1; simpa using this
    rw [hget k hk] at hu
    injection hu with hu
    rw [← hu]; exact (hF k hk).1
  · obtain ⟨b, off, hA, _⟩ := h.2 h0
    refine ⟨b, off, hA, fun j y hj => ?_⟩
    have hlen : (bcells s ((List.range s.length).map F)).length = s.length * 2 := by
      have : ∀ (s : List Bd) (us : List Value), us.length = s.length → (bcells s us).length = s.length * 2 := by
        intro s
        induction s with
        | nil => intro us hu; simp [bcells]
        | cons x s ih =>
          intro us hu
          cases us with
          | nil => simp at hu
          | cons u us =>
            have := ih us (by simpa using hu)
            have e : bcells (x :: s) (u :: us) = [.int .i64 x.1, u] ++ bcells s us := rfl
            rw [e, List.length_append, this]; simp; omega
      exact this s _ (by simp)
    have hlt : j < s.length * 2 := by have := (List.getElem?_eq_some_iff.1 hj).1; omega
    have hk : j / 2 < s.length := by omega
    have hc := bcells_at s ((List.range s.length).map F) (by simp) (j / 2) _ (hget _ hk)
    obtain ⟨_, b', off', hA', h1, h2⟩ := hF (j / 2) hk
    rw [hA] at hA'
    cases hA'
    rcases Nat.mod_two_eq_zero_or_one j with e | e
    · have ej : j = j / 2 * 2 := by omega
      rw [ej] at hj ⊢
      rw [hc.1] at hj
      rw [h1]; exact hj
    · have ej : j = j / 2 * 2 + 1 := by omega
      rw [ej] at hj ⊢
      rw [hc.2] at hj
      rw [← Nat.add_assoc, h2]; exact hj
theorem Binds.drop {w : World} {b off : Nat} {s : List Bd} (h : Binds w (some ⟨b, off, none⟩) s) (k : Nat) : Binds w (some ⟨b, off + k * 2, none⟩) (s.drop k) := by
  refine ⟨by have := h.1; rw [List.length_drop]; omega, fun h0 => ⟨b, off + k * 2, rfl, fun j hj => ?_⟩⟩
  rw [List.length_drop] at h0 hj
  obtain ⟨b', off', e, hc⟩ := h.2 (by omega)
  cases e
  have e1 : (s.drop k).getD j bd0 = s.getD (k + j) bd0 := by simp [List.getD_eq_getElem?_getD]
  obtain ⟨h1, h2, u, h3, h4⟩ := hc (k + j) (by omega)
  rw [e1]
  have e2 : b + 0 = b := rfl
  refine ⟨?_, h2, u, ?_, h4⟩
  · rw [show off + k * 2 + j * 2 = off + (k + j) * 2 by omega]; exact h1
  · rw [show off + k * 2 + j * 2 + 1 = off + (k + j) * 2 + 1 by omega]; exact h3
/-- The steps of the merge. -/
theorem mergeOn_cons (F : List Int → List Int) (b : Bd) (s r : List Bd) : mergeOn F (b :: s) r = less b.1 r ++ (b.1, F b.2) :: mergeOn F s (skip b.1 (rest b.1 r)) := rfl
theorem less_cons (v : Int) (c : Bd) (r : List Bd) : less v (c :: r) = if c.1 < v then c :: less v r else [] := by
  unfold less
  rw [List.takeWhile_cons]
  by_cases h : c.1 < v <;> simp [h]
theorem rest_cons (v : Int) (c : Bd) (r : List Bd) : rest v (c :: r) = if c.1 < v then rest v r else c :: r := by
  unfold rest
  rw [List.dropWhile_cons]
  by_cases h : c.1 < v <;> simp [h]
theorem drop_binds (r : List Bd) (k : Nat) (hk : k < r.length) : r.drop k = r.getD k bd0 :: r.drop (k + 1) := by
  rw [List.drop_eq_getElem_cons hk]; simp [List.getD_eq_getElem?_getD, List.getElem?_eq_getElem hk]
theorem merge_less {F : List Int → List Int} {b : Bd} {s r : List Bd} {k : Nat} (hk : k < r.length) (h : (r.getD k bd0).1 < b.1) : mergeOn F (b :: s) (r.drop k) = r.getD k bd0 :: mergeOn F (b :: s) (r.drop (k + 1)) := by
  rw [drop_binds r k hk, mergeOn_cons, mergeOn_cons, less_cons, rest_cons, if_pos h, if_pos h]
  rfl
theorem merge_hit {F : List Int → List Int} {b : Bd} {s r : List Bd} {k : Nat} (hk : k < r.length) (h : (r.getD k bd0).1 = b.1) : mergeOn F (b :: s) (r.drop k) = (b.1, F b.2) :: mergeOn F s (r.drop (k + 1)) := by
  rw [drop_binds r k hk, mergeOn_cons, less_cons, rest_cons, if_neg (by omega), if_neg (by omega), skip_cons, if_pos h]
  rfl
theorem merge_past {F : List Int → List Int} {b : Bd} {s r : List Bd} {k : Nat} (h : k < r.length → b.1 < (r.getD k bd0).1) : mergeOn F (b :: s) (r.drop k) = (b.1, F b.2) :: mergeOn F s (r.drop k) := by
  by_cases hk : k < r.length
  · have hlt := h hk
    rw [drop_binds r k hk, mergeOn_cons, less_cons, rest_cons, if_neg (by omega), if_neg (by omega), skip_cons, if_neg (by omega)]
    rfl
  · rw [List.drop_eq_nil_of_le (by omega)]
    rfl
theorem right_short {l : List Sy} {s : List Bd} (h : Right l s) : s.length ≤ 1048576 := by
  have hk : ∀ k, k < s.length → (k : Int) ≤ (s.getD k bd0).1 := by
    intro k
    induction k with
    | zero => intro hk; exact (h.low 0 hk).1
    | succ k ih =>
      intro hk
      have := ih (by omega)
      have := h.inc k hk
      omega
  rcases Nat.eq_zero_or_pos s.length with h0 | h0
  · omega
  · have h1 := hk (s.length - 1) (by omega)
    have h2 := (h.low (s.length - 1) (by omega)).2
    omega
theorem after_room {l : List Sy} {s r : List Bd} (hs : substErr l s = 0) (hr32 : r.length * 32 ≤ 140737488351232) {i k : Nat} (hi : i ≤ s.length) (hk : k ≤ r.length) (h : i = 0 ∨ substErr l r = 0) : (i + k + 1) * 32 ≤ 140737488355328 := by
  have h1 := right_short (right_of hs)
  rcases h with h | h
  · omega
  · have h2 := right_short (right_of h); omega
theorem after_all {l : List Sy} {s r both : List Bd} {k : Nat} (hs : substErr l s = 0) (hr32 : r.length * 32 ≤ 140737488351232) (hb : both.length ≤ s.length + k) (hk : k ≤ r.length) (h : s.length = 0 ∨ substErr l r = 0) : (both.length + (r.length - k)) * 32 ≤ 140737488355328 := by
  have h1 := right_short (right_of hs)
  rcases h with h | h
  · omega
  · have h2 := right_short (right_of h); omega
theorem bcells_len : ∀ (s : List Bd) (us : List Value), us.length = s.length → (bcells s us).length = s.length * 2
  | [], us, h => by simp [bcells]
  | x :: s, [], h => by simp at h
  | x :: s, u :: us, h => by
    have e : bcells (x :: s) (u :: us) = [.int .i64 x.1, u] ++ bcells s us := rfl
    rw [e, List.length_append, bcells_len s us (by simpa using h)]; simp; omega
theorem bcells_one' {s : List Bd} {us : List Value} (hl : us.length = s.length) (h : ∀ (k : Nat) (u : Value), us[k]? = some u → u.oneCell' = true) : ∀ y ∈ bcells s us, y.oneCell' = true := by
  intro y hy
  unfold bcells at hy
  obtain ⟨p, hp, hy⟩ := List.mem_flatMap.1 hy
  simp only [List.mem_cons, List.not_mem_nil, or_false] at hy
  rcases hy with rfl | rfl
  · rfl
  · obtain ⟨k, hk, e⟩ := List.getElem_of_mem (List.of_mem_zip hp).2
    exact h k _ (by rw [List.getElem?_eq_getElem hk, e])
theorem mem_getD' {s : List Bd} {x : Bd} (h : x ∈ s) : ∃ i, i < s.length ∧ s.getD i bd0 = x := by
  obtain ⟨i, hi, rfl⟩ := List.getElem_of_mem h
  exact ⟨i, hi, by simp [List.getD_eq_getElem?_getD, List.getElem?_eq_getElem hi]⟩
theorem room_of {a b : Nat} (h : a ≤ b) (hs : (b + 1) * 32 ≤ 140737488355328) : (a + 1) * 32 ≤ 140737488355328 := by omega
theorem one_bind {w : World} {v u : Value} {x : Int} {t : List Int} (hx : -9223372036854775808 ≤ x ∧ x ≤ 9223372036854775807) (hu : RowV w u t) (hn : 0 < t.length → u.ownBlock ≠ v.ownBlock) :
    (∀ y ∈ [((x, t) : Bd)], -9223372036854775808 ≤ y.1 ∧ y.1 ≤ 9223372036854775807) ∧ ∀ k u', [u][k]? = some u' → RowV w u' ([((x, t) : Bd)].getD k bd0).2 ∧ (0 < ([((x, t) : Bd)].getD k bd0).2.length → u'.ownBlock ≠ v.ownBlock) := by
  refine ⟨fun y hy => by simp at hy; subst hy; exact hx, fun k u' hk => ?_⟩
  match k, hk with
  | 0, hk => simp at hk; subst hk; exact ⟨hu, hn⟩
  | k + 1, hk => simp at hk
theorem old_row {w w' : World} {base n size : Nat} {e : TypeId} {v u : Value} {xs : List Value} {t : List Int} (hu : RowV w u t) (hb : w.heap.size ≤ base) (hv : w'.ownsRow base e size v n xs) (h0 : 0 < t.length) : u.ownBlock ≠ v.ownBlock := fun e => by
  obtain ⟨b, hb', hlt⟩ := hu.block h0
  have := (hv.lt b (e.symm.trans hb')).1
  omega

set_option maxRecDepth 100000 in
set_option maxHeartbeats 2000000 in
theorem substAfter_walk (A : Option Addr) (l : List Sy) (sc : Nat) (B : Option Addr) (s : List Bd) (c : Nat) (C : Option Addr) (r : List Bd) (d : Nat) (D : Option Addr) (t : List Int) (tc : Nat) (w : World) (hT : Tabs w) (hcap : l.length ≤ sc) (hl : Sigs w A l)
    (hc : s.length ≤ c) (hn : B = none → s.length = 0 ∧ c = 0) (h32 : s.length * 32 ≤ 140737488351232) (hs : Binds w B s)
    (hd : r.length ≤ d) (hnr : C = none → r.length = 0 ∧ d = 0) (hr32 : r.length * 32 ≤ 140737488351232) (hr : Binds w C r) (htc : t.length ≤ tc) (hnt : D = none → t.length = 0 ∧ tc = 0) (h8 : t.length * 8 ≤ 140737488351232) (ht : Ints w D t) :
    Calls Tryd.prog 7 #[.slice A l.length sc, .slice B s.length c, .slice C r.length d, .slice D t.length tc] w fun e w' => e = .returned (.bool true) ∧ Below w.heap.size w w' := by
  have m1 := hs.1
  have m2 := hr.1
  have HNR := Lib.hid hnr
  clear hn hnt hnr
  go_enter Tryd.func7, Tryd.ntmps7
  go_wp2_with fail
  refine (shown_any w hT).mono ?_
  rintro e w1 ⟨rfl, hb1⟩
  go_wp2_with fail
  have cA := apply_any A B D l s t sc c tc hcap w1 (hl.kept hb1) (hs.kept hb1) (ht.kept hb1) (hT.kept hb1)
  have hboth := after_both (l := l) (s := s) (r := r) (t := t)
  have HAF : applyErr l s t ≠ 0 → applied l s t = [] := fun h => by unfold applied; rw [if_neg h]
  have HRT : applyErr l s t = 0 → substErr l s = 0 := fun h => (apply_zero h).1
  generalize applied l s t = a at cA hboth HAF
  generalize applyErr l s t = er at cA hboth HAF HRT
  refine cA.mono ?_
  rintro e w2 ⟨va, rfl, hb2, hOa⟩
  have hB2 := below_then hb1 hb1.size hb2
  by_cases he : er = 0
  · subst he
    obtain ⟨Aa, ca, rfl, hIa⟩ := hOa.ints
    have HBOTH := Lib.hid (hboth rfl)
    have HRS := Lib.hid (HRT rfl)
    clear hboth HAF HRT cA
    have cB := apply_any A C Aa l r a sc d ca hcap w2 (hl.kept hB2) (hr.kept hB2) hIa (hT.kept hB2)
    have cF := fun (T : List Int) (TA : Option Addr) (TC : Nat) W h1 h2 h3 h4 => apply_any A C TA l r T sc d TC hcap W h1 h2 h3 h4
    obtain ⟨F, hF⟩ : ∃ F, F = applied l r := ⟨_, rfl⟩
    rw [← hF] at HBOTH cB cF
    generalize hb' : F a = b at cB
    generalize he2 : applyErr l r a = er2 at cB
    have HBB := Lib.hid hb'
    have HEE := Lib.hid he2
    have HF := Lib.hid hF
    clear hb' he2 hF
    go_wp2_with fail
    refine cB.mono ?_
    rintro e w3 ⟨vb, rfl, hb3, hOb⟩
    obtain ⟨Ab, cb, rfl, hIb⟩ := hOb.ints
    have hB3 := below_then hB2 hB2.size hb3
    have h0 := Mixed.start (w := w3) rfl
    have hBl0 := below_alloc0 w3 (.cells #[] 43)
    clear cB hOa hIa hOb
    go_wp2_with fail
    obtain ⟨w0, hw0⟩ : ∃ x, x = w3.alloc (.cells #[] 43) := ⟨_, rfl⟩
    obtain ⟨hb, hhb⟩ : ∃ x, x = w3.heap.size := ⟨_, rfl⟩
    rw [← hhb] at h0 hBl0
    rw [← hw0] at h0 hBl0 ⊢
    rw [← hhb]
    have HHB := Lib.hid hhb
    clear hw0 hhb hb1 hb2 hb3
    go_loopg [14, 15, 16] s.length (fun gk V kv iv wr => ∃ (k i : Nat) (both : List Bd) (us : List Value), Aside (gk + i = s.length) ∧ kv = .int .i64 k ∧ iv = .int .i64 i ∧ Below hb w3 wr ∧ Mixed wr hb V both us ∧ k ≤ r.length ∧ Aside (both.length ≤ i + k) ∧
      Aside (mergeOn F s r = both ++ mergeOn F (s.drop i) (r.drop k)) ∧ Aside (i = 0 ∨ substErr l r = 0) ∧ Aside (∀ p, p < i → applyErr l r (s.getD p bd0).2 = 0))
    case atStart => exact ⟨0, 0, [], [], (rfl : s.length + 0 = _), rfl, rfl, hBl0, h0, Nat.zero_le _, Nat.le_refl _, by rw [List.drop_zero, List.drop_zero]; rfl, .inl rfl, fun p hp => by omega⟩
    case round =>
      clear h0 hBl0
      obtain ⟨k, i, both, us, hg, rfl, rfl, hB, hM, hkr, hbl, hmg, hor, hall⟩ := hrel
      have hi : i ≤ s.length := by have := hg.out; omega
      have HOR := Lib.hid hor.out
      have HALL := Lib.hid hall.out
      clear hor hall
      by_cases hlt : i < s.length
      · obtain ⟨bs, offs, x, T, TA, TC, rfl, hx, hx1, hx2, hxc, hxT, hTd1, hTd2, hT8, hTT⟩ := (hs.kept hB3).at_ hlt
        have HX := Lib.hid hx
        have hsd : s.drop i = (x, T) :: s.drop (i + 1) := by rw [drop_binds s i hlt, hx]
        have HSD := Lib.hid hsd
        clear hx hsd
        go_wp2_with fail
        go_loopg [14, 15] r.length (fun gj V kv wx => ∃ (k' : Nat) (both' : List Bd) (us' : List Value), Aside (r.length ≤ gj + k') ∧ k' ≤ r.length ∧ kv = .int .i64 k' ∧ Below hb w3 wx ∧ Mixed wx hb V both' us' ∧ Aside (both'.length ≤ i + k') ∧
          Aside (mergeOn F s r = both' ++ mergeOn F (s.drop i) (r.drop k')))
        case atStart => exact ⟨k, both, us, (show r.length ≤ r.length + k by omega), hkr, rfl, hB, hM, hbl, hmg⟩
        case round =>
          clear hB hM
          obtain ⟨k', both', us', hgj, hk', rfl, hB2, hM2, hbl2, hmg2⟩ := hrel
          have hBw : Below w3.heap.size w3 wr := by rw [← HHB.out]; exact hB2
          have hxc6 := cell_kept hBw hxc
          have hxT6 := cell_kept hBw hxT
          by_cases hkl : k' < r.length
          · obtain ⟨br, offr, y, U, UA, UC, rfl, hy, hy1, hy2, hyc, hyU, hUd1, hUd2, hU8, hUT⟩ := (hr.kept (below_then hB3 hB3.size hBw)).at_ hkl
            have HY := Lib.hid hy
            clear hy
            by_cases hyx : y < x
            · have hsz := after_room HRS.out hr32 (Nat.le_of_lt hlt) (Nat.le_of_lt hkl) HOR.out
              have hbsz : (both'.length + 1) * 32 ≤ 140737488355328 := room_of hbl2.out hsz
              have hlo : hb ≤ wr.heap.size := by rw [HHB.out]; exact hBw.size
              have hMq := fun n => hM2.over (below_drawN (Below.refl _ _) n)
              have hUV : RowV wr (.slice UA U.length UC) U := ⟨UA, UC, rfl, hUd1, hUd2, hU8, hUT⟩
              have hUn : 0 < U.length → (Value.slice UA U.length UC).ownBlock ≠ u14.ownBlock := fun h0 => by
                obtain ⟨_, _, y', U', UA', UC', e, hy', _, _, hyc', hyU', h1', h2', h3', hUT'⟩ := (hr.kept hB3).at_ hkl
                injection e with e
                injection e with e1 e2 _
                subst e1 e2
                have e3 := hyU.symm.trans (cell_kept hBw hyU')
                injection e3 with e3
                have e4 : U' = U := by have := HY.out; rw [hy'] at this; exact (Prod.mk.inj this).2
                subst e4
                rw [e3]
                exact old_row (w := w3) ⟨UA', UC', rfl, h1', h2', h3', hUT'⟩ (by rw [HHB.out]; exact Nat.le_refl _) hM2.own h0
              have hone2 := one_bind (x := y) (v := u14) ⟨hy1, hy2⟩ hUV hUn
              have HO2 := Lib.hid hone2
              clear hone2 hUn hUV hsz
              go_wp2_with fail
              go_quiet (fail)
              go_wp2_with (at_builtin; refine push (.tmp 70) (.tmp 75) 23 43 (.agg #[.int .i64 0, .slice none 0 0]) 2 32 rfl rfl Tryd.underlying23 infoBind rfl (by decide) (by decide) hb u14 both'.length (bcells both' us') [.int .i64 y, .slice UA U.length UC] rfl ((hMq _).own.alloc _) _ 0 1 rfl rfl (bind_cells _ _ _ _ _ rfl) (pair2_one _ _ rfl) hbsz (by simp; omega) ?_; intro g8 cap8 w8 ho8 hg8 ha8 hlt8)
              have hM8 := ((hMq _).over (below_alloc0 _ _)).push (r := [(y, U)]) (ur := [.slice UA U.length UC]) (v' := .slice (some ⟨g8, 0, none⟩) (both'.length + 1) cap8) rfl HO2.out.1 (fun k u hu => ⟨((HO2.out.2 k u hu).1.kept (below_drawN (Below.refl _ _) _)).kept (below_alloc0 _ _), (HO2.out.2 k u hu).2⟩) ho8 hg8 (by
                rcases ha8 with h | h
                · exact .inl h.symm
                · exact .inr ⟨g8, rfl, by omega⟩)
              have hB8 : Below hb w3 w8 := (below_alloc (below_drawN hB2 _) hlo _).grown hg8 (by simp; omega) (fun j hj => (hM2.own.lt j hj).1)
              have HM8 := Lib.hid hM8
              have HB8 := Lib.hid hB8
              clear hM8 hB8 ho8 hg8 ha8
              go_roundg (r.length - (k' + 1))
              case measure => have := hgj.out; omega
              case rel =>
                refine ⟨k' + 1, both' ++ [(y, U)], us' ++ [.slice UA U.length UC], by show _ ≤ _; omega, by omega, by go_num, HB8.out, HM8.out, by have := hbl2.out; rw [List.length_append]; show both'.length + 1 ≤ _; omega, ?_⟩
                have := hmg2.out
                rw [HSD.out, merge_less hkl (by rw [HY.out]; exact hyx), HY.out] at this
                exact this.trans (by rw [HSD.out]; simp)
            · by_cases hye : y = x
              · have hye1 : (y == x) = true := beq_iff_eq.2 hye
                have HYE := Lib.hid hye
                have hkk : k' + 1 ≤ r.length := hkl
                clear hye
                have cX := fun W h1 h2 h3 h4 => cF T TA TC W h1 h2 h3 h4
                have HMG : Hid (mergeOn F s r = both' ++ (x, F T) :: mergeOn F (s.drop (i + 1)) (r.drop (k' + 1))) := Lib.hid (by
                  have := hmg2.out
                  rw [HSD.out, merge_hit hkl (by rw [HY.out]; exact HYE.out)] at this
                  exact this)
                go_wp2_with fail
                go_quiet (fail)
                go_wp2_with fail
                have hBq := below_drawN hBw nq
                have hMq := hM2.over (below_drawN (Below.refl _ _) nq)
                have hxcq := cell_kept (below_drawN (Below.refl _ _) nq) hxc6
                have hxTq := cell_kept (below_drawN (Below.refl _ _) nq) hxT6
                have hycq := cell_kept (below_drawN (Below.refl _ _) nq) hyc
                obtain ⟨wq, hwq⟩ : ∃ x, x = wr.drewN nq := ⟨_, rfl⟩
                rw [← hwq] at hycq hxcq hBq hMq hxTq ⊢
                clear hwq hxc6 hxT6 hB2 hM2 hBw
                have hBd : ∀ n, Below w3.heap.size w3 (wq.drewN n) := fun n => below_drawN hBq n
                have hB5 := fun n => below_then hB3 hB3.size (hBd n)
                obtain ⟨ex, hex⟩ : ∃ ex, ex = applyErr l r T := ⟨_, rfl⟩
                rw [← hex] at cX
                have HEX := Lib.hid hex
                clear hex
                by_cases hx0 : ex = 0
                · have hx01 : (ex == 0) = true := beq_iff_eq.2 hx0
                  have hx02 : (ex != 0) = false := by simp [hx0]
                  have HX0 := Lib.hid hx0
                  clear hx0
                  go_quiet (fail)
                  go_wp2_with fail
                  refine (cX _ (hl.kept (hB5 _)) (hr.kept (hB5 _)) (hTT.kept (hBd _)) (hT.kept (hB5 _))).mono ?_
                  rintro e w5 ⟨vx, rfl, hb5, hOx⟩
                  have hM5 := (hMq.over (below_drawN (Below.refl _ _) _)).over hb5
                  have hRx := hOx.reads
                  have hnx : 0 < (F T).length → vx.ownBlock ≠ u14.ownBlock := fun _ e => by
                    cases hq : vx.ownBlock with
                    | none => exact hMq.vs (e.symm.trans hq)
                    | some p =>
                      have h1 := (hOx.1.lt p hq).1
                      have h2 := (hMq.own.lt p (e.symm.trans hq)).2
                      have h3 : wq.heap.size ≤ p := h1
                      omega
                  have hxc5 := cell_kept (below_then (hBd _) (hBd _).size hb5) hxc
                  obtain ⟨XA, XC, rfl, _⟩ := own_slice hOx.1
                  have hBw5 : Below w3.heap.size w3 w5 := below_then (hBd _) (hBd _).size hb5
                  have hlo5 : hb ≤ w5.heap.size := by rw [HHB.out]; exact hBw5.size
                  have hone2 := one_bind (x := x) (v := u14) ⟨hx1, hx2⟩ hRx hnx
                  have HO2 := Lib.hid hone2
                  have hsz := after_room HRS.out hr32 (Nat.le_of_lt hlt) (show k' + 1 ≤ r.length by omega) HOR.out
                  have hbsz : (both'.length + 1) * 32 ≤ 140737488355328 := room_of (show both'.length ≤ i + (k' + 1) from Nat.le_trans hbl2.out (by omega)) hsz
                  clear hone2 hnx hsz
                  go_wp2_with (at_builtin; refine push (.tmp 112) (.tmp 120) 23 43 (.agg #[.int .i64 0, .slice none 0 0]) 2 32 rfl rfl Tryd.underlying23 infoBind rfl (by decide) (by decide) hb u14 both'.length (bcells both' us') [.int .i64 x, .slice XA (F T).length XC] rfl (hM5.own.alloc _) w5.heap.size 0 1 rfl rfl (bind_cells _ _ _ _ _ rfl) (pair2_one _ _ rfl) hbsz (by simp; omega) ?_; intro g8 cap8 w8 ho8 hg8 ha8 hlt8)
                  have hM8 := (hM5.over (below_alloc0 _ _)).push (r := [(x, F T)]) (ur := [.slice XA (F T).length XC]) (v' := .slice (some ⟨g8, 0, none⟩) (both'.length + 1) cap8) rfl HO2.out.1 (fun k u hu => ⟨(HO2.out.2 k u hu).1.kept (below_alloc0 _ _), (HO2.out.2 k u hu).2⟩) ho8 hg8 (by
                    rcases ha8 with h | h
                    · exact .inl h.symm
                    · exact .inr ⟨g8, rfl, by omega⟩)
                  have hB8 : Below hb w3 w8 := (below_alloc (by rw [HHB.out]; exact hBw5) hlo5 _).grown hg8 (by simp; omega) (fun j hj => (hM5.own.lt j hj).1)
                  have HM8 := Lib.hid hM8
                  have HB8 := Lib.hid hB8
                  clear hM8 hB8 ho8 hg8 ha8
                  go_roundg (s.length - (i + 1))
                  case measure => have := hg.out; omega
                  case rel =>
                    refine ⟨k' + 1, i + 1, both' ++ [(x, F T)], us' ++ [.slice XA (F T).length XC], by have := hg.out; show _ = _; omega, by go_num, by go_num, HB8.out, HM8.out, by omega, ?_, ?_, .inr ?_, fun p hp => ?_⟩
                    · have := hbl2.out
                      rw [List.length_append]
                      show both'.length + 1 ≤ i + 1 + (k' + 1)
                      omega
                    · exact HMG.out.trans (by simp)
                    · exact (apply_zero (HEX.out.symm.trans HX0.out)).1
                    · by_cases e : p = i
                      · subst e; rw [HX.out]; exact HEX.out.symm.trans HX0.out
                      · exact HALL.out p (by omega)
                · have hx01 : (ex == 0) = false := beq_eq_false_iff_ne.2 hx0
                  have hx02 : (ex != 0) = true := bne_iff_ne.2 hx0
                  clear hx0
                  go_quiet (fail)
                  go_wp2_with fail
                  refine (cX _ (hl.kept (hB5 _)) (hr.kept (hB5 _)) (hTT.kept (hBd _)) (hT.kept (hB5 _))).mono ?_
                  rintro e w5 ⟨vx, rfl, hb5, hOx⟩
                  go_wp2_with fail
                  go_ret
                  exact ⟨rfl, below_then (hB5 _) (hB5 _).size hb5⟩
              · have hye1 : (y == x) = false := beq_eq_false_iff_ne.2 hye
                have HYE := Lib.hid hye
                clear hye
                have cX := fun W h1 h2 h3 h4 => cF T TA TC W h1 h2 h3 h4
                have HMG : Hid (mergeOn F s r = both' ++ (x, F T) :: mergeOn F (s.drop (i + 1)) (r.drop (k'))) := Lib.hid (by
                  have := hmg2.out
                  rw [HSD.out, merge_past (fun _ => by rw [HY.out]; have := HYE.out; show x < y; omega)] at this
                  exact this)
                go_wp2_with fail
                go_quiet (fail)
                go_wp2_with fail
                have hBq := below_drawN hBw nq
                have hMq := hM2.over (below_drawN (Below.refl _ _) nq)
                have hxcq := cell_kept (below_drawN (Below.refl _ _) nq) hxc6
                have hxTq := cell_kept (below_drawN (Below.refl _ _) nq) hxT6
                have hycq := cell_kept (below_drawN (Below.refl _ _) nq) hyc
                obtain ⟨wq, hwq⟩ : ∃ x, x = wr.drewN nq := ⟨_, rfl⟩
                rw [← hwq] at hycq hxcq hBq hMq hxTq ⊢
                clear hwq hxc6 hxT6 hB2 hM2 hBw
                have hBd : ∀ n, Below w3.heap.size w3 (wq.drewN n) := fun n => below_drawN hBq n
                have hB5 := fun n => below_then hB3 hB3.size (hBd n)
                obtain ⟨ex, hex⟩ : ∃ ex, ex = applyErr l r T := ⟨_, rfl⟩
                rw [← hex] at cX
                have HEX := Lib.hid hex
                clear hex
                by_cases hx0 : ex = 0
                · have hx01 : (ex == 0) = true := beq_iff_eq.2 hx0
                  have hx02 : (ex != 0) = false := by simp [hx0]
                  have HX0 := Lib.hid hx0
                  clear hx0
                  go_quiet (fail)
                  go_wp2_with fail
                  refine (cX _ (hl.kept (hB5 _)) (hr.kept (hB5 _)) (hTT.kept (hBd _)) (hT.kept (hB5 _))).mono ?_
                  rintro e w5 ⟨vx, rfl, hb5, hOx⟩
                  have hM5 := (hMq.over (below_drawN (Below.refl _ _) _)).over hb5
                  have hRx := hOx.reads
                  have hnx : 0 < (F T).length → vx.ownBlock ≠ u14.ownBlock := fun _ e => by
                    cases hq : vx.ownBlock with
                    | none => exact hMq.vs (e.symm.trans hq)
                    | some p =>
                      have h1 := (hOx.1.lt p hq).1
                      have h2 := (hMq.own.lt p (e.symm.trans hq)).2
                      have h3 : wq.heap.size ≤ p := h1
                      omega
                  have hxc5 := cell_kept (below_then (hBd _) (hBd _).size hb5) hxc
                  obtain ⟨XA, XC, rfl, _⟩ := own_slice hOx.1
                  have hBw5 : Below w3.heap.size w3 w5 := below_then (hBd _) (hBd _).size hb5
                  have hlo5 : hb ≤ w5.heap.size := by rw [HHB.out]; exact hBw5.size
                  have hone2 := one_bind (x := x) (v := u14) ⟨hx1, hx2⟩ hRx hnx
                  have HO2 := Lib.hid hone2
                  have hsz := after_room HRS.out hr32 (Nat.le_of_lt hlt) (show k' ≤ r.length by omega) HOR.out
                  have hbsz : (both'.length + 1) * 32 ≤ 140737488355328 := room_of (show both'.length ≤ i + (k') from Nat.le_trans hbl2.out (by omega)) hsz
                  clear hone2 hnx hsz
                  go_wp2_with (at_builtin; refine push (.tmp 112) (.tmp 120) 23 43 (.agg #[.int .i64 0, .slice none 0 0]) 2 32 rfl rfl Tryd.underlying23 infoBind rfl (by decide) (by decide) hb u14 both'.length (bcells both' us') [.int .i64 x, .slice XA (F T).length XC] rfl (hM5.own.alloc _) w5.heap.size 0 1 rfl rfl (bind_cells _ _ _ _ _ rfl) (pair2_one _ _ rfl) hbsz (by simp; omega) ?_; intro g8 cap8 w8 ho8 hg8 ha8 hlt8)
                  have hM8 := (hM5.over (below_alloc0 _ _)).push (r := [(x, F T)]) (ur := [.slice XA (F T).length XC]) (v' := .slice (some ⟨g8, 0, none⟩) (both'.length + 1) cap8) rfl HO2.out.1 (fun k u hu => ⟨(HO2.out.2 k u hu).1.kept (below_alloc0 _ _), (HO2.out.2 k u hu).2⟩) ho8 hg8 (by
                    rcases ha8 with h | h
                    · exact .inl h.symm
                    · exact .inr ⟨g8, rfl, by omega⟩)
                  have hB8 : Below hb w3 w8 := (below_alloc (by rw [HHB.out]; exact hBw5) hlo5 _).grown hg8 (by simp; omega) (fun j hj => (hM5.own.lt j hj).1)
                  have HM8 := Lib.hid hM8
                  have HB8 := Lib.hid hB8
                  clear hM8 hB8 ho8 hg8 ha8
                  go_roundg (s.length - (i + 1))
                  case measure => have := hg.out; omega
                  case rel =>
                    refine ⟨k', i + 1, both' ++ [(x, F T)], us' ++ [.slice XA (F T).length XC], by have := hg.out; show _ = _; omega, by go_num, by go_num, HB8.out, HM8.out, by omega, ?_, ?_, .inr ?_, fun p hp => ?_⟩
                    · have := hbl2.out
                      rw [List.length_append]
                      show both'.length + 1 ≤ i + 1 + (k')
                      omega
                    · exact HMG.out.trans (by simp)
                    · exact (apply_zero (HEX.out.symm.trans HX0.out)).1
                    · by_cases e : p = i
                      · subst e; rw [HX.out]; exact HEX.out.symm.trans HX0.out
                      · exact HALL.out p (by omega)
                · have hx01 : (ex == 0) = false := beq_eq_false_iff_ne.2 hx0
                  have hx02 : (ex != 0) = true := bne_iff_ne.2 hx0
                  clear hx0
                  go_quiet (fail)
                  go_wp2_with fail
                  refine (cX _ (hl.kept (hB5 _)) (hr.kept (hB5 _)) (hTT.kept (hBd _)) (hT.kept (hB5 _))).mono ?_
                  rintro e w5 ⟨vx, rfl, hb5, hOx⟩
                  go_wp2_with fail
                  go_ret
                  exact ⟨rfl, below_then (hB5 _) (hB5 _).size hb5⟩
          · have hke : k' = r.length := by omega
            have HKE := Lib.hid hke
            clear hke
            have cX := fun W h1 h2 h3 h4 => cF T TA TC W h1 h2 h3 h4
            have HMG : Hid (mergeOn F s r = both' ++ (x, F T) :: mergeOn F (s.drop (i + 1)) (r.drop (k'))) := Lib.hid (by
              have := hmg2.out
              rw [HSD.out, merge_past (fun h => absurd h hkl)] at this
              exact this)
            go_wp2_with fail
            go_quiet (fail)
            go_wp2_with fail
            have hBq := below_drawN hBw nq
            have hMq := hM2.over (below_drawN (Below.refl _ _) nq)
            have hxcq := cell_kept (below_drawN (Below.refl _ _) nq) hxc6
            have hxTq := cell_kept (below_drawN (Below.refl _ _) nq) hxT6
            have hkq := hkl
            obtain ⟨wq, hwq⟩ : ∃ x, x = wr.drewN nq := ⟨_, rfl⟩
            rw [← hwq] at hxcq hBq hMq hxTq ⊢
            clear hwq hxc6 hxT6 hB2 hM2 hBw
            have hBd : ∀ n, Below w3.heap.size w3 (wq.drewN n) := fun n => below_drawN hBq n
            have hB5 := fun n => below_then hB3 hB3.size (hBd n)
            obtain ⟨ex, hex⟩ : ∃ ex, ex = applyErr l r T := ⟨_, rfl⟩
            rw [← hex] at cX
            have HEX := Lib.hid hex
            clear hex
            by_cases hx0 : ex = 0
            · have hx01 : (ex == 0) = true := beq_iff_eq.2 hx0
              have hx02 : (ex != 0) = false := by simp [hx0]
              have HX0 := Lib.hid hx0
              clear hx0
              go_quiet (fail)
              go_wp2_with fail
              refine (cX _ (hl.kept (hB5 _)) (hr.kept (hB5 _)) (hTT.kept (hBd _)) (hT.kept (hB5 _))).mono ?_
              rintro e w5 ⟨vx, rfl, hb5, hOx⟩
              have hM5 := (hMq.over (below_drawN (Below.refl _ _) _)).over hb5
              have hRx := hOx.reads
              have hnx : 0 < (F T).length → vx.ownBlock ≠ u14.ownBlock := fun _ e => by
                cases hq : vx.ownBlock with
                | none => exact hMq.vs (e.symm.trans hq)
                | some p =>
                  have h1 := (hOx.1.lt p hq).1
                  have h2 := (hMq.own.lt p (e.symm.trans hq)).2
                  have h3 : wq.heap.size ≤ p := h1
                  omega
              have hxc5 := cell_kept (below_then (hBd _) (hBd _).size hb5) hxc
              obtain ⟨XA, XC, rfl, _⟩ := own_slice hOx.1
              have hBw5 : Below w3.heap.size w3 w5 := below_then (hBd _) (hBd _).size hb5
              have hlo5 : hb ≤ w5.heap.size := by rw [HHB.out]; exact hBw5.size
              have hone2 := one_bind (x := x) (v := u14) ⟨hx1, hx2⟩ hRx hnx
              have HO2 := Lib.hid hone2
              have hsz := after_room HRS.out hr32 (Nat.le_of_lt hlt) (show k' ≤ r.length by omega) HOR.out
              have hbsz : (both'.length + 1) * 32 ≤ 140737488355328 := room_of (show both'.length ≤ i + (k') from Nat.le_trans hbl2.out (by omega)) hsz
              clear hone2 hnx hsz
              go_wp2_with (at_builtin; refine push (.tmp 112) (.tmp 120) 23 43 (.agg #[.int .i64 0, .slice none 0 0]) 2 32 rfl rfl Tryd.underlying23 infoBind rfl (by decide) (by decide) hb u14 both'.length (bcells both' us') [.int .i64 x, .slice XA (F T).length XC] rfl (hM5.own.alloc _) w5.heap.size 0 1 rfl rfl (bind_cells _ _ _ _ _ rfl) (pair2_one _ _ rfl) hbsz (by simp; omega) ?_; intro g8 cap8 w8 ho8 hg8 ha8 hlt8)
              have hM8 := (hM5.over (below_alloc0 _ _)).push (r := [(x, F T)]) (ur := [.slice XA (F T).length XC]) (v' := .slice (some ⟨g8, 0, none⟩) (both'.length + 1) cap8) rfl HO2.out.1 (fun k u hu => ⟨(HO2.out.2 k u hu).1.kept (below_alloc0 _ _), (HO2.out.2 k u hu).2⟩) ho8 hg8 (by
                rcases ha8 with h | h
                · exact .inl h.symm
                · exact .inr ⟨g8, rfl, by omega⟩)
              have hB8 : Below hb w3 w8 := (below_alloc (by rw [HHB.out]; exact hBw5) hlo5 _).grown hg8 (by simp; omega) (fun j hj => (hM5.own.lt j hj).1)
              have HM8 := Lib.hid hM8
              have HB8 := Lib.hid hB8
              clear hM8 hB8 ho8 hg8 ha8
              go_roundg (s.length - (i + 1))
              case measure => have := hg.out; omega
              case rel =>
                refine ⟨k', i + 1, both' ++ [(x, F T)], us' ++ [.slice XA (F T).length XC], by have := hg.out; show _ = _; omega, by go_num, by go_num, HB8.out, HM8.out, by omega, ?_, ?_, .inr ?_, fun p hp => ?_⟩
                · have := hbl2.out
                  rw [List.length_append]
                  show both'.length + 1 ≤ i + 1 + (k')
                  omega
                · exact HMG.out.trans (by simp)
                · exact (apply_zero (HEX.out.symm.trans HX0.out)).1
                · by_cases e : p = i
                  · subst e; rw [HX.out]; exact HEX.out.symm.trans HX0.out
                  · exact HALL.out p (by omega)
            · have hx01 : (ex == 0) = false := beq_eq_false_iff_ne.2 hx0
              have hx02 : (ex != 0) = true := bne_iff_ne.2 hx0
              clear hx0
              go_quiet (fail)
              go_wp2_with fail
              refine (cX _ (hl.kept (hB5 _)) (hr.kept (hB5 _)) (hTT.kept (hBd _)) (hT.kept (hB5 _))).mono ?_
              rintro e w5 ⟨vx, rfl, hb5, hOx⟩
              go_wp2_with fail
              go_ret
              exact ⟨rfl, below_then (hB5 _) (hB5 _).size hb5⟩
      · have hin : i = s.length := by omega
        subst hin
        have hBw : Below w3.heap.size w3 wr := by rw [← HHB.out]; exact hB
        have hlo : hb ≤ wr.heap.size := by rw [HHB.out]; exact hBw.size
        have HM0 : Hid (mergeOn F s r = both ++ r.drop k) := Lib.hid (by
          have := hmg.out
          rw [List.drop_length] at this
          exact this)
        have hrk := hr.kept (below_then hB3 hB3.size hBw)
        have hszb : (both.length + (r.length - k)) * 32 ≤ 140737488355328 := after_all HRS.out hr32 hbl.out hkr HOR.out
        by_cases hkl : k < r.length
        · obtain ⟨br, offr, hCe, _⟩ := hrk.2 (by omega)
          subst hCe
          have hrd := hrk.drop k
          obtain ⟨ur, hul, hur, hcells⟩ := hrd.values
          have hld : (r.drop k).length = r.length - k := List.length_drop
          have hcl : (bcells (r.drop k) ur).length = (r.length - k) * 2 := by rw [bcells_len _ _ hul, hld]
          have hru : ∀ q u, ur[q]? = some u → RowV wr u ((r.drop k).getD q bd0).2 ∧ (0 < ((r.drop k).getD q bd0).2.length → u.ownBlock ≠ u14.ownBlock) := fun q u hu => ⟨hur q u hu, fun h0 => by
            obtain ⟨ur3, hul3, hur3, hcells3⟩ := ((hr.kept hB3).drop k).values
            have hq : q < (r.drop k).length := by have := (List.getElem?_eq_some_iff.1 hu).1; omega
            have hu3 := List.getElem?_eq_getElem (show q < ur3.length by omega)
            obtain ⟨b1, o1, e1, c1⟩ := hcells3 (by omega)
            obtain ⟨b2, o2, e2, c2⟩ := hcells (by omega)
            rw [e1] at e2
            cases e2
            have x1 := c1 _ _ (bcells_at _ _ hul3 q _ hu3).2
            have x2 := c2 _ _ (bcells_at _ _ hul q u hu).2
            have x3 := (cell_kept hBw x1).symm.trans x2
            injection x3 with x3
            rw [← x3]
            exact old_row (w := w3) (hur3 q _ hu3) (by rw [HHB.out]; exact Nat.le_refl _) hM.own h0⟩
          have hone : ∀ y ∈ bcells (r.drop k) ur, y.oneCell' = true := bcells_one' hul (fun q u hu => by obtain ⟨_, _, rfl, _⟩ := (hur q u hu); rfl)
          have hrx : ∀ x ∈ r.drop k, -9223372036854775808 ≤ x.1 ∧ x.1 ≤ 9223372036854775807 := fun x hx => by
            obtain ⟨q, hq, rfl⟩ := mem_getD' hx
            obtain ⟨_, _, y, _, _, _, _, e, h1, h2, _⟩ := hrd.at_ hq
            rw [e]; exact ⟨h1, h2⟩
          have hdk : ¬ d = k := by omega
          have hbz := hszb
          go_wp2_with (at_builtin; refine push_all (.tmp 122) (.tmp 125) 23 43 (.agg #[.int .i64 0, .slice none 0 0]) 2 32 rfl rfl Tryd.underlying23 infoBind rfl (by decide) (by decide) hb u14 both.length (bcells both us) (bcells (r.drop k) ur) rfl hM.own (some ⟨br, offr + k * 2, none⟩) (r.length - k) (d - k) rfl (fun h => by cases h) hcl (fun h0 => hcells (by omega)) hone hbz hlo ?_; intro v8 w8 ho8 hg8 ha8)
          have hMZ := hM.push (r := r.drop k) (ur := ur) (v' := v8) (w2 := w8) hul hrx hru (by rw [hld]; exact ho8) hg8 (ha8.imp id (fun h => ⟨_, h, Nat.le_refl _⟩))
          have hBZ : Below hb w3 w8 := hB.grown hg8 hlo (fun j hj => (hM.own.lt j hj).1)
          have hszb : (both ++ r.drop k).length ≤ 140737488355328 := by rw [List.length_append, hld]; omega
          clear hru hone hrx hcl hur hcells hrd hbz
          have HMZ := Lib.hid hMZ
          have HBZ := Lib.hid hBZ
          clear hMZ hBZ ho8 hg8 ha8
          obtain ⟨ZA, ZC, rfl, _, _, hZ⟩ := HMZ.out.reads (by have := hszb; omega)
          have hBz : Below w3.heap.size w3 w8 := by rw [← HHB.out]; exact HBZ.out
          have hB8 := below_then hB3 hB3.size hBz
          have cZ := apply_any A ZA D l (both ++ r.drop k) t sc ZC tc hcap w8 (hl.kept hB8) hZ (ht.kept hB8) (hT.kept hB8)
          have hab := HBOTH.out (fun x hx => by
            obtain ⟨q, hq, rfl⟩ := List.getElem_of_mem hx
            have := HALL.out q hq
            simpa [List.getD_eq_getElem?_getD, List.getElem?_eq_getElem hq] using this)
          rw [HM0.out] at hab
          rw [← hab.1, ← hab.2, HBB.out, HEE.out] at cZ
          have hq1 : (er2 == er2) = true := beq_self_eq_true _
          clear hab
          go_wp2_with fail
          refine cZ.mono ?_
          rintro e w9 ⟨vz, rfl, hb9, hOz⟩
          obtain ⟨YA, YC, rfl, hIz⟩ := hOz.ints
          have hB9 := below_then hB8 hB8.size hb9
          go_wp2_with fail
          refine (same_self Ab YA b cb YC w9 ((hIb.kept hBz).kept hb9) hIz).mono ?_
          rintro e w10 ⟨rfl, hb10⟩
          go_wp2_with fail
          go_ret
          exact ⟨rfl, below_then hB9 hB9.size hb10⟩
        · have hke : k = r.length := by omega
          have hrd : r.drop k = [] := by rw [hke, List.drop_length]
          have HRD := Lib.hid hrd
          have HKE := Lib.hid hke
          have hbz : (both.length + 0) * 32 ≤ 140737488355328 := by omega
          clear hrd hke
          cases C with
          | none =>
            obtain ⟨hr0, hd0⟩ := HNR.out rfl
            have hk0 : k = 0 := by have := HKE.out; omega
            subst hk0
            subst hd0
            go_wp2_with (at_builtin; refine push_all (.tmp 122) (.tmp 125) 23 43 (.agg #[.int .i64 0, .slice none 0 0]) 2 32 rfl rfl Tryd.underlying23 infoBind rfl (by decide) (by decide) hb u14 both.length (bcells both us) [] rfl hM.own none 0 0 rfl (fun h => ⟨rfl, rfl⟩) rfl (fun h0 => by omega) (fun u hu => by cases hu) hbz hlo ?_; intro v8 w8 ho8 hg8 ha8)
            have hMZ := hM.push (r := r.drop (0)) (ur := []) (v' := v8) (w2 := w8) (by rw [HRD.out]; rfl) (by rw [HRD.out]; intro x hx; cases hx) (fun q u hu => by simp at hu) (by rw [show (r.drop (0)).length = 0 by rw [HRD.out]; rfl, show bcells (r.drop (0)) [] = [] by simp [bcells]]; exact ho8) hg8 (ha8.imp id (fun h => ⟨_, h, Nat.le_refl _⟩))
            have hBZ : Below hb w3 w8 := hB.grown hg8 hlo (fun j hj => (hM.own.lt j hj).1)
            have hszb : (both ++ r.drop (0)).length ≤ 140737488355328 := by rw [HRD.out, List.append_nil]; omega
            have HMZ := Lib.hid hMZ
            have HBZ := Lib.hid hBZ
            clear hMZ hBZ ho8 hg8 ha8
            obtain ⟨ZA, ZC, rfl, _, _, hZ⟩ := HMZ.out.reads (by have := hszb; omega)
            have hBz : Below w3.heap.size w3 w8 := by rw [← HHB.out]; exact HBZ.out
            have hB8 := below_then hB3 hB3.size hBz
            have cZ := apply_any A ZA D l (both ++ r.drop 0) t sc ZC tc hcap w8 (hl.kept hB8) hZ (ht.kept hB8) (hT.kept hB8)
            have hab := HBOTH.out (fun x hx => by
              obtain ⟨q, hq, rfl⟩ := List.getElem_of_mem hx
              have := HALL.out q hq
              simpa [List.getD_eq_getElem?_getD, List.getElem?_eq_getElem hq] using this)
            rw [HM0.out] at hab
            rw [← hab.1, ← hab.2, HBB.out, HEE.out] at cZ
            have hq1 : (er2 == er2) = true := beq_self_eq_true _
            clear hab
            go_wp2_with fail
            refine cZ.mono ?_
            rintro e w9 ⟨vz, rfl, hb9, hOz⟩
            obtain ⟨YA, YC, rfl, hIz⟩ := hOz.ints
            have hB9 := below_then hB8 hB8.size hb9
            go_wp2_with fail
            refine (same_self Ab YA b cb YC w9 ((hIb.kept hBz).kept hb9) hIz).mono ?_
            rintro e w10 ⟨rfl, hb10⟩
            go_wp2_with fail
            go_ret
            exact ⟨rfl, below_then hB9 hB9.size hb10⟩
          | some ad =>
            by_cases hdk : d = k
            · subst hdk
              go_wp2_with (at_builtin; refine push_all (.tmp 122) (.tmp 125) 23 43 (.agg #[.int .i64 0, .slice none 0 0]) 2 32 rfl rfl Tryd.underlying23 infoBind rfl (by decide) (by decide) hb u14 both.length (bcells both us) [] rfl hM.own _ _ _ rfl (fun h => by cases h) (by first | rfl | (have := HKE.out; simp; omega)) (fun h0 => by have := HKE.out; omega) (fun u hu => by cases hu) (by omega) hlo ?_; intro v8 w8 ho8 hg8 ha8)
              have hMZ := hM.push (r := r.drop (d)) (ur := []) (v' := v8) (w2 := w8) (by rw [HRD.out]; rfl) (by rw [HRD.out]; intro x hx; cases hx) (fun q u hu => by simp at hu) (by rw [show (r.drop d).length = 0 by rw [HRD.out]; rfl, show bcells (r.drop (d)) [] = [] by simp [bcells]]; first | exact ho8 | (have hz : r.length - d = 0 := (by omega); rw [hz] at ho8; exact ho8)) hg8 (ha8.imp id (fun h => ⟨_, h, Nat.le_refl _⟩))
              have hBZ : Below hb w3 w8 := hB.grown hg8 hlo (fun j hj => (hM.own.lt j hj).1)
              have hszb : (both ++ r.drop (d)).length ≤ 140737488355328 := by rw [HRD.out, List.append_nil]; omega
              have HMZ := Lib.hid hMZ
              have HBZ := Lib.hid hBZ
              clear hMZ hBZ ho8 hg8 ha8
              obtain ⟨ZA, ZC, rfl, _, _, hZ⟩ := HMZ.out.reads (by have := hszb; omega)
              have hBz : Below w3.heap.size w3 w8 := by rw [← HHB.out]; exact HBZ.out
              have hB8 := below_then hB3 hB3.size hBz
              have cZ := apply_any A ZA D l (both ++ r.drop d) t sc ZC tc hcap w8 (hl.kept hB8) hZ (ht.kept hB8) (hT.kept hB8)
              have hab := HBOTH.out (fun x hx => by
                obtain ⟨q, hq, rfl⟩ := List.getElem_of_mem hx
                have := HALL.out q hq
                simpa [List.getD_eq_getElem?_getD, List.getElem?_eq_getElem hq] using this)
              rw [HM0.out] at hab
              rw [← hab.1, ← hab.2, HBB.out, HEE.out] at cZ
              have hq1 : (er2 == er2) = true := beq_self_eq_true _
              clear hab
              go_wp2_with fail
              refine cZ.mono ?_
              rintro e w9 ⟨vz, rfl, hb9, hOz⟩
              obtain ⟨YA, YC, rfl, hIz⟩ := hOz.ints
              have hB9 := below_then hB8 hB8.size hb9
              go_wp2_with fail
              refine (same_self Ab YA b cb YC w9 ((hIb.kept hBz).kept hb9) hIz).mono ?_
              rintro e w10 ⟨rfl, hb10⟩
              go_wp2_with fail
              go_ret
              exact ⟨rfl, below_then hB9 hB9.size hb10⟩
            · go_wp2_with (at_builtin; refine push_all (.tmp 122) (.tmp 125) 23 43 (.agg #[.int .i64 0, .slice none 0 0]) 2 32 rfl rfl Tryd.underlying23 infoBind rfl (by decide) (by decide) hb u14 both.length (bcells both us) [] rfl hM.own _ (r.length - k) _ rfl (fun h => by cases h) (by first | rfl | (have := HKE.out; simp; omega)) (fun h0 => by have := HKE.out; omega) (fun u hu => by cases hu) hszb hlo ?_; intro v8 w8 ho8 hg8 ha8)
              have hMZ := hM.push (r := r.drop (k)) (ur := []) (v' := v8) (w2 := w8) (by rw [HRD.out]; rfl) (by rw [HRD.out]; intro x hx; cases hx) (fun q u hu => by simp at hu) (by rw [show (r.drop (k)).length = r.length - k by rw [HRD.out]; have := HKE.out; simp; omega, show bcells (r.drop (k)) [] = [] by simp [bcells]]; exact ho8) hg8 (ha8.imp id (fun h => ⟨_, h, Nat.le_refl _⟩))
              have hBZ : Below hb w3 w8 := hB.grown hg8 hlo (fun j hj => (hM.own.lt j hj).1)
              have hszb : (both ++ r.drop (k)).length ≤ 140737488355328 := by rw [HRD.out, List.append_nil]; omega
              have HMZ := Lib.hid hMZ
              have HBZ := Lib.hid hBZ
              clear hMZ hBZ ho8 hg8 ha8
              obtain ⟨ZA, ZC, rfl, _, _, hZ⟩ := HMZ.out.reads (by have := hszb; omega)
              have hBz : Below w3.heap.size w3 w8 := by rw [← HHB.out]; exact HBZ.out
              have hB8 := below_then hB3 hB3.size hBz
              have cZ := apply_any A ZA D l (both ++ r.drop k) t sc ZC tc hcap w8 (hl.kept hB8) hZ (ht.kept hB8) (hT.kept hB8)
              have hab := HBOTH.out (fun x hx => by
                obtain ⟨q, hq, rfl⟩ := List.getElem_of_mem hx
                have := HALL.out q hq
                simpa [List.getD_eq_getElem?_getD, List.getElem?_eq_getElem hq] using this)
              rw [HM0.out] at hab
              rw [← hab.1, ← hab.2, HBB.out, HEE.out] at cZ
              have hq1 : (er2 == er2) = true := beq_self_eq_true _
              clear hab
              go_wp2_with fail
              refine cZ.mono ?_
              rintro e w9 ⟨vz, rfl, hb9, hOz⟩
              obtain ⟨YA, YC, rfl, hIz⟩ := hOz.ints
              have hB9 := below_then hB8 hB8.size hb9
              go_wp2_with fail
              refine (same_self Ab YA b cb YC w9 ((hIb.kept hBz).kept hb9) hIz).mono ?_
              rintro e w10 ⟨rfl, hb10⟩
              go_wp2_with fail
              go_ret
              exact ⟨rfl, below_then hB9 hB9.size hb10⟩
  · have h0 := HAF he
    have hq1 : (er == 0) = false := beq_eq_false_iff_ne.2 he
    have hq2 : (er != 0) = true := bne_iff_ne.2 he
    subst h0
    obtain ⟨XA, XC, rfl, _⟩ := own_slice hOa.1
    clear hboth HAF HRT cA
    go_wp2_with fail
    go_ret
    exact ⟨rfl, hB2⟩
end Go.Proofs.YtldnokeejinebaaDoor
