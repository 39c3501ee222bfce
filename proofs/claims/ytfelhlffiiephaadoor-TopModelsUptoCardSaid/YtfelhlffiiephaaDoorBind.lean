/- Binds: what memory holds of them, copies of them, and whether two rows are one. Conditions: none. -/
import Derived.Test.YtfelhlffiiephaaDoorRow
import Derived.Deep.RegionLaw
import Derived.Deep.LoopGhost
set_option linter.unusedVariables false
set_option linter.unusedSimpArgs false
namespace Go.Proofs.YtfelhlffiiephaaDoor
open Go.RowKit Go.Lib

/-- The cells of a row of binds, whose rows are these values. -/
def bcells (s : List Bd) (us : List Value) : List Value := (s.zip us).flatMap fun p => [.int .i64 p.1.1, p.2]
theorem bcells_snoc (s : List Bd) (us : List Value) (h : us.length = s.length) (x : Bd) (u : Value) : bcells (s ++ [x]) (us ++ [u]) = bcells s us ++ [.int .i64 x.1, u] := by
  rw [bcells, List.zip_append h.symm]; simp [bcells]
theorem bcells_at : ∀ (s : List Bd) (us : List Value), us.length = s.length → ∀ k u, us[k]? = some u → (bcells s us)[k * 2]? = some (.int .i64 (s.getD k bd0).1) ∧ (bcells s us)[k * 2 + 1]? = some u
  | [], us, h, k, u, hu => by
    have : us = [] := List.eq_nil_of_length_eq_zero (by simpa using h)
    subst this; simp at hu
  | x :: s, [], h, k, u, hu => by simp at hu
  | x :: s, v :: us, h, k, u, hu => by
    cases k with
    | zero => simp at hu; subst hu; exact ⟨rfl, rfl⟩
    | succ k =>
      have e1 : (k + 1) * 2 = k * 2 + 1 + 1 := by omega
      rw [e1]
      exact bcells_at s us (by simpa using h) k u (by simpa using hu)
/-- Binds of the call's own. -/
structure CopiedBy (w : World) (base : Nat) (v : Value) (s : List Bd) (us : List Value) : Prop where
  len : us.length = s.length
  own : w.ownsRow base 40 2 v s.length (bcells s us)
  h32 : s.length * 32 ≤ 140737488355328
  hxs : ∀ x ∈ s, -9223372036854775808 ≤ x.1 ∧ x.1 ≤ 9223372036854775807
  rows : ∀ k u, us[k]? = some u → RowO w base u (s.getD k bd0).2 ∧ u.ownBlock ≠ v.ownBlock
def Copied (w : World) (base : Nat) (v : Value) (s : List Bd) : Prop := ∃ us, CopiedBy w base v s us
theorem CopiedBy.more {wr w1 w2 : World} {base : Nat} {v v' u : Value} {s : List Bd} {x : Bd} {us : List Value} (h : CopiedBy wr base v s us) (hg : wr.grownBy w1 none) (hu : RowO w1 base u x.2) (hlo : ∀ b, u.ownBlock = some b → wr.heap.size ≤ b) (hsome : u.ownBlock ≠ none)
    (hx : -9223372036854775808 ≤ x.1 ∧ x.1 ≤ 9223372036854775807) (hlen : (s.length + 1) * 32 ≤ 140737488355328) (hvn : v.ownBlock ≠ none)
    (ho : w2.ownsRow base 40 2 v' (s.length + 1) (bcells s us ++ [.int .i64 x.1, u])) (hg2 : w1.grownBy w2 v.ownBlock)
    (hat : v'.ownBlock = v.ownBlock ∨ ∃ g, v'.ownBlock = some g ∧ w1.heap.size ≤ g) : CopiedBy w2 base v' (s ++ [x]) (us ++ [u]) := by
  obtain ⟨hl, hown, h32, hxs, hrows⟩ := h
  have hown1 := hown.kept hg (.inr hvn)
  refine ⟨by simp [hl], ?_, by simpa using hlen, ?_, ?_⟩
  · rw [bcells_snoc s us hl]; simpa using ho
  · intro y hy
    rcases List.mem_append.1 hy with hy | hy
    · exact hxs y hy
    · simp at hy; subst hy; exact hx
  · have hnew : ∀ y : Value, (∀ b, y.ownBlock = some b → b < w1.heap.size) → y.ownBlock ≠ none → y.ownBlock ≠ v.ownBlock → y.ownBlock ≠ v'.ownBlock := fun y hy hn hne e => by
      rcases hat with hat | ⟨g, hat, hgl⟩
      · exact hne (e.trans hat)
      · have := hy g (e.trans hat); omega
    intro k y hy
    by_cases hk : k < us.length
    · rw [List.getElem?_append_left hk] at hy
      obtain ⟨r1, r2⟩ := hrows k y hy
      have e1 : (s ++ [x]).getD k bd0 = s.getD k bd0 := by simp [List.getD_eq_getElem?_getD, List.getElem?_append_left (show k < s.length by omega)]
      rw [e1]
      by_cases hyn : y.ownBlock = none
      · refine ⟨(r1.kept hg (.inl hyn)).kept hg2 (.inl hyn), fun e => ?_⟩
        rw [hyn] at e
        rcases hat with hat | ⟨g, hat, _⟩
        · exact hvn (hat.symm.trans e.symm)
        · rw [hat] at e; cases e
      · have r3 := r1.kept hg (.inr hyn)
        exact ⟨r3.kept hg2 (.inr r2), hnew y (fun b hb => (r3.1.lt b hb).2) hyn r2⟩
    · have hk2 : k = us.length := by
        have := (List.getElem?_eq_some_iff.1 hy).1
        simp at this; omega
      subst hk2
      rw [List.getElem?_append_right (Nat.le_refl _)] at hy
      simp at hy
      subst hy
      have e1 : (s ++ [x]).getD us.length bd0 = x := by rw [hl]; simp [List.getD_eq_getElem?_getD]
      rw [e1]
      have hne : u.ownBlock ≠ v.ownBlock := fun e => by
        cases hb : u.ownBlock with
        | none => exact hsome hb
        | some b =>
          have := hlo b hb
          have := (hown.lt b (e.symm.trans hb)).2
          omega
      exact ⟨hu.kept hg2 (.inr hne), hnew u (fun b hb => (hu.1.lt b hb).2) hsome hne⟩
theorem Copied.reads {w : World} {base : Nat} {v : Value} {s : List Bd} (h : Copied w base v s) : ∃ A c, v = .slice A s.length c ∧ s.length ≤ c ∧ (A = none → s.length = 0 ∧ c = 0) ∧ Binds w A s := by
  obtain ⟨us, hl, hown, h32, hxs, hrows⟩ := h
  obtain ⟨A, c, hv, hle, hn⟩ := own_le hown
  refine ⟨A, c, hv, hle, hn, by omega, fun h0 => ?_⟩
  obtain ⟨g, cap, hv', _, _⟩ := hown.form h0
  rw [hv] at hv'
  injection hv' with e1 e2 e3
  subst e1 e3
  refine ⟨g, 0, rfl, fun k hk => ?_⟩
  subst hv
  have hu := List.getElem?_eq_getElem (show k < us.length by omega)
  have hc := bcells_at s us hl k _ hu
  refine ⟨?_, hxs _ (getD_mem hk rfl), us[k]'(by omega), ?_, (hrows k _ hu).1.reads⟩
  · rw [Nat.zero_add, hown.cellAt (k * 2) (by omega)]; exact hc.1
  · rw [Nat.zero_add, hown.cellAt (k * 2 + 1) (by omega)]; exact hc.2
theorem infoBind : (Tryd.prog.info? 40).map (fun i => (i.zero, i.size, i.bytes)) = some (some (.agg #[.int .i64 0, .slice none 0 0]), 2, 32) := by kernel_rfl
theorem bind_cells (w : World) (x : Int) (u : Value) (T : TypeId) (n : Nat) (hn : n = w.heap.size) : ∀ j y, [Value.int .i64 x, u][j]? = some y → (w.alloc (.cells #[.int .i64 x, u] T)).cell? ⟨n, 0 + j, none⟩ = some y := by
  intro j y hj
  subst hn
  rw [World.cell?_alloc_new]
  cases j with
  | zero => simpa using hj
  | succ j => cases j with
    | zero => simpa using hj
    | succ j => simp at hj
theorem pair2_one (x : Int) (u : Value) (h : u.oneCell' = true) : ∀ y ∈ [Value.int .i64 x, u], y.oneCell' = true := by intro y hy; simp at hy; rcases hy with rfl | rfl; rfl; exact h
theorem copied_fin {w0 wr w1 w2 : World} {hb k g cap : Nat} {v : Value} {s : List Bd} {us : List Value} {x : Int} {t : List Int} {A1 : Option Addr} {c1 : Nat} {o : Obj}
    (hCB : CopiedBy wr hb v (s.take k) us) (htk : (s.take k).length = k) (hlt : k < s.length) (hx : s.getD k bd0 = (x, t)) (hB : Below hb w0 wr) (hHs : hb ≤ wr.heap.size)
    (hW1 : wr.grownBy w1 none) (ho1 : w1.ownsRow hb 3 1 (.slice A1 t.length c1) t.length (icells t)) (h8 : t.length * 8 ≤ 140737488355328) (hti : ∀ x ∈ t, -9223372036854775808 ≤ x ∧ x ≤ 9223372036854775807)
    (hn : (Value.slice A1 t.length c1).ownBlock ≠ none ∧ ∀ b, (Value.slice A1 t.length c1).ownBlock = some b → wr.heap.size ≤ b) (hxb : -9223372036854775808 ≤ x ∧ x ≤ 9223372036854775807) (h32 : s.length * 32 ≤ 140737488355328)
    (hvne : v.ownBlock ≠ none) (ho2 : w2.ownsRow hb 40 2 (.slice (some ⟨g, 0, none⟩) (k + 1) cap) (k + 1) (bcells (s.take k) us ++ [.int .i64 x, .slice A1 t.length c1])) (hg2 : (w1.alloc o).grownBy w2 v.ownBlock)
    (ha2 : v.ownBlock = some g ∨ g = (w1.alloc o).heap.size) : Below hb w0 w2 ∧ Copied w2 hb (.slice (some ⟨g, 0, none⟩) (k + 1) cap) (s.take (k + 1)) := by
  have hW2 : wr.grownBy (w1.alloc o) none := hW1.trans (World.grownBy_alloc _ _ _)
  constructor
  · exact (hB.grown hW2 hHs (fun k hk => by cases hk)).grown hg2 (Nat.le_trans hHs hW2.size) (fun j hj => (hCB.own.lt j hj).1)
  · refine ⟨us ++ [.slice A1 t.length c1], ?_⟩
    rw [take_succ' s bd0 hlt, hx]
    have hat : (Value.slice (some ⟨g, 0, none⟩) (k + 1) cap).ownBlock = v.ownBlock ∨ ∃ g', (Value.slice (some ⟨g, 0, none⟩) (k + 1) cap).ownBlock = some g' ∧ (w1.alloc o).heap.size ≤ g' := by
      rcases ha2 with h | h
      · exact .inl h.symm
      · exact .inr ⟨g, rfl, by omega⟩
    refine CopiedBy.more hCB hW2 ⟨ho1.alloc _, h8, hti⟩ hn.2 hn.1 hxb (by rw [htk]; omega) hvne ?_ hg2 hat
    rw [htk]; exact ho2
end Go.Proofs.YtfelhlffiiephaaDoor
