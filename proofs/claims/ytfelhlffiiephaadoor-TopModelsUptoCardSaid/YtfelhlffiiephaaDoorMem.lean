/- What memory holds, in words of lists: rows of numbers, of pairs, and that they are kept while other blocks are made. Conditions: none. -/
import Derived.Below
import Derived.Deep.Draws
import Derived.WalkKit
import Derived.Lib.Hide
import Derived.Test.YtfelhlffiiephaaDoorRegion
import Derived.Deep.AppendLies
import Derived.Maps.AppendAt
import Derived.Laws.AppendOwnNone
set_option linter.unusedVariables false
namespace Go.Proofs.YtfelhlffiiephaaDoor
open Go.RowKit

theorem cell_kept {w w' : World} (h : Below w.heap.size w w') {a : Addr} {v : Value} (hc : w.cell? a = some v) : w'.cell? a = some v := (h.cell (World.block_lt_of_cell? w a hc)).trans hc
theorem cell_kept' {B : Nat} {w w' : World} (h : Below B w w') {a : Addr} {v : Value} (hb : a.block < B) (hc : w.cell? a = some v) : w'.cell? a = some v := (h.cell hb).trans hc
theorem below_then {B : Nat} {w w1 w2 : World} (h : Below B w w1) (hB : B ≤ w1.heap.size) (k : Below w1.heap.size w1 w2) : Below B w w2 :=
  h.trans ⟨k.os, k.tape, k.output, k.size, fun i hi => k.block i (Nat.lt_of_lt_of_le hi hB)⟩
theorem below_alloc {B : Nat} {w W : World} (h : Below B w W) (hB : B ≤ W.heap.size) (o : Obj) : Below B w (W.alloc o) := h.alloc hB o
theorem below_draw {B : Nat} {w W : World} (h : Below B w W) : Below B w W.drew := ⟨h.os, h.tape, h.output, h.size, h.block⟩
theorem below_drawN {B : Nat} {w W : World} (h : Below B w W) (n : Nat) : Below B w (W.drewN n) := ⟨h.os, h.tape, h.output, h.size, h.block⟩
theorem below_set {B : Nat} {w W : World} (h : Below B w W) {p : Addr} (hp : B ≤ p.block) (v : Value) : Below B w (W.setCell p v) := h.setCell hp v
theorem below_alloc0 (w : World) (o : Obj) : Below w.heap.size w (w.alloc o) := (Below.refl _ _).alloc (Nat.le_refl _) o

theorem set_far {w : World} {p q : Addr} {v : Value} (h : p ≠ q) : (w.setCell p v).cell? q = w.cell? q := by
  first | exact World.cell?_setCell_other w p q v h | exact World.cell?_setCell_other _ _ h | exact World.cell?_setCell_other _ _ _ _ h | exact World.cell?_setCell_other h
theorem set_same {w : World} {p : Addr} {v u : Value} (h : w.cell? p = some u) : (w.setCell p v).cell? p = some v := World.cell?_setCell_same' w p v (by rw [h]; rfl)
theorem set_off {w : World} {b i j : Nat} {v : Value} (h : i ≠ j) : (w.setCell ⟨b, i, none⟩ v).cell? ⟨b, j, none⟩ = w.cell? ⟨b, j, none⟩ := set_far (by intro e; cases e; exact h rfl)
theorem set_blk {w : World} {b c i j : Nat} {v : Value} (h : b ≠ c) : (w.setCell ⟨b, i, none⟩ v).cell? ⟨c, j, none⟩ = w.cell? ⟨c, j, none⟩ := set_far (by intro e; cases e; exact h rfl)
theorem heap_set_far {w : World} {p : Addr} {v : Value} {j : Nat} (h : j ≠ p.block) : (w.setCell p v).heap[j]? = w.heap[j]? := by
  unfold World.setCell
  simp only [Array.getElem?_modify]
  rw [if_neg (fun e => h e.symm)]
/-- All that lies above a world. -/
abbrev Over (W : World) : World → Prop := fun w' => Below W.heap.size W w'
instance (W : World) : Nonempty (Ext (Over W)) := ⟨⟨W, Below.refl _ _⟩⟩
theorem Over.refl (W : World) : Over W W.drew := below_draw (Below.refl _ _)
theorem Over.cell {W : World} {a : Addr} {v : Value} (h : W.cell? a = some v) : ∀ z : Ext (Over W), z.val.cell? a = some v := fun z => cell_kept z.ok h
/-- A callee that only makes memory, met in such a world. -/
theorem Calls.over {P : Program} {f : FuncId} {args : Array Value} {W : World} {z : Ext (Over W)} {v : Value}
    (h : Calls P f args z.val fun e w' => e = .returned v ∧ Below z.val.heap.size z.val w') : Calls P f args z.val fun e w'' => e = .returned v ∧ ∃ y : Ext (Over W), w'' = y.val :=
  h.mono fun _ _ ⟨he, hb⟩ => ⟨he, ⟨⟨_, below_then z.ok z.ok.size hb⟩, rfl⟩⟩

/-! ### append of one element to a row of the call's own -/
section
variable {P : Program} {w : World} {o : Oper} {a : Act}
theorem step_push {ops : Array Oper} {K : Act → World → Prop} {Q : Exit → Act → World → Prop} {E : Prop} (s x : Operand) (t e : TypeId) (z : Value) (size bytes : Nat) (hgd : o.guard = none)
    (ho : o.op = .call { callee := .builtin .append, args := #[s, x], argTypes := #[t, t] }) (ht : P.underlying t = some (.slice e))
    (hinfo : (P.info? e).map (fun i => (i.zero, i.size, i.bytes)) = some (some z, size, bytes)) (hz : z.cells.size = size) (hsz : 0 < size) (hb0 : 0 < bytes)
    (base : Nat) (v : Value) (n : Nat) (xs news : List Value) (hs : a.eval s = v) (hown : w.ownsRow base e size v n xs) (b off c : Nat) (hx : a.eval x = .slice (some ⟨b, off, none⟩) 1 c)
    (hl : news.length = size) (hnews : ∀ j u, news[j]? = some u → w.cell? ⟨b, off + j, none⟩ = some u) (h1 : ∀ u ∈ news, u.oneCell' = true) (hbytes : (n + 1) * bytes ≤ 140737488355328) (hbase : base ≤ w.heap.size)
    (h : ∀ g cap w', w'.ownsRow base e size (.slice (some ⟨g, 0, none⟩) (n + 1) cap) (n + 1) (xs ++ news) → w.grownBy w' v.ownBlock → (v.ownBlock = some g ∨ g = w.heap.size) → g < w'.heap.size → K (a.put o.dst (.slice (some ⟨g, 0, none⟩) (n + 1) cap)) w') :
    if Region.wanted o (yielded ops a.tmps) = true then Oper.wp P o a w K Q else E := by
  obtain ⟨i, hi, hzz⟩ := Option.map_eq_some_iff.1 hinfo
  simp only [Prod.mk.injEq] at hzz
  obtain ⟨hz0, hz1, hz2⟩ := hzz
  have hlen : n + 1 ≤ 140737488355328 := Nat.le_trans (Nat.le_mul_of_pos_right _ hb0) hbytes
  refine step_append_lies (w := w) hgd s x t ho base e i z size bytes ht hi hz0 hz1 hz2 hz hsz v n xs hs hown ⟨b, off, none⟩ 1 c news hx (by omega) (fun j u hj => ?_) h1 (by omega) (by simp only [maxLen]; omega) hbytes hbase w.heap.size rfl h
  have := hnews j u hj
  rw [Addr.add]; split
  · rename_i h0; subst h0; exact this
  · exact this
theorem push {ops : Array Oper} {rest : List Oper} {Q : Exit → Act → World → Prop} (s x : Operand) (t e : TypeId) (z : Value) (size bytes : Nat) (hgd : o.guard = none)
    (ho : o.op = .call { callee := .builtin .append, args := #[s, x], argTypes := #[t, t] }) (ht : P.underlying t = some (.slice e))
    (hinfo : (P.info? e).map (fun i => (i.zero, i.size, i.bytes)) = some (some z, size, bytes)) (hz : z.cells.size = size) (hsz : 0 < size) (hb0 : 0 < bytes)
    (base : Nat) (v : Value) (n : Nat) (xs news : List Value) (hs : a.eval s = v) (hown : w.ownsRow base e size v n xs) (b off c : Nat) (hx : a.eval x = .slice (some ⟨b, off, none⟩) 1 c)
    (hl : news.length = size) (hnews : ∀ j u, news[j]? = some u → w.cell? ⟨b, off + j, none⟩ = some u) (h1 : ∀ u ∈ news, u.oneCell' = true) (hbytes : (n + 1) * bytes ≤ 140737488355328) (hbase : base ≤ w.heap.size)
    (h : ∀ g cap w', w'.ownsRow base e size (.slice (some ⟨g, 0, none⟩) (n + 1) cap) (n + 1) (xs ++ news) → w.grownBy w' v.ownBlock → (v.ownBlock = some g ∨ g = w.heap.size) → g < w'.heap.size → wpList P ops Q rest (a.put o.dst (.slice (some ⟨g, 0, none⟩) (n + 1) cap)) w') :
    wpList P ops Q (o :: rest) a w := by
  obtain ⟨i, hi, hzz⟩ := Option.map_eq_some_iff.1 hinfo
  simp only [Prod.mk.injEq] at hzz
  obtain ⟨hz0, hz1, hz2⟩ := hzz
  have hlen : n + 1 ≤ 140737488355328 := Nat.le_trans (Nat.le_mul_of_pos_right _ hb0) hbytes
  refine wpList_append_lies w hgd s x t ho base e i z size bytes ht hi hz0 hz1 hz2 hz hsz v n xs hs hown ⟨b, off, none⟩ 1 c news hx (by omega) (fun j u hj => ?_) h1 (by omega) (by simp only [maxLen]; omega) hbytes hbase w.heap.size rfl h
  have := hnews j u hj
  rw [Addr.add]; split
  · rename_i h0; subst h0; exact this
  · exact this
end
/-- The one element of an append, in the block that was made for it. -/
theorem var_cells (w : World) (y : Value) (T : TypeId) (n : Nat) (hn : n = w.heap.size) : ∀ j u, [y][j]? = some u → (w.alloc (.cells #[y] T)).cell? ⟨n, 0 + j, none⟩ = some u := by
  intro j u hj
  subst hn
  rw [World.cell?_alloc_new]
  cases j with
  | zero => simpa using hj
  | succ j => simp at hj
theorem grown_cell {w w' : World} {row : Option Nat} (h : w.grownBy w' row) {a : Addr} {v : Value} (hne : some a.block ≠ row) (hc : w.cell? a = some v) : w'.cell? a = some v := h.cell hc hne
theorem grown_below {B : Nat} {w w1 w2 : World} {row : Option Nat} (h : Below B w w1) (hB : B ≤ w1.heap.size) (hg : w1.grownBy w2 row) (hr : ∀ k, row = some k → B ≤ k) : Below B w w2 := h.grown hg hB hr

/-- A slice of pairs that is read. -/
def Pairs (w : World) (A : Option Addr) (l : List (Int × Int)) : Prop :=
  l.length ≤ 9223372036854775807 ∧ (0 < l.length → ∃ b off, A = some ⟨b, off, none⟩ ∧ ∀ k, k < l.length →
    w.cell? ⟨b, off + k * 2, none⟩ = some (.int .i64 (l.getD k (0, 0)).1) ∧ w.cell? ⟨b, off + k * 2 + 1, none⟩ = some (.int .i64 (l.getD k (0, 0)).2))
theorem Pairs.kept' {B : Nat} {w w' : World} {A : Option Addr} {l : List (Int × Int)} (h : Pairs w A l) (hb : Below B w w') (hA : ∀ a, A = some a → a.block < B) : Pairs w' A l :=
  ⟨h.1, fun h0 => by
    obtain ⟨b, off, rfl, hc⟩ := h.2 h0
    have := hA _ rfl
    exact ⟨b, off, rfl, fun k hk => ⟨cell_kept' hb this (hc k hk).1, cell_kept' hb this (hc k hk).2⟩⟩⟩
theorem Pairs.kept {w w' : World} {A : Option Addr} {l : List (Int × Int)} (h : Pairs w A l) (hb : Below w.heap.size w w') : Pairs w' A l :=
  ⟨h.1, fun h0 => by
    obtain ⟨b, off, rfl, hc⟩ := h.2 h0
    exact ⟨b, off, rfl, fun k hk => ⟨cell_kept hb (hc k hk).1, cell_kept hb (hc k hk).2⟩⟩⟩
theorem Pairs.at_ {w : World} {A : Option Addr} {l : List (Int × Int)} (h : Pairs w A l) {k : Nat} (hk : k < l.length) :
    ∃ b off x y, A = some ⟨b, off, none⟩ ∧ l.getD k (0, 0) = (x, y) ∧ w.cell? ⟨b, off + k * 2, none⟩ = some (.int .i64 x) ∧ w.cell? ⟨b, off + k * 2 + 1, none⟩ = some (.int .i64 y) := by
  obtain ⟨b, off, rfl, hc⟩ := h.2 (by omega)
  exact ⟨b, off, _, _, rfl, rfl, (hc k hk).1, (hc k hk).2⟩
theorem take_succ' {α : Type} (l : List α) (d : α) {k : Nat} (hk : k < l.length) : l.take (k + 1) = l.take k ++ [l.getD k d] := by
  rw [List.take_succ_eq_append_getElem hk]; simp [List.getD_eq_getElem?_getD, List.getElem?_eq_getElem hk]
theorem getD_mem {α : Type} {l : List α} {d x : α} {k : Nat} (hk : k < l.length) (h : l.getD k d = x) : x ∈ l := by
  rw [List.getD_eq_getElem?_getD, List.getElem?_eq_getElem hk] at h
  have := List.getElem_mem hk
  rw [show l[k] = x from h] at this
  exact this
/-! ### append of a whole row that is read -/
section
variable {P : Program} {w : World} {o : Oper} {a : Act}
theorem push_all {ops : Array Oper} {rest : List Oper} {Q : Exit → Act → World → Prop} (s x : Operand) (t e : TypeId) (z : Value) (size bytes : Nat) (hgd : o.guard = none)
    (ho : o.op = .call { callee := .builtin .append, args := #[s, x], argTypes := #[t, t] }) (ht : P.underlying t = some (.slice e))
    (hinfo : (P.info? e).map (fun i => (i.zero, i.size, i.bytes)) = some (some z, size, bytes)) (hz : z.cells.size = size) (hsz : 0 < size) (hb0 : 0 < bytes)
    (base : Nat) (v : Value) (n : Nat) (xs news : List Value) (hs : a.eval s = v) (hown : w.ownsRow base e size v n xs) (A : Option Addr) (m c : Nat) (hx : a.eval x = .slice A m c)
    (hA : A = none → m = 0 ∧ c = 0) (hl : news.length = m * size) (hnews : 0 < m → ∃ b off, A = some ⟨b, off, none⟩ ∧ ∀ j u, news[j]? = some u → w.cell? ⟨b, off + j, none⟩ = some u)
    (h1 : ∀ u ∈ news, u.oneCell' = true) (hbytes : (n + m) * bytes ≤ 140737488355328) (hbase : base ≤ w.heap.size)
    (h : ∀ v' w', w'.ownsRow base e size v' (n + m) (xs ++ news) → w.grownBy w' v.ownBlock → (v'.ownBlock = v.ownBlock ∨ v'.ownBlock = some w.heap.size) → wpList P ops Q rest (a.put o.dst v') w') :
    wpList P ops Q (o :: rest) a w := by
  obtain ⟨i, hi, hzz⟩ := Option.map_eq_some_iff.1 hinfo
  simp only [Prod.mk.injEq] at hzz
  obtain ⟨hz0, hz1, hz2⟩ := hzz
  have hlen : n + m ≤ 140737488355328 := Nat.le_trans (Nat.le_mul_of_pos_right _ hb0) hbytes
  cases A with
  | none =>
    obtain ⟨rfl, rfl⟩ := hA rfl
    obtain rfl : news = [] := List.eq_nil_of_length_eq_zero (by omega)
    refine wpList_append_own_none hgd s x t ho base e i size ht hi v n xs hs hown hx ?_
    exact h v w (by simpa using hown) (World.grownBy.refl _ _) (.inl rfl)
  | some ad =>
    refine wpList_append_own_at w hgd s x t ho base e i z size bytes ht hi hz0 hz1 hz2 hz hsz v n xs hs hown ad m c news hx hl (fun j u hj => ?_) h1 (by simp only [maxLen]; omega) hbytes hbase (fun v' w' g1 g2 _ g4 => h v' w' g1 g2 g4)
    have hm : 0 < m := by
      rcases Nat.eq_zero_or_pos m with h0 | h0
      · subst h0
        have : news = [] := List.eq_nil_of_length_eq_zero (by omega)
        rw [this] at hj; simp at hj
      · exact h0
    obtain ⟨b, off, he, hc⟩ := hnews hm
    injection he with he
    subst he
    have := hc j u hj
    rw [Addr.add]; split
    · rename_i h0; subst h0; exact this
    · exact this
end
theorem own_slice {w : World} {base n : Nat} {e : TypeId} {size : Nat} {v : Value} {xs : List Value} (h : w.ownsRow base e size v n xs) : ∃ A c, v = .slice A n c ∧ (A = none → n = 0 ∧ c = 0) := by
  rcases h.2 with ⟨rfl, rfl⟩ | ⟨g, cap, cur, rfl, _⟩
  · exact ⟨none, 0, rfl, fun _ => ⟨rfl, rfl⟩⟩
  · exact ⟨_, cap, rfl, fun h => by cases h⟩
theorem own_base {w : World} {base : Nat} {e : TypeId} {size n : Nat} {v : Value} {xs : List Value} (h : w.ownsRow base e size v n xs) (k : Nat) (hk : v.ownBlock = some k) : base ≤ k := (h.lt k hk).1
theorem own_empty (w : World) (e : TypeId) (size : Nat) (b : Nat) (hb : b = w.heap.size) : (w.alloc (.cells #[] e)).ownsRow b e size (.slice (some ⟨b, 0, none⟩) 0 0) 0 [] := by
  subst hb
  exact ⟨by simp, .inr ⟨_, 0, #[], rfl, Nat.le_refl _, heap_alloc_new _ _, Nat.le_refl _, by simp [maxLen], by simp, by simp⟩⟩
theorem own_kept {w w1 : World} {base : Nat} {e : TypeId} {size n : Nat} {v : Value} {xs : List Value} (h : w.ownsRow base e size v n xs) (hb : Below w.heap.size w w1) : w1.ownsRow base e size v n xs :=
  h.kept (row := none) ⟨hb.os, hb.tape, hb.output, hb.size, fun i hi _ => hb.block i hi⟩ (by cases v.ownBlock <;> simp)

/-- The cells of a row of pairs. -/
def pcells (l : List (Int × Int)) : List Value := l.flatMap fun p => [.int .i64 p.1, .int .i64 p.2]
theorem pcells_length (l : List (Int × Int)) : (pcells l).length = l.length * 2 := by
  induction l with
  | nil => rfl
  | cons p l ih => simp only [pcells, List.flatMap_cons, List.length_append, List.length_cons, List.length_nil] at *; omega
theorem pcells_append (l m : List (Int × Int)) : pcells (l ++ m) = pcells l ++ pcells m := by simp [pcells]
theorem pcells_at (l : List (Int × Int)) : ∀ k, k < l.length → (pcells l)[k * 2]? = some (.int .i64 (l.getD k (0, 0)).1) ∧ (pcells l)[k * 2 + 1]? = some (.int .i64 (l.getD k (0, 0)).2) := by
  induction l with
  | nil => intro k hk; simp at hk
  | cons p l ih =>
    intro k hk
    cases k with
    | zero => exact ⟨rfl, rfl⟩
    | succ k =>
      have := ih k (by simpa using hk)
      have e1 : (k + 1) * 2 = k * 2 + 1 + 1 := by omega
      rw [e1]
      exact this
theorem pcells_one (l : List (Int × Int)) : ∀ u ∈ pcells l, u.oneCell' = true := by
  intro u hu
  obtain ⟨p, _, hp⟩ := List.mem_flatMap.1 hu
  simp only [List.mem_cons, List.not_mem_nil, or_false] at hp
  rcases hp with rfl | rfl <;> rfl
theorem Pairs.cells {w : World} {A : Option Addr} {l : List (Int × Int)} (h : Pairs w A l) : 0 < l.length → ∃ b off, A = some ⟨b, off, none⟩ ∧ ∀ j u, (pcells l)[j]? = some u → w.cell? ⟨b, off + j, none⟩ = some u := by
  intro h0
  obtain ⟨b, off, hA, hc⟩ := h.2 h0
  refine ⟨b, off, hA, fun j u hj => ?_⟩
  have hlt : j < l.length * 2 := by
    have := (List.getElem?_eq_some_iff.1 hj).1
    rw [pcells_length] at this; exact this
  have hk := pcells_at l (j / 2) (by omega)
  have hc' := hc (j / 2) (by omega)
  rcases Nat.mod_two_eq_zero_or_one j with e | e
  · have ej : j = j / 2 * 2 := by omega
    rw [ej, hk.1] at hj
    rw [ej, hc'.1]; exact hj
  · have ej : j = j / 2 * 2 + 1 := by omega
    rw [ej, hk.2] at hj
    rw [ej, ← Nat.add_assoc, hc'.2]; exact hj
theorem own_pairs {w : World} {base : Nat} {e : TypeId} {v : Value} {l : List (Int × Int)} (h : w.ownsRow base e 2 v l.length (pcells l)) : ∃ A c, v = .slice A l.length c ∧ (A = none → l.length = 0 ∧ c = 0) ∧ Pairs w A l := by
  rcases Nat.eq_zero_or_pos l.length with h0 | h0
  · obtain ⟨A, c, hv, hn⟩ := own_slice h
    exact ⟨A, c, hv, hn, by omega, fun h => by omega⟩
  · obtain ⟨g, cap, hv, _, _⟩ := h.form h0
    have hm : l.length ≤ 9223372036854775807 := by
      rcases h.2 with ⟨_, h1⟩ | ⟨g', cap', cur, he, _, _, h1, h2, h3, _⟩
      · omega
      · simp only [maxLen] at h2
        omega
    subst hv
    refine ⟨_, cap, rfl, (fun h => by cases h), hm, fun _ => ⟨g, 0, rfl, fun k hk => ?_⟩⟩
    have hp := pcells_at l k hk
    constructor
    · rw [Nat.zero_add, h.cellAt (k * 2) (by omega)]; exact hp.1
    · rw [Nat.zero_add, h.cellAt (k * 2 + 1) (by omega)]; exact hp.2
/-- What is read lives on while a row of the call's own, made later, is written. -/
theorem Pairs.grown {W w w' : World} {A : Option Addr} {l : List (Int × Int)} {base n : Nat} {e : TypeId} {size : Nat} {v : Value} {xs : List Value} (h : Pairs W A l) (hb : Below W.heap.size W w) (hg : w.grownBy w' v.ownBlock) (ho : w.ownsRow base e size v n xs) (hbase : W.heap.size ≤ base) : Pairs w' A l :=
  h.kept (hb.grown hg hb.size (fun k hk => Nat.le_trans hbase (own_base ho k hk)))
end Go.Proofs.YtfelhlffiiephaaDoor
