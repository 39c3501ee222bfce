/- Rows of numbers: as values that are read, and the call's own; copies. Conditions: none. -/
import Derived.Test.YtfelhlffiiephaaDoorTerm
import Derived.Deep.RegionLaw
import Derived.Deep.LoopGhost
set_option linter.unusedVariables false
set_option linter.unusedSimpArgs false
namespace Go.Proofs.YtfelhlffiiephaaDoor
open Go.RowKit Go.Lib

/-- A row of numbers, as a value that is read. -/
def RowV (w : World) (v : Value) (t : List Int) : Prop :=
  ∃ A c, v = .slice A t.length c ∧ t.length ≤ c ∧ (A = none → t.length = 0 ∧ c = 0) ∧ t.length * 8 ≤ 140737488355328 ∧ Ints w A t
theorem RowV.kept {w w' : World} {v : Value} {t : List Int} (h : RowV w v t) (hb : Below w.heap.size w w') : RowV w' v t := by
  obtain ⟨A, c, h1, h2, h3, h4, h5⟩ := h
  exact ⟨A, c, h1, h2, h3, h4, h5.kept hb⟩
abbrev Bd := Int × List Int
abbrev bd0 : Bd := (0, [])
def Binds (w : World) (A : Option Addr) (s : List Bd) : Prop :=
  s.length ≤ 140737488355328 ∧ (0 < s.length → ∃ b off, A = some ⟨b, off, none⟩ ∧ ∀ k, k < s.length →
    w.cell? ⟨b, off + k * 2, none⟩ = some (.int .i64 (s.getD k bd0).1) ∧ (-9223372036854775808 ≤ (s.getD k bd0).1 ∧ (s.getD k bd0).1 ≤ 9223372036854775807) ∧
    ∃ u, w.cell? ⟨b, off + k * 2 + 1, none⟩ = some u ∧ RowV w u (s.getD k bd0).2)
theorem Binds.kept {w w' : World} {A : Option Addr} {s : List Bd} (h : Binds w A s) (hb : Below w.heap.size w w') : Binds w' A s :=
  ⟨h.1, fun h0 => by
    obtain ⟨b, off, rfl, hc⟩ := h.2 h0
    exact ⟨b, off, rfl, fun k hk => by
      obtain ⟨h1, h2, u, h3, h4⟩ := hc k hk
      exact ⟨cell_kept hb h1, h2, u, cell_kept hb h3, h4.kept hb⟩⟩⟩
theorem Binds.at_ {w : World} {A : Option Addr} {s : List Bd} (h : Binds w A s) {k : Nat} (hk : k < s.length) :
    ∃ b off x t B c, A = some ⟨b, off, none⟩ ∧ s.getD k bd0 = (x, t) ∧ -9223372036854775808 ≤ x ∧ x ≤ 9223372036854775807 ∧ w.cell? ⟨b, off + k * 2, none⟩ = some (.int .i64 x) ∧
      w.cell? ⟨b, off + k * 2 + 1, none⟩ = some (.slice B t.length c) ∧ t.length ≤ c ∧ (B = none → t.length = 0 ∧ c = 0) ∧ t.length * 8 ≤ 140737488355328 ∧ Ints w B t := by
  obtain ⟨b, off, rfl, hc⟩ := h.2 (by omega)
  obtain ⟨h1, h2, u, h3, B, c, rfl, h4, h5, h6, h7⟩ := hc k hk
  exact ⟨b, off, _, _, B, c, rfl, rfl, h2.1, h2.2, h1, h3, h4, h5, h6, h7⟩

theorem rows_eq (t u : List Int) (h : t.length = u.length) (hk : ∀ k, k < t.length → t.getD k 0 = u.getD k 0) : t = u := by
  apply List.ext_getElem h
  intro i h1 h2
  have := hk i h1
  simpa [List.getD_eq_getElem?_getD, List.getElem?_eq_getElem h1, List.getElem?_eq_getElem h2] using this

/-! ### copies -/
section
variable {P : Program} {w : World} {o : Oper} {a : Act}
/-- append of a whole row that is read, at a step of a region that draws. -/
theorem step_push_all {ops : Array Oper} {K : Act → World → Prop} {Q : Exit → Act → World → Prop} {E : Prop} (s x : Operand) (t e : TypeId) (z : Value) (size bytes : Nat) (hgd : o.guard = none)
    (ho : o.op = .call { callee := .builtin .append, args := #[s, x], argTypes := #[t, t] }) (ht : P.underlying t = some (.slice e))
    (hinfo : (P.info? e).map (fun i => (i.zero, i.size, i.bytes)) = some (some z, size, bytes)) (hz : z.cells.size = size) (hsz : 0 < size) (hb0 : 0 < bytes)
    (base : Nat) (v : Value) (n : Nat) (xs news : List Value) (hs : a.eval s = v) (hown : w.ownsRow base e size v n xs) (A : Option Addr) (m c : Nat) (hx : a.eval x = .slice A m c)
    (hA : A = none → m = 0 ∧ c = 0) (hl : news.length = m * size) (hnews : 0 < m → ∃ b off, A = some ⟨b, off, none⟩ ∧ ∀ j u, news[j]? = some u → w.cell? ⟨b, off + j, none⟩ = some u)
    (h1 : ∀ u ∈ news, u.oneCell' = true) (hbytes : (n + m) * bytes ≤ 140737488355328) (hbase : base ≤ w.heap.size)
    (h : ∀ v' w', w'.ownsRow base e size v' (n + m) (xs ++ news) → w.grownBy w' v.ownBlock → (v'.ownBlock = v.ownBlock ∨ v'.ownBlock = some w.heap.size) → K (a.put o.dst v') w') :
    if Region.wanted o (yielded ops a.tmps) = true then Oper.wp P o a w K Q else E := by
  obtain ⟨i, hi, hzz⟩ := Option.map_eq_some_iff.1 hinfo
  simp only [Prod.mk.injEq] at hzz
  obtain ⟨hz0, hz1, hz2⟩ := hzz
  have hlen : n + m ≤ 140737488355328 := Nat.le_trans (Nat.le_mul_of_pos_right _ hb0) hbytes
  have hw : Region.wanted o (yielded ops a.tmps) = true := by simp [Region.wanted, hgd]
  rw [if_pos hw]
  cases A with
  | none =>
    obtain ⟨rfl, rfl⟩ := hA rfl
    obtain rfl : news = [] := List.eq_nil_of_length_eq_zero (by omega)
    have hrun := run_append_owned_none (P := P) (w := w) base t o.type e i size ht hi v n xs hown
    unfold Oper.wp
    simp [execOp, ho, resolve, invoke, builtin, hs, hx, hrun, Result.andThen]
    exact h v w (by simpa using hown) (World.grownBy.refl _ _) (.inl rfl)
  | some ad =>
    have hm : ∀ j u, news[j]? = some u → w.cell? (ad.add j) = some u := fun j u hj => by
      have hm : 0 < m := by
        rcases Nat.eq_zero_or_pos m with h0 | h0
        · subst h0
          have : news = [] := List.eq_nil_of_length_eq_zero (by omega)
          rw [this] at hj; simp at hj
        · exact h0
      obtain ⟨b, off, he, hc⟩ := hnews hm
      injection he with he
      subst he
      have := hc j u hj
      rw [Addr.add]; split
      · rename_i h0; subst h0; exact this
      · exact this
    obtain ⟨v', w', hr, h2, h3, _, h5⟩ := run_append_own_at (P := P) w base t o.type e i z size bytes ht hi hz0 hz1 hz2 hz hsz v n xs hown ad m c news hl hm h1 (by simp only [maxLen]; omega) hbytes hbase
    unfold Oper.wp execOp
    simp only [ho, resolve, invoke, builtin, Sem.run_bind, Sem.run_pure, Result.andThen_ok, List.map_toArray, List.map_cons, List.map_nil, hs, hx, hr]
    exact h v' w' h2 h3 h5
end
/-- The cells of a row of numbers. -/
def icells (t : List Int) : List Value := t.map (.int .i64)
theorem icells_length (t : List Int) : (icells t).length = t.length * 1 := by simp [icells]
theorem icells_append (t u : List Int) : icells (t ++ u) = icells t ++ icells u := by simp [icells]
theorem icells_one (t : List Int) : ∀ u ∈ icells t, u.oneCell' = true := by
  intro u hu
  obtain ⟨x, _, rfl⟩ := List.mem_map.1 hu
  rfl
theorem icells_at (t : List Int) (k : Nat) (hk : k < t.length) : (icells t)[k]? = some (.int .i64 (t.getD k 0)) := by
  simp [icells, List.getD_eq_getElem?_getD, List.getElem?_eq_getElem hk]
theorem Ints.cells {w : World} {A : Option Addr} {t : List Int} (h : Ints w A t) : 0 < t.length → ∃ b off, A = some ⟨b, off, none⟩ ∧ ∀ j u, (icells t)[j]? = some u → w.cell? ⟨b, off + j, none⟩ = some u := by
  intro h0
  obtain ⟨b, off, hA, hc⟩ := h.2.2 h0
  refine ⟨b, off, hA, fun j u hj => ?_⟩
  have hlt : j < t.length := by have := (List.getElem?_eq_some_iff.1 hj).1; simpa [icells] using this
  rw [hc j hlt, ← hj, icells_at t j hlt]
/-- A row of the call's own. -/
def RowO (w : World) (base : Nat) (v : Value) (t : List Int) : Prop :=
  w.ownsRow base 3 1 v t.length (icells t) ∧ t.length * 8 ≤ 140737488355328 ∧ ∀ x ∈ t, -9223372036854775808 ≤ x ∧ x ≤ 9223372036854775807
theorem RowO.kept {w w' : World} {row : Option Nat} {base : Nat} {v : Value} {t : List Int} (h : RowO w base v t) (hg : w.grownBy w' row) (hne : v.ownBlock = none ∨ v.ownBlock ≠ row) : RowO w' base v t := ⟨h.1.kept hg hne, h.2⟩
theorem RowO.below {w w' : World} {base : Nat} {v : Value} {t : List Int} (h : RowO w base v t) (hb : Below w.heap.size w w') : RowO w' base v t := ⟨own_kept h.1 hb, h.2⟩
theorem own_le {w : World} {base n : Nat} {e : TypeId} {size : Nat} {v : Value} {xs : List Value} (h : w.ownsRow base e size v n xs) : ∃ A c, v = .slice A n c ∧ n ≤ c ∧ (A = none → n = 0 ∧ c = 0) := by
  rcases h.2 with ⟨rfl, rfl⟩ | ⟨g, cap, cur, rfl, _, _, h1, _⟩
  · exact ⟨none, 0, rfl, Nat.le_refl _, fun _ => ⟨rfl, rfl⟩⟩
  · exact ⟨_, cap, rfl, h1, fun h => by cases h⟩
theorem RowO.reads {w : World} {base : Nat} {v : Value} {t : List Int} (h : RowO w base v t) : RowV w v t := by
  obtain ⟨h1, h2, h3⟩ := h
  obtain ⟨A, c, hv, hle, hn⟩ := own_le h1
  refine ⟨A, c, hv, hle, hn, h2, h3, by omega, fun h0 => ?_⟩
  obtain ⟨g, cap, hv', _, _⟩ := h1.form h0
  rw [hv] at hv'
  injection hv' with e1 e2 e3
  subst e1 e3
  refine ⟨g, 0, rfl, fun k hk => ?_⟩
  subst hv
  rw [Nat.zero_add, h1.cellAt k (by omega)]
  exact icells_at t k hk

theorem infoInt : (Tryd.prog.info? 3).map (fun i => (i.zero, i.size, i.bytes)) = some (some (.int .i64 0), 1, 8) := by kernel_rfl
theorem copy_between {wr w1 : World} {o : Obj} (hg : (wr.alloc o).grownBy w1 (Value.ownBlock (.slice (some ⟨wr.heap.size, 0, none⟩) 0 0))) : wr.grownBy w1 none :=
  ⟨hg.os, hg.tape, hg.output, by have := hg.size; simp at this; omega, fun i hi _ => (hg.block i (by simp; omega) (by simp [Value.ownBlock]; omega)).trans (heap_alloc_old wr _ hi)⟩
theorem copy_between' {wr w1 : World} {o : Obj} (hg : (wr.alloc o).drew.grownBy w1 (Value.ownBlock (.slice (some ⟨wr.heap.size, 0, none⟩) 0 0))) : wr.grownBy w1 none :=
  copy_between (o := o) ⟨hg.os, hg.tape, hg.output, hg.size, hg.block⟩
theorem own_new {wr : World} {o : Obj} {v : Value} (h : v.ownBlock = (Value.slice (some ⟨wr.heap.size, 0, none⟩) 0 0).ownBlock ∨ v.ownBlock = some (wr.alloc o).heap.size) : v.ownBlock ≠ none ∧ ∀ b, v.ownBlock = some b → wr.heap.size ≤ b := by
  rcases h with h | h
  · rw [h]; exact ⟨(fun e => by cases e), fun b hb => by simp [Value.ownBlock] at hb; omega⟩
  · rw [h]; exact ⟨(fun e => by cases e), fun b hb => by simp at hb; omega⟩
theorem RowO.nil (w : World) (base : Nat) : RowO w base (.slice none 0 0) [] := ⟨World.ownsRow_nil _ _ _ _, by simp, fun x hx => by cases hx⟩

/-- A whole row behind an own one. -/
theorem RowO.pushed {w : World} {base : Nat} {v : Value} {acc piece : List Int} (h : w.ownsRow base 3 1 v (acc.length + piece.length) (icells acc ++ icells piece)) (hl : (acc.length + piece.length) * 8 ≤ 140737488355328)
    (h1 : ∀ x ∈ acc, -9223372036854775808 ≤ x ∧ x ≤ 9223372036854775807) (h2 : ∀ x ∈ piece, -9223372036854775808 ≤ x ∧ x ≤ 9223372036854775807) : RowO w base v (acc ++ piece) := by
  refine ⟨by rw [List.length_append, icells_append]; exact h, by rw [List.length_append]; exact hl, fun x hx => ?_⟩
  rcases List.mem_append.1 hx with hx | hx
  · exact h1 x hx
  · exact h2 x hx

theorem one_cells {w : World} {b o : Nat} {x : Int} (h : w.cell? ⟨b, o, none⟩ = some (.int .i64 x)) : 0 < 1 → ∃ b' o', (some ⟨b, o, none⟩ : Option Addr) = some ⟨b', o', none⟩ ∧ ∀ j u, (icells [x])[j]? = some u → w.cell? ⟨b', o' + j, none⟩ = some u := fun _ =>
  ⟨b, o, rfl, fun j u hj => by
    cases j with
    | zero => simp [icells] at hj; subst hj; exact h
    | succ j => simp [icells] at hj⟩
theorem RowO.base {w : World} {a b : Nat} {v : Value} {t : List Int} (h : RowO w b v t) (hab : a ≤ b) : RowO w a v t := by
  obtain ⟨⟨h1, h2⟩, h3⟩ := h
  refine ⟨⟨h1, ?_⟩, h3⟩
  rcases h2 with h2 | ⟨g, cap, cur, e, hg, r⟩
  · exact .inl h2
  · exact .inr ⟨g, cap, cur, e, Nat.le_trans hab hg, r⟩
theorem below_row {B : Nat} {w w1 w2 : World} {v : Value} {n size : Nat} {e : TypeId} {xs : List Value} (h : Below B w w1) (hB : B ≤ w1.heap.size) (ho : w1.ownsRow B e size v n xs) (hg : w1.grownBy w2 v.ownBlock) : Below B w w2 := h.grown hg hB (fun j hj => (ho.lt j hj).1)
theorem RowO.stored {w : World} {base g n cap k : Nat} {t : List Int} {d : Int} (h : RowO w base (.slice (some ⟨g, 0, none⟩) n cap) t) (hn : n = t.length) (hd : -9223372036854775808 ≤ d ∧ d ≤ 9223372036854775807) :
    RowO (w.setCell ⟨g, k, none⟩ (.int .i64 d)) base (.slice (some ⟨g, 0, none⟩) n cap) (t.set k d) := by
  obtain ⟨h1, h2, h3⟩ := h
  subst hn
  have hs := (h1.stored k (.int .i64 d)).1
  refine ⟨?_, by simpa using h2, fun x hx => ?_⟩
  · have e : icells (t.set k d) = (icells t).set k (.int .i64 d) := by simp [icells, List.map_set]
    rw [e, List.length_set]
    exact hs
  · rcases List.mem_or_eq_of_mem_set hx with hx | rfl
    · exact h3 x hx
    · exact hd
theorem set_mid {acc t : List Int} {k : Nat} {d : Int} (ha : acc.length = k) (hk : k < t.length) : (acc ++ t.drop k).set k d = (acc ++ [d]) ++ t.drop (k + 1) := by
  subst ha
  rw [drop_cons t acc.length hk, List.set_append_right _ _ (Nat.le_refl _)]
  simp

/-- A row that was just made. -/
theorem RowV.fresh {w : World} {n : Nat} (t : List Int) (T : TypeId) (hn : n = w.heap.size) (h8 : t.length * 8 ≤ 140737488355328) (hr : ∀ x ∈ t, -9223372036854775808 ≤ x ∧ x ≤ 9223372036854775807) :
    RowV (w.alloc (.cells (icells t).toArray T)) (.slice (some ⟨n, 0, none⟩) t.length t.length) t := by
  subst hn
  refine ⟨_, _, rfl, Nat.le_refl _, (fun h => by cases h), h8, hr, by omega, fun h0 => ⟨_, 0, rfl, fun k hk => ?_⟩⟩
  rw [World.cell?_alloc_new]
  have := icells_at t k hk
  simpa using this
theorem Ints.fresh {w : World} {n : Nat} (t : List Int) (T : TypeId) (hn : n = w.heap.size) (h8 : t.length * 8 ≤ 140737488355328) (hr : ∀ x ∈ t, -9223372036854775808 ≤ x ∧ x ≤ 9223372036854775807) :
    Ints (w.alloc (.cells (icells t).toArray T)) (some ⟨n, 0, none⟩) t := by
  obtain ⟨A, c, h1, _, _, _, h2⟩ := RowV.fresh (w := w) t T hn h8 hr
  injection h1 with h1 _ _
  rw [h1]; exact h2
theorem RowO.ints {w : World} {base : Nat} {v : Value} {t : List Int} (h : RowO w base v t) : ∃ A c, v = .slice A t.length c ∧ Ints w A t := by
  obtain ⟨A, c, h1, _, _, _, h2⟩ := h.reads
  exact ⟨A, c, h1, h2⟩
abbrev row3 (w : World) (t : List Int) : World := w.alloc (.cells (icells t).toArray 3)
theorem below_row3 (w : World) (t : List Int) : Below w.heap.size w (row3 w t) := below_alloc0 _ _
abbrev small (t : List Int) : Prop := t.length * 8 ≤ 140737488355328 ∧ ∀ x ∈ t, -9223372036854775808 ≤ x ∧ x ≤ 9223372036854775807
/-- A row of one number that was just made. -/
theorem RowO.one {w : World} {n : Nat} {x : Int} (hn : n = w.heap.size) (hx : -9223372036854775808 ≤ x ∧ x ≤ 9223372036854775807) : RowO (w.alloc (.cells #[.int .i64 x] 3)) n (.slice (some ⟨n, 0, none⟩) 1 1) [x] := by
  subst hn
  refine ⟨World.ownsRow_lit (base := w.heap.size) (e := 3) (size := 1) w #[.int .i64 x] 1 (Nat.le_refl _) (by simp [maxLen]) rfl, by simp, fun y hy => ?_⟩
  simp at hy; subst hy; exact hx
theorem RowO.take {w : World} {base g m cap : Nat} {t u : List Int} (h : RowO w base (.slice (some ⟨g, 0, none⟩) m cap) (t ++ u)) (hm : m = t.length + u.length) : Ints w (some ⟨g, 0, none⟩) t := by
  obtain ⟨h1, h2, h3⟩ := h
  rw [List.length_append] at h1 h2
  subst hm
  refine ⟨fun x hx => h3 x (by simp [hx]), by omega, fun h0 => ⟨g, 0, rfl, fun k hk => ?_⟩⟩
  rw [Nat.zero_add, h1.cellAt k (by omega), icells_append, List.getElem?_append_left (by rw [icells_length]; omega)]
  exact icells_at t k hk
theorem RowO.last {w : World} {base g m cap k : Nat} {t : List Int} {x : Int} (h : RowO w base (.slice (some ⟨g, 0, none⟩) m cap) (t ++ [x])) (hm : m = t.length + 1) (hk : k = t.length) : w.cell? ⟨g, k, none⟩ = some (.int .i64 x) := by
  obtain ⟨h1, h2, h3⟩ := h
  rw [List.length_append] at h1
  subst hm hk
  rw [h1.cellAt t.length (by simp), icells_append, List.getElem?_append_right (by rw [icells_length]; omega)]
  simp [icells]
theorem RowO.ints' {w : World} {base n c : Nat} {A : Option Addr} {t : List Int} (h : RowO w base (.slice A n c) t) : Ints w A t := by
  obtain ⟨A', c', e, hI⟩ := h.ints
  cases e
  exact hI
theorem Ints.part {w : World} {b off : Nat} {t : List Int} (h : Ints w (some ⟨b, off, none⟩) t) (p n : Nat) : Ints w (some ⟨b, off + p, none⟩) ((t.drop p).take n) := by
  refine ⟨fun x hx => h.1 x (List.mem_of_mem_drop (List.mem_of_mem_take hx)), by have := h.2.1; rw [List.length_take, List.length_drop]; omega, fun h0 => ⟨b, off + p, rfl, fun k hk => ?_⟩⟩
  rw [List.length_take, List.length_drop] at h0 hk
  obtain ⟨b', off', e, hc⟩ := h.2.2 (by omega)
  cases e
  have := hc (p + k) (by omega)
  rw [Nat.add_assoc, this]
  have e1 : ((t.drop p).take n).getD k 0 = t.getD (p + k) 0 := by
    simp only [List.getD_eq_getElem?_getD]
    rw [List.getElem?_take, if_pos (by omega), List.getElem?_drop]
  rw [e1]
theorem Ints.upto {w : World} {b off : Nat} {t : List Int} (h : Ints w (some ⟨b, off, none⟩) t) (n : Nat) : Ints w (some ⟨b, off, none⟩) (t.take n) := by
  have := h.part 0 n
  simpa using this
theorem Ints.off {w : World} {b off : Nat} {t : List Int} (h : Ints w (some ⟨b, off, none⟩) t) (n : Nat) : Ints w (some ⟨b, off + n, none⟩) (t.drop n) := by
  have := h.part n t.length
  rwa [List.take_of_length_le (by rw [List.length_drop]; omega)] at this
end Go.Proofs.YtfelhlffiiephaaDoor
