/- Forms added: the walk of the algebra's plus. Conditions: none. -/
import Derived.Test.YtfelhlffiiephaaDoorAlgebra
import Derived.Test.YtfelhlffiiephaaDoorRegionLast
import Derived.Deep.RegionLaw
import Derived.Deep.RegionHeldLaw
import Derived.Handy
set_option linter.unusedVariables false
set_option linter.unusedSimpArgs false
set_option linter.unnecessarySimpa false
namespace Go.Proofs.YtfelhlffiiephaaDoor
open Go.RowKit Go.Lib

theorem infoRedex : (Tryd.prog.info? 74).map (fun i => (i.zero, i.size, i.bytes)) = some (some (.agg #[.int .i64 0, .int .i64 0]), 2, 16) := by kernel_rfl
theorem ne_own {a b : Nat} {n c : Nat} (h : a < b) : some a ≠ (Value.slice (some ⟨b, 0, none⟩) n c).ownBlock := fun e => by
  have e' : a = b := by simpa [Value.ownBlock] using e
  omega
theorem grown_set (w : World) (p : Addr) (v : Value) : w.grownBy (w.setCell p v) (some p.block) := by
  have h := below_set (Below.refl 0 w) (Nat.zero_le p.block) v
  exact ⟨h.os, h.tape, h.output, h.size, fun i _ hne => heap_set_far (fun e => hne (by rw [e]))⟩
/-- The form that is made: its two cells, its own row. -/
structure Out (w1 w : World) (ob : Nat) (R0 : Int) (A : Option Addr) (n c : Nat) (l : List (Int × Int)) : Prop where
  len : l.length = n
  below : Below w1.heap.size w1 w
  lo : w1.heap.size ≤ ob
  c0 : w.cell? ⟨ob, 0, none⟩ = some (.int .i64 R0)
  c1 : w.cell? ⟨ob, 1, none⟩ = some (.slice A n c)
  f1 : w.frozen? ⟨ob, 1, none⟩ = false
  own : w.ownsRow w1.heap.size 74 2 (.slice A n c) n (pcells l)
  ne : (Value.slice A n c).ownBlock ≠ some ob
theorem made_out {w1 W : World} {ob : Nat} {R0 : Int} {A : Option Addr} {c : Nat} {l : List (Int × Int)} {u0 u1 : Value} (hb : Below w1.heap.size w1 W) (hob : w1.heap.size ≤ ob) (c0 : W.cell? ⟨ob, 0, none⟩ = some u0) (c1 : W.cell? ⟨ob, 1, none⟩ = some u1) (f1 : W.frozen? ⟨ob, 1, none⟩ = false)
    (ho : W.ownsRow w1.heap.size 74 2 (.slice A l.length c) l.length (pcells l)) (hne : (Value.slice A l.length c).ownBlock ≠ some ob) :
    Out w1 ((W.setCell ⟨ob, 0, none⟩ (.int .i64 R0)).setCell ⟨ob, 1, none⟩ (.slice A l.length c)) ob R0 A l.length c l := by
  have hor : (Value.slice A l.length c).ownBlock = none ∨ (Value.slice A l.length c).ownBlock ≠ some ob := .inr hne
  refine ⟨rfl, below_set (below_set hb hob _) hob _, hob, ?_, ?_, ?_, (ho.kept (grown_set _ ⟨ob, 0, none⟩ _) hor).kept (grown_set _ ⟨ob, 1, none⟩ _) hor, hne⟩
  · rw [set_off (by decide)]; exact set_same c0
  · exact set_same (by rw [set_off (by decide)]; exact c1)
  · rw [World.frozen?_setCell, World.frozen?_setCell]; exact f1
theorem made_new {w1 W : World} {R0 : Int} {A : Option Addr} {c : Nat} {l : List (Int × Int)} (T : TypeId) (hb : Below w1.heap.size w1 W) (ho : W.ownsRow w1.heap.size 74 2 (.slice A l.length c) l.length (pcells l)) :
    Out w1 (W.alloc (.cells #[.int .i64 R0, .slice A l.length c] T)) W.heap.size R0 A l.length c l :=
  ⟨rfl, below_alloc hb hb.size _, hb.size, World.cell?_alloc_new W _ _ 0, World.cell?_alloc_new W _ _ 1, by go_simp, ho.alloc _, fun e => by have := (ho.lt _ e).2; omega⟩
theorem Out.kept {w1 w w' : World} {ob : Nat} {R0 : Int} {A : Option Addr} {n c : Nat} {l : List (Int × Int)} (h : Out w1 w ob R0 A n c l) (hb : Below w.heap.size w w') : Out w1 w' ob R0 A n c l :=
  ⟨h.len, below_then h.below h.below.size hb, h.lo, cell_kept hb h.c0, cell_kept hb h.c1, (hb.frozen (p := ⟨ob, 1, none⟩) (World.block_lt_of_cell? w _ h.c1)).trans h.f1, own_kept h.own hb, h.ne⟩
theorem Out.same {w1 w : World} {ob : Nat} {R0 : Int} {A : Option Addr} {n c : Nat} {l l' : List (Int × Int)} (h : Out w1 w ob R0 A n c l) (e : l' = l) : Out w1 w ob R0 A n c l' := by rw [e]; exact h
theorem pcells_set : ∀ (l : List (Int × Int)) (j : Nat) (y : Int), j < l.length → (pcells l).set (j * 2 + 1) (.int .i64 y) = pcells (l.set j ((l.getD j (0, 0)).1, y))
  | [], j, y, h => by simp at h
  | p :: l, 0, y, _ => by simp [pcells]
  | p :: l, j + 1, y, h => by
    have ih := pcells_set l j y (by simpa using h)
    have e : ∀ (q : Int × Int) (r : List (Int × Int)), pcells (q :: r) = .int .i64 q.1 :: .int .i64 q.2 :: pcells r := fun q r => by simp [pcells]
    rw [e, show (j + 1) * 2 + 1 = (j * 2 + 1) + 1 + 1 by omega, List.set_cons_succ, List.set_cons_succ, ih, List.set_cons_succ, e, List.getD_cons_succ]
/-- A factor is put into its place. -/
theorem Out.put {w1 w : World} {ob : Nat} {R0 : Int} {g n c : Nat} {l : List (Int × Int)} (h : Out w1 w ob R0 (some ⟨g, 0, none⟩) n c l) (hg : w1.heap.size ≤ g) {j : Nat} (hj : j < n) (y : Int) :
    Out w1 (w.setCell ⟨g, j * 2 + 1, none⟩ (.int .i64 y)) ob R0 (some ⟨g, 0, none⟩) n c (l.set j ((l.getD j (0, 0)).1, y)) := by
  have hne : g ≠ ob := fun e => h.ne (by rw [e]; rfl)
  have hs := (h.own.stored (j * 2 + 1) (.int .i64 y)).1
  rw [pcells_set l j y (by rw [h.len]; exact hj)] at hs
  exact ⟨by rw [List.length_set]; exact h.len, below_set h.below hg _, h.lo, (set_blk hne).trans h.c0, (set_blk hne).trans h.c1, by rw [World.frozen?_setCell]; exact h.f1, hs, h.ne⟩
/-- One variable more. -/
theorem Out.more {w1 w W w4 : World} {ob : Nat} {R0 : Int} {A : Option Addr} {n c g2 cap2 : Nat} {l : List (Int × Int)} {y : Int × Int} (h : Out w1 w ob R0 A n c l) (hbW : Below w.heap.size w W) (hg : W.grownBy w4 (Value.slice A n c).ownBlock)
    (ho : w4.ownsRow w1.heap.size 74 2 (.slice (some ⟨g2, 0, none⟩) (n + 1) cap2) (n + 1) (pcells l ++ [.int .i64 y.1, .int .i64 y.2])) (ha : (Value.slice A n c).ownBlock = some g2 ∨ g2 = W.heap.size) :
    Out w1 (w4.setCell ⟨ob, 1, none⟩ (.slice (some ⟨g2, 0, none⟩) (n + 1) cap2)) ob R0 (some ⟨g2, 0, none⟩) (n + 1) cap2 (l ++ [y]) := by
  have hob : ob < w.heap.size := World.block_lt_of_cell? w _ h.c1
  have hne : some ob ≠ (Value.slice A n c).ownBlock := fun e => h.ne e.symm
  have hgo : g2 ≠ ob := fun e => by
    rcases ha with ha | ha
    · exact h.ne (by rw [ha, e])
    · have := hbW.size; omega
  have hc0 := hg.cell (a := ⟨ob, 0, none⟩) (cell_kept hbW h.c0) hne
  have hc1 := hg.cell (a := ⟨ob, 1, none⟩) (cell_kept hbW h.c1) hne
  have hf1 := (hg.frozen_far ⟨ob, 1, none⟩ (by show ob < _; have := hbW.size; omega) hne).trans ((hbW.frozen (p := ⟨ob, 1, none⟩) hob).trans h.f1)
  refine ⟨by rw [List.length_append, h.len]; rfl, below_set ((below_then h.below h.below.size hbW).grown hg (Nat.le_trans h.below.size hbW.size) (fun j hj => (h.own.lt j hj).1)) h.lo _, h.lo, (set_off (by decide)).trans hc0, set_same hc1, by rw [World.frozen?_setCell]; exact hf1, ?_, fun e => hgo (by simpa [Value.ownBlock] using e)⟩
  rw [pcells_append]
  exact (by simpa [pcells] using ho.kept (grown_set w4 ⟨ob, 1, none⟩ (.slice (some ⟨g2, 0, none⟩) (n + 1) cap2)) (.inr (fun e => hgo (by simpa [Value.ownBlock] using e))))
theorem pair_oneP (x y : Int) : ∀ u ∈ [Value.int .i64 x, Value.int .i64 y], u.oneCell' = true := by intro u hu; simp at hu; rcases hu with rfl | rfl <;> rfl
theorem pair_cellsP (w : World) (x y : Int) (T : TypeId) (n : Nat) (hn : n = w.heap.size) : ∀ j u, [Value.int .i64 x, Value.int .i64 y][j]? = some u → (w.alloc (.cells #[.int .i64 x, .int .i64 y] T)).cell? ⟨n, 0 + j, none⟩ = some u := by
  intro j u hj
  subst hn
  rw [World.cell?_alloc_new]
  cases j with
  | zero => simpa using hj
  | succ j => cases j with
    | zero => simpa using hj
    | succ j => simp at hj
theorem coef_addAll {m k : Int} (hm : 0 < m) : ∀ (r l : List (Int × Int)), (∀ p, p ∈ l → 0 ≤ p.2 ∧ p.2 < m) → ∀ p, p ∈ addAll m k l r → 0 ≤ p.2 ∧ p.2 < m
  | [], l, h => h
  | y :: r, l, h => coef_addAll hm r (addOne m k l y) (coef_addOne hm y l h)
theorem addAll_snoc (m k : Int) (l r : List (Int × Int)) (y : Int × Int) : addAll m k l (r ++ [y]) = addOne m k (addAll m k l r) y := by simp [addAll]
def updOf (m k v cf : Int) (p : Int × Int) : Int × Int := if p.1 = v then (p.1, (p.2 + k * cf) % m) else p
/-- The first so many are done. -/
def halfway (m k v cf : Int) (l : List (Int × Int)) (j : Nat) : List (Int × Int) := (l.take j).map (updOf m k v cf) ++ l.drop j
theorem half_len (m k v cf : Int) (l : List (Int × Int)) (j : Nat) : (halfway m k v cf l j).length = l.length := by
  unfold halfway; rw [List.length_append, List.length_map, List.length_take, List.length_drop]; omega
theorem half_at (m k v cf : Int) (l : List (Int × Int)) {j : Nat} (hj : j < l.length) : (halfway m k v cf l j).getD j (0, 0) = l.getD j (0, 0) := by
  unfold halfway
  rw [List.getD_eq_getElem?_getD, List.getElem?_append_right (by rw [List.length_map, List.length_take]; omega), List.length_map, List.length_take, Nat.min_eq_left (by omega), Nat.sub_self, List.getElem?_drop, Nat.add_zero, List.getD_eq_getElem?_getD]
theorem half_next (m k v cf : Int) (l : List (Int × Int)) {j : Nat} (hj : j < l.length) : halfway m k v cf l (j + 1) = (halfway m k v cf l j).set j (updOf m k v cf (l.getD j (0, 0))) := by
  unfold halfway
  have hd : l.drop j = l.getD j (0, 0) :: l.drop (j + 1) := by
    rw [List.drop_eq_getElem_cons hj, List.getD_eq_getElem?_getD, List.getElem?_eq_getElem hj]; rfl
  rw [take_succ' l (0, 0) hj, List.map_append, List.map_cons, List.map_nil, hd, List.set_append_right _ _ (by rw [List.length_map, List.length_take]; omega), List.length_map, List.length_take, Nat.min_eq_left (by omega), Nat.sub_self, List.set_cons_zero, List.append_assoc]
  rfl
theorem half_skip (m k v cf : Int) (l : List (Int × Int)) {j : Nat} (hj : j < l.length) (hne : (l.getD j (0, 0)).1 ≠ v) : halfway m k v cf l (j + 1) = halfway m k v cf l j := by
  rw [half_next m k v cf l hj]
  have e : updOf m k v cf (l.getD j (0, 0)) = (halfway m k v cf l j).getD j (0, 0) := by rw [half_at m k v cf l hj]; unfold updOf; rw [if_neg hne]
  rw [e]
  have hl : j < (halfway m k v cf l j).length := by rw [half_len]; exact hj
  rw [List.getD_eq_getElem?_getD, List.getElem?_eq_getElem hl, Option.getD_some, List.set_getElem_self]
theorem below_allocs4 (w : World) (a b c d : Obj) : Below w.heap.size w ((((w.alloc a).alloc b).alloc c).alloc d) := by
  have b1 := below_alloc0 w a
  have b2 := below_alloc b1 b1.size b
  have b3 := below_alloc b2 b2.size c
  exact below_alloc b3 b3.size d
set_option maxRecDepth 100000 in
set_option maxHeartbeats 8000000 in
theorem plus_any (M : Int) (L : Value) (x0 y0 : Int) (k : Int) (X Y : Option Addr) (xl yl : List (Int × Int)) (xc yc : Nat) (hM : -9223372036854775808 ≤ M ∧ M ≤ 9223372036854775807) (hx0 : 0 ≤ x0 ∧ x0 ≤ 5) (hy0 : 0 ≤ y0 ∧ y0 ≤ 5) (hk : 0 ≤ k ∧ k ≤ 5)
    (hxp : ∀ p, p ∈ xl → 0 ≤ p.2 ∧ p.2 < modOf M) (hyp : ∀ p, p ∈ yl → 0 ≤ p.2 ∧ p.2 < modOf M) (hXn : X = none → xl.length = 0 ∧ xc = 0) (hxl : xl.length ≤ 1000) (hyl : yl.length ≤ 1000) (w : World) (hX : Pairs w X xl) (hY : Pairs w Y yl) :
    Calls Tryd.prog 16 #[.agg #[.int .i64 M, L], .agg #[.int .i64 x0, .slice X xl.length xc], .int .i64 k, .agg #[.int .i64 y0, .slice Y yl.length yc]] w fun e w' =>
      ∃ A c, e = .returned (.agg #[.int .i64 ((x0 + k * y0) % modOf M), .slice A (addAll (modOf M) k xl yl).length c]) ∧ Below w.heap.size w w' ∧ (A = none → (addAll (modOf M) k xl yl).length = 0 ∧ c = 0) ∧ Pairs w' A (addAll (modOf M) k xl yl) ∧ ∀ a, A = some a → w.heap.size ≤ a.block := by
  have hmr := modOf_range M
  have cM := fun (w1 : World) => mod_any M L hM w1
  obtain ⟨m, hm⟩ : ∃ m, m = modOf M := ⟨_, rfl⟩
  rw [← hm] at hmr hxp hyp cM ⊢
  obtain ⟨mn, hmn⟩ : ∃ mn : Nat, m = (mn : Int) := ⟨m.toNat, by omega⟩
  subst hmn
  have CM := Lib.hid cM
  have HXP := Lib.hid hxp
  have HYP := Lib.hid hyp
  have hm2 : 2 ≤ mn ∧ mn ≤ 5 := by omega
  have HM := Lib.hid hm
  clear cM hxp hyp hm hmr
  obtain ⟨P, hP⟩ : ∃ P, k * y0 = P := ⟨_, rfl⟩
  have hPr : 0 ≤ P ∧ P ≤ 25 := by
    rw [← hP]
    exact ⟨Int.mul_nonneg hk.1 hy0.1, Int.le_trans (Int.mul_le_mul hk.2 hy0.2 hy0.1 (by decide)) (by decide)⟩
  obtain ⟨R0, hR0⟩ : ∃ R : Nat, (x0 + P) % (mn : Int) = (R : Int) := ⟨((x0 + P) % (mn : Int)).toNat, by have := Int.emod_nonneg (x0 + P) (show (mn : Int) ≠ 0 by omega); omega⟩
  rw [hP, hR0]
  obtain ⟨wB, hwB⟩ : ∃ x, x = (((w.alloc (.cells #[.int .i64 M, L] 26)).alloc (.cells #[.int .i64 x0, .slice X xl.length xc] 69)).alloc (.cells #[.int .i64 y0, .slice Y yl.length yc] 69)).alloc (.cells #[.int .i64 0, .slice none 0 0] 69) := ⟨_, rfl⟩
  go_enter Tryd.func16, Tryd.ntmps16
  go_wp2_with fail
  rw [← hwB]
  have s1 : (w.alloc (.cells #[.int .i64 M, L] 26)).heap.size = w.heap.size + 1 := by simp
  have hbB : Below w.heap.size w wB := by rw [hwB]; exact below_allocs4 w _ _ _ _
  have hsB : wB.heap.size = w.heap.size + 4 := by rw [hwB]; simp
  have x0c : wB.cell? ⟨w.heap.size + 1, 0, none⟩ = some (.int .i64 x0) := by rw [hwB]; go_simp
  have x1c : wB.cell? ⟨w.heap.size + 1, 1, none⟩ = some (.slice X xl.length xc) := by rw [hwB]; go_simp
  have y0c : wB.cell? ⟨w.heap.size + 1 + 1, 0, none⟩ = some (.int .i64 y0) := by rw [hwB]; go_simp
  have y1c : wB.cell? ⟨w.heap.size + 1 + 1, 1, none⟩ = some (.slice Y yl.length yc) := by rw [hwB]; go_simp
  have z0c : wB.cell? ⟨w.heap.size + 1 + 1 + 1, 0, none⟩ = some (.int .i64 0) := by rw [hwB]; go_simp
  have z1c : wB.cell? ⟨w.heap.size + 1 + 1 + 1, 1, none⟩ = some (.slice none 0 0) := by rw [hwB]; go_simp
  have z0f : wB.frozen? ⟨w.heap.size + 1 + 1 + 1, 0, none⟩ = false := by rw [hwB]; go_simp
  have z1f : wB.frozen? ⟨w.heap.size + 1 + 1 + 1, 1, none⟩ = false := by rw [hwB]; go_simp
  have hXB := hX.kept hbB
  have hYB := hY.kept hbB
  obtain ⟨a3, ha3⟩ : ∃ x, x = w.heap.size + 1 + 1 + 1 := ⟨_, rfl⟩
  obtain ⟨a2, ha2⟩ : ∃ x, x = w.heap.size + 1 + 1 := ⟨_, rfl⟩
  obtain ⟨a1, ha1⟩ : ∃ x, x = w.heap.size + 1 := ⟨_, rfl⟩
  obtain ⟨a0, ha0⟩ : ∃ x, x = w.heap.size := ⟨_, rfl⟩
  rw [← ha3] at z0c z1c z0f z1f
  rw [← ha2] at y0c y1c
  rw [← ha1] at x0c x1c
  rw [← ha3, ← ha2, ← ha1, ← ha0]
  have hb3 : a3 < wB.heap.size := by omega
  have H3 := Lib.hid (show w.heap.size ≤ a3 by omega)
  have HBB := Lib.hid hbB
  clear hwB hbB s1 hX hY ha0 ha1 ha2 ha3
  refine (CM.out _).mono ?_
  rintro e w1 ⟨rfl, hb1⟩
  have x0d := cell_kept hb1 x0c
  have x1d := cell_kept hb1 x1c
  have y0d := cell_kept hb1 y0c
  have y1d := cell_kept hb1 y1c
  have z0d := cell_kept hb1 z0c
  have z1d := cell_kept hb1 z1c
  have z0g := (hb1.frozen (p := ⟨a3, 0, none⟩) hb3).trans z0f
  have z1g := (hb1.frozen (p := ⟨a3, 1, none⟩) hb3).trans z1f
  have hX1 := hXB.kept hb1
  have hY1 := hYB.kept hb1
  have hs1 : a3 < w1.heap.size := Nat.lt_of_lt_of_le hb3 hb1.size
  have HB1 := Lib.hid (below_then HBB.out HBB.out.size hb1)
  have HY1 := Lib.hid hY1
  clear x0c x1c y0c y1c z0c z1c z0f z1f hXB hYB hb1 hsB hY1 hb3
  have hown0 : ∀ W : World, w1.heap.size ≤ W.heap.size → (W.alloc (.cells #[] 74)).ownsRow w1.heap.size 74 2 (.slice (some ⟨W.heap.size, 0, none⟩) 0 0) 0 [] := fun W h => World.ownsRow_made W #[] 0 h (by simp) (by simp)
  go_wp2_with fail
  have q0 : ¬ mn = 0 := by omega
  have q1 : IntKind.i64.wrap P = P := by rw [IntKind.wrap_i64]; omega
  have q2 : IntKind.i64.wrap (x0 + P) = x0 + P := by rw [IntKind.wrap_i64]; omega
  have q3 : (x0 + P).tmod (mn : Int) = (R0 : Int) := by rw [Int.tmod_eq_emod_of_nonneg (by omega), hR0]
  have q4 : a1 < w1.heap.size := World.block_lt_of_cell? w1 _ x0d
  have q5 : a2 < w1.heap.size := World.block_lt_of_cell? w1 _ y0d
  go_cut [10] (fun v wx => ∃ ob A c, v = .pointer (some ⟨ob, 0, none⟩) ∧ Aside (Out w1 wx ob R0 A xl.length c xl))
  case first =>
    have hf0 : ∀ W : World, W = w1 ∨ W = w1.alloc (.cells #[.int .i64 0, .slice none 0 0] 69) → Below w1.heap.size w1 W := fun W h => by
      rcases h with rfl | rfl
      · exact Below.refl _ _
      · exact below_alloc0 _ _
    have hown1 := hown0 (w1.alloc (.cells #[.int .i64 0, .slice none 0 0] 69)) (by simp)
    have e1 : (w1.alloc (.cells #[.int .i64 0, .slice none 0 0] 69)).heap.size = w1.heap.size + 1 := by simp
    rw [e1] at hown1
    have hown2 := hown0 w1 (Nat.le_refl _)
    have hown3 := hown2.alloc (.cells #[.int .i64 0, .slice none 0 0] 69)
    have hxa := fun o => (hX1.kept (below_alloc0 w1 o)).cells
    have hxb := fun o o' => (hX1.kept (below_alloc (below_alloc0 w1 o) (by simp) o')).cells
    have n1 : ¬ w1.heap.size = a1 := by omega
    have n2 : ¬ w1.heap.size = a2 := by omega
    have n3 : ¬ w1.heap.size + 1 = a1 := by omega
    have n4 : ¬ w1.heap.size + 1 = a2 := by omega
    go_region_held_law (fun w' => w'.cell? ⟨a1, 0, none⟩ = some (.int .i64 x0) ∧ w'.cell? ⟨a2, 0, none⟩ = some (.int .i64 y0) ∧ w'.cell? ⟨a1, 1, none⟩ = some (.slice X xl.length xc)) (go_keep) (first
      | (refine step_push_all (.tmp 25) (.tmp 27) 67 74 (.agg #[.int .i64 0, .int .i64 0]) 2 16 rfl rfl Tryd.underlying67 infoRedex rfl (by decide) (by decide) w1.heap.size (.slice (some ⟨w1.heap.size, 0, none⟩) 0 0) 0 [] (pcells xl) rfl hown2 X xl.length xc rfl hXn (pcells_length xl) (hxa _) (pcells_one xl) (by omega) (by simp; try omega) ?_
         intro u w3 ho1 hg1 ha1
         simp only [Nat.zero_add, List.nil_append] at ho1
         obtain ⟨A', c', rfl, hn'⟩ := own_slice ho1
         have hb3 : Below w1.heap.size w1 w3 := (below_draw (below_alloc0 w1 _)).grown hg1 (by simp; try omega) (fun k hk => by simp [Value.ownBlock] at hk; omega)
         have x0e := cell_kept hb3 x0d
         have y0e := cell_kept hb3 y0d
         have x1e := cell_kept hb3 x1d)
      | (refine step_push_all (.tmp 25) (.tmp 27) 67 74 (.agg #[.int .i64 0, .int .i64 0]) 2 16 rfl rfl Tryd.underlying67 infoRedex rfl (by decide) (by decide) w1.heap.size (.slice (some ⟨w1.heap.size, 0, none⟩) 0 0) 0 [] (pcells xl) rfl hown3 X xl.length xc rfl hXn (pcells_length xl) (hxb _ _) (pcells_one xl) (by omega) (by simp; try omega) ?_
         intro u w3 ho1 hg1 ha1
         simp only [Nat.zero_add, List.nil_append] at ho1
         obtain ⟨A', c', rfl, hn'⟩ := own_slice ho1
         have hb3 : Below w1.heap.size w1 w3 := (below_draw (below_alloc (below_alloc0 w1 _) (by simp) _)).grown hg1 (by simp; try omega) (fun k hk => by simp [Value.ownBlock] at hk; omega)
         have x0e := cell_kept hb3 x0d
         have y0e := cell_kept hb3 y0d
         have x1e := cell_kept hb3 x1d
         have o0 : w3.cell? ⟨w1.heap.size + 1, 0, none⟩ = some (.int .i64 0) := hg1.cell (a := ⟨w1.heap.size + 1, 0, none⟩) (by go_simp) (by simp [Value.ownBlock])
         have of0 : w3.frozen? ⟨w1.heap.size + 1, 0, none⟩ = false := (hg1.frozen_far ⟨w1.heap.size + 1, 0, none⟩ (by simp; try omega) (by simp [Value.ownBlock])).trans (by go_simp)
         have o1 : w3.cell? ⟨w1.heap.size + 1, 1, none⟩ = some (.slice none 0 0) := hg1.cell (a := ⟨w1.heap.size + 1, 1, none⟩) (by go_simp) (by simp [Value.ownBlock])
         have of1 : w3.frozen? ⟨w1.heap.size + 1, 1, none⟩ = false := (hg1.frozen_far ⟨w1.heap.size + 1, 1, none⟩ (by simp; try omega) (by simp [Value.ownBlock])).trans (by go_simp))
      | (refine step_push_all (.tmp 25) (.tmp 27) 67 74 (.agg #[.int .i64 0, .int .i64 0]) 2 16 rfl rfl Tryd.underlying67 infoRedex rfl (by decide) (by decide) w1.heap.size (.slice (some ⟨w1.heap.size + 1, 0, none⟩) 0 0) 0 [] (pcells xl) rfl hown1 X xl.length xc rfl hXn (pcells_length xl) (hxb _ _) (pcells_one xl) (by omega) (by simp; try omega) ?_
         intro u w3 ho1 hg1 ha1
         simp only [Nat.zero_add, List.nil_append] at ho1
         obtain ⟨A', c', rfl, hn'⟩ := own_slice ho1
         have hb3 : Below w1.heap.size w1 w3 := (below_draw (below_alloc (below_alloc0 w1 _) (by simp) _)).grown hg1 (by simp; try omega) (fun k hk => by simp [Value.ownBlock] at hk; omega)
         have x0e := cell_kept hb3 x0d
         have y0e := cell_kept hb3 y0d
         have x1e := cell_kept hb3 x1d
         have o0 : w3.cell? ⟨w1.heap.size, 0, none⟩ = some (.int .i64 0) := hg1.cell (a := ⟨w1.heap.size, 0, none⟩) (by go_simp) (by simp [Value.ownBlock])
         have of0 : w3.frozen? ⟨w1.heap.size, 0, none⟩ = false := (hg1.frozen_far ⟨w1.heap.size, 0, none⟩ (by simp; try omega) (by simp [Value.ownBlock])).trans (by go_simp)
         have o1 : w3.cell? ⟨w1.heap.size, 1, none⟩ = some (.slice none 0 0) := hg1.cell (a := ⟨w1.heap.size, 1, none⟩) (by go_simp) (by simp [Value.ownBlock])
         have of1 : w3.frozen? ⟨w1.heap.size, 1, none⟩ = false := (hg1.frozen_far ⟨w1.heap.size, 1, none⟩ (by simp; try omega) (by simp [Value.ownBlock])).trans (by go_simp)))
    all_goals
      go_wp2_with fail
      go_meet
      case rel =>
        first
        | exact ⟨_, A', c', rfl, made_out hb3 (by omega) o0 o1 of1 ho1 (by
            rcases ha1 with h | h
            · rw [h]; simp [Value.ownBlock]; try omega
            · rw [h]; simp; try omega)⟩
        | exact ⟨_, A', c', rfl, made_new _ hb3 ho1⟩
  case rest =>
    obtain ⟨ob, A, c, rfl, hOut⟩ := hcut
    obtain ⟨w2, rfl⟩ : ∃ x : World, x = wc := ⟨_, rfl⟩
    clear q1 q2 q3 hown0 hX1 hPr hR0 hP x0d x1d
    go_wp2_with fail
    go_loopg [11, 12, 13] yl.length (fun gk v u12 u13 wr => ∃ (i : Nat) (A : Option Addr) (n c : Nat), Aside (gk + i = yl.length) ∧ v = .int .i64 i ∧ Aside (Out w1 wr ob R0 A n c (addAll mn k xl (yl.take i))))
    case atStart => exact ⟨0, A, _, c, (rfl : yl.length + 0 = _), rfl, hOut.out⟩
    case round =>
      clear hOut A c
      obtain ⟨i, A, n, c, hg, rfl, hO⟩ := hrel
      have hi : i ≤ yl.length := by have := hg.out; omega
      obtain ⟨Ls, hLs⟩ : ∃ Ls, Ls = addAll mn k xl (yl.take i) := ⟨_, rfl⟩
      rw [← hLs] at hO
      have HLS := Lib.hid hLs
      have hll : Ls.length ≤ 2000 := by
        rw [hLs]
        have := len_addAll mn k (yl.take i) xl
        rw [List.length_take] at this
        omega
      have hlc : ∀ p, p ∈ Ls → 0 ≤ p.2 ∧ p.2 < (mn : Int) := by rw [hLs]; exact coef_addAll (by omega) _ _ HXP.out
      have hLn : Ls.length = n := hO.out.len
      have HLC := Lib.hid hlc
      have HO := Lib.hid hO.out
      have yd := cell_kept hO.out.below y1d
      have oc := hO.out.c1
      clear hLs hO hlc
      by_cases hlt : i < yl.length
      · obtain ⟨Yb, Yo, v, cf, rfl, hvc, hv, hcf⟩ := (HY1.out.kept HO.out.below).at_ hlt
        obtain ⟨hcr1, hcr2⟩ := HYP.out (v, cf) (getD_mem hlt hvc)
        obtain ⟨Pk, hPk⟩ : ∃ P, k * cf = P := ⟨_, rfl⟩
        have hPk2 : 0 ≤ Pk ∧ Pk ≤ 25 := by
          rw [← hPk]
          exact ⟨Int.mul_nonneg hk.1 hcr1, Int.le_trans (Int.mul_le_mul hk.2 (show cf ≤ 5 by have : cf < (mn : Int) := hcr2; omega) hcr1 (by decide)) (by decide)⟩
        have HVC := Lib.hid hvc
        clear hvc hv hcf
        obtain ⟨wo, rfl⟩ : ∃ x : World, x = wr := ⟨_, rfl⟩
        go_wp2_with fail
        go_loopg [12, 13] n (fun gk u12 vj wr => ∃ j : Nat, Aside (gk + j = n) ∧ vj = .int .i64 j ∧ u12 = .bool (decide (v ∈ (Ls.take j).map (·.1))) ∧ Aside (Out w1 wr ob R0 A n c (halfway mn k v cf Ls j)))
        case atStart => exact ⟨0, (rfl : n + 0 = _), rfl, by simp, HO.out⟩
        case round =>
          clear yd oc HO
          obtain ⟨j, hgj, rfl, rfl, hO⟩ := hrel
          have hj : j ≤ n := by have := hgj.out; omega
          have HO := Lib.hid hO.out
          have yd := cell_kept hO.out.below y1d
          have oc := hO.out.c1
          have hYp := (HY1.out.kept hO.out.below).at_ hlt
          clear hO
          obtain ⟨Yb', Yo', v', cf', hYe, hvc, hv, hcf⟩ := hYp
          cases hYe
          have hvc2 := HVC.out
          rw [hvc] at hvc2
          cases hvc2
          clear hvc
          by_cases hjl : j < n
          · obtain ⟨g, cap, hA, hgb, hgl⟩ := HO.out.own.form (by omega)
            injection hA with hA1 hA2 hA3
            subst hA1
            obtain ⟨pa, pc, hp⟩ : ∃ pa pc, Ls.getD j (0, 0) = (pa, pc) := ⟨_, _, rfl⟩
            have hat := pcells_at (halfway mn k v cf Ls j) j (by rw [half_len, hLn]; exact hjl)
            rw [half_at mn k v cf Ls (by rw [hLn]; exact hjl), hp] at hat
            have oa := HO.out.own.cellAt (j * 2) (by omega)
            have op := HO.out.own.cellAt (j * 2 + 1) (by omega)
            rw [hat.1] at oa
            rw [hat.2] at op
            have ofz := HO.out.own.frozenAt (j * 2 + 1)
            have hpc := HLC.out (pa, pc) (getD_mem (by rw [hLn]; exact hjl) hp)
            have HP := Lib.hid hp
            clear hat hp
            by_cases e : pa = v
            · have q : (pa == v) = true := beq_iff_eq.2 e
              obtain ⟨Z, hZ⟩ : ∃ Z : Nat, (pc + Pk) % (mn : Int) = (Z : Int) := ⟨((pc + Pk) % (mn : Int)).toNat, by have := Int.emod_nonneg (pc + Pk) (show (mn : Int) ≠ 0 by omega); omega⟩
              have hpc' : 0 ≤ pc ∧ pc < (mn : Int) := hpc
              have r1 : IntKind.i64.wrap Pk = Pk := by rw [IntKind.wrap_i64]; omega
              have r2 : IntKind.i64.wrap (pc + Pk) = pc + Pk := by rw [IntKind.wrap_i64]; omega
              have r3 : (pc + Pk).tmod (mn : Int) = (Z : Int) := by rw [Int.tmod_eq_emod_of_nonneg (by omega), hZ]
              have HZ := Lib.hid hZ
              have HE := Lib.hid e
              clear hZ e hpc
              go_wp2_with fail
              go_quiet (fail)
              go_wp2_with fail
              refine wp_region_ext_tail (I := Over wr) 20 (by kernel_rfl) (by kernel_rfl) (below_draw (below_drawN (Below.refl _ _) _)) ?_
              have f1 := Over.cell oc
              have f2 := Over.cell yd
              have f3 := Over.cell op
              have f4 := Over.cell hcf
              simp only [List.take_succ_cons, List.take_zero, List.drop_succ_cons, List.drop_zero]
              repeat (go_big_quiet_step (fail))
              try refine wpQuiet_nil ?_
              intro wa hwa
              have b1 := cell_kept hwa op
              have b2 := (hwa.frozen (p := ⟨g, j * 2 + 1, none⟩) (World.block_lt_of_cell? wr _ op)).trans ofz
              clear f1 f2 f3 f4 oc yd op oa hcf hv
              go_wp2_with fail
              go_roundg (n - (j + 1))
              case measure => have := hgj.out; omega
              case rel =>
                refine ⟨j + 1, by have := hgj.out; show _ = _; omega, by go_num, ?_, ?_⟩
                · congr 1
                  symm
                  rw [decide_eq_true_eq, take_succ' Ls (0, 0) (by rw [hLn]; exact hjl), HP.out, HE.out]
                  simp
                · refine ((HO.out.kept hwa).put hgb hjl (Z : Int)).same ?_
                  rw [half_next (mn : Int) k v cf Ls (by rw [hLn]; exact hjl), half_at (mn : Int) k v cf Ls (by rw [hLn]; exact hjl), HP.out]
                  unfold updOf
                  rw [if_pos HE.out, hPk, HZ.out]
            · have q : (pa == v) = false := beq_eq_false_iff_ne.2 e
              have HE := Lib.hid e
              clear e
              go_wp2_with fail
              go_quiet (fail)
              go_wp2_with fail
              go_roundg (n - (j + 1))
              case measure => have := hgj.out; omega
              case rel =>
                refine ⟨j + 1, by have := hgj.out; show _ = _; omega, by go_num, ?_, ?_⟩
                · congr 1
                  rw [take_succ' Ls (0, 0) (by rw [hLn]; exact hjl), HP.out, Bool.eq_iff_iff, decide_eq_true_eq, decide_eq_true_eq]
                  have hne := HE.out
                  simp
                  exact fun h => absurd h.symm hne
                · refine (HO.out.kept (below_drawN (Below.refl _ _) _)).same ?_
                  rw [half_skip (mn : Int) k v cf Ls (by rw [hLn]; exact hjl) (by rw [HP.out]; exact HE.out)]
          · have hje : j = n := by omega
            subst hje
            have hfull : halfway (mn : Int) k v cf Ls j = Ls.map (updOf mn k v cf) := by unfold halfway; rw [← hLn, List.take_length, List.drop_length, List.append_nil]
            rw [show Ls.take j = Ls by rw [← hLn]; exact List.take_length]
            have hnext : addAll mn k xl (yl.take (i + 1)) = addOne mn k Ls (v, cf) := by rw [take_succ' yl (0, 0) hlt, HVC.out, addAll_snoc, ← HLS.out]
            have HNX := Lib.hid hnext
            have HFU := Lib.hid hfull
            clear hnext hfull
            by_cases hin : v ∈ Ls.map (·.1)
            · rw [decide_eq_true hin]
              have HIN := Lib.hid hin
              clear hin
              go_wp2_with fail
              go_roundg (yl.length - (i + 1))
              case measure => have := hg.out; omega
              case rel =>
                refine ⟨i + 1, A, _, c, by have := hg.out; show _ = _; omega, by go_num, HO.out.same ?_⟩
                rw [HNX.out, HFU.out]
                unfold addOne
                rw [if_pos HIN.out]
                rfl
            · rw [decide_eq_false hin]
              have HIN := Lib.hid hin
              clear hin
              have hLf : halfway (mn : Int) k v cf Ls j = Ls := by rw [HFU.out]; exact lin_skip (mn : Int) k (fun _ => 0) (v, cf) Ls HIN.out
              have HO2 := Lib.hid (HO.out.same hLf.symm)
              obtain ⟨Z, hZ⟩ : ∃ Z : Nat, Pk % (mn : Int) = (Z : Int) := ⟨(Pk % (mn : Int)).toNat, by have := Int.emod_nonneg Pk (show (mn : Int) ≠ 0 by omega); omega⟩
              have r1 : IntKind.i64.wrap Pk = Pk := by rw [IntKind.wrap_i64]; omega
              have r3 : Pk.tmod (mn : Int) = (Z : Int) := by rw [Int.tmod_eq_emod_of_nonneg (by omega), hZ]
              have HZ := Lib.hid hZ
              have hown := HO2.out.own
              have obf := HO2.out.f1
              have oblt : ob < wr.heap.size := World.block_lt_of_cell? wr _ oc
              have hlo := HO2.out.below.size
              have hobne := HO2.out.ne
              have u1 : a2 < wr.heap.size := World.block_lt_of_cell? wr _ yd
              have u2 : Yb < wr.heap.size := World.block_lt_of_cell? wr _ hcf
              have n5 : ¬ ob = a2 := by have := HO2.out.lo; omega
              have n6 : ¬ ob = Yb := by
                have h0 := HO2.out.lo
                obtain ⟨_, _, _, _, e', _, hh, _⟩ := HY1.out.at_ hlt
                cases e'
                have h9 : Yb < w1.heap.size := World.block_lt_of_cell? w1 _ hh
                omega
              clear hZ hLf
              have nO : ∀ b, b < w1.heap.size → some b ≠ (Value.slice A j c).ownBlock := fun b hb e => by have := (HO2.out.own.lt b e.symm).1; omega
              have a2lt := q5
              have ybl : Yb < w1.heap.size := by
                obtain ⟨_, _, _, _, e', _, hh, _⟩ := HY1.out.at_ hlt
                cases e'
                exact World.block_lt_of_cell? w1 _ hh
              have NO := Lib.hid nO
              clear nO hlo
              go_wp2_with fail
              refine wp_region_last (S := fun w' => w'.cell? ⟨ob, 1, none⟩ = some (.slice A j c) ∧ w'.cell? ⟨a2, 1, none⟩ = some (.slice (some ⟨Yb, Yo, none⟩) yl.length yc) ∧ w'.cell? ⟨Yb, Yo + i * 2, none⟩ = some (.int .i64 v) ∧ w'.cell? ⟨Yb, Yo + i * 2 + 1, none⟩ = some (.int .i64 cf)) (by kernel_rfl) 22 [0, 1, 2, 3, 4, 5, 6, 7, 8, 9, 10, 11, 12, 13, 14, 15, 16, 17, 18] 4 (by kernel_rfl) (by kernel_rfl) (by kernel_rfl) (fun c a d v w h => by cases d <;> exact h) ⟨oc, yd, hv, hcf⟩ ?_
              simp only [List.filterMap_cons, List.filterMap_nil, List.getElem?_toArray, List.getElem?_cons_succ, List.getElem?_cons_zero]
              iterate 19
                refine still_step (v := ?_) rfl ?_ ?_
                rotate_left
                · intro w hS
                  obtain ⟨s1, s2, s3, s4⟩ := hS
                  go_simp
                  rfl
                simp only [Act.put, List.setIfInBounds_toArray, List.set_cons_succ, List.set_cons_zero]
              refine still_nil ?_
              refine wpHL_val (i := 19) (o := { dst := some 100, op := .buildSlice 67 1 #[(0, .tmp 99)], type := 67, pos := "top19.go:45", after := #[{ on := 18, ground := .data }], guard := none }) (v := ?_) (w' := ?_) (by kernel_rfl) rfl rfl ?_ ?_ ?_
              rotate_left
              rotate_left
              · go_simp
                refine And.intro ?_ ?_
                · rfl
                · rfl
              · exact fun _ => ⟨cell_kept (below_draw (below_alloc0 wr _)) oc, cell_kept (below_draw (below_alloc0 wr _)) yd, cell_kept (below_draw (below_alloc0 wr _)) hv, cell_kept (below_draw (below_alloc0 wr _)) hcf⟩
              simp only [Act.put, List.setIfInBounds_toArray, List.set_cons_succ, List.set_cons_zero]
              refine wpHL_law (i := 20) (o := { dst := some 101, op := .call { callee := .builtin .append, args := #[.tmp 82, .tmp 100], argTypes := #[67, 67] }, type := 67, pos := "top19.go:45", after := #[{ on := 1, ground := .data }, { on := 19, ground := .data }], guard := none }) (by kernel_rfl) rfl rfl ?_
              intro KK hKK
              refine step_push (.tmp 82) (.tmp 100) 67 74 (.agg #[.int .i64 0, .int .i64 0]) 2 16 rfl rfl Tryd.underlying67 infoRedex rfl (by decide) (by decide) w1.heap.size (.slice A j c) j (pcells Ls) [.int .i64 v, .int .i64 (Z : Int)] rfl (own_kept hown (below_draw (below_alloc0 wr _))) wr.heap.size 0 1 rfl rfl (pair_cellsP _ _ _ _ _ rfl) (pair_oneP _ _) (by omega) (by have := HO2.out.below.size; simp; omega) ?_
              intro g2 cap2 w4 ho4 hg4 ha4 hlt4
              have y1e : w4.cell? ⟨a2, 1, none⟩ = some (.slice (some ⟨Yb, Yo, none⟩) yl.length yc) := hg4.cell (cell_kept (below_draw (below_alloc0 wr _)) yd) (NO.out _ a2lt)
              have hve : w4.cell? ⟨Yb, Yo + i * 2, none⟩ = some (.int .i64 v) := hg4.cell (cell_kept (below_draw (below_alloc0 wr _)) hv) (NO.out _ ybl)
              have hce : w4.cell? ⟨Yb, Yo + i * 2 + 1, none⟩ = some (.int .i64 cf) := hg4.cell (cell_kept (below_draw (below_alloc0 wr _)) hcf) (NO.out _ ybl)
              have oce : w4.cell? ⟨ob, 1, none⟩ = some (.slice A j c) := hg4.cell (cell_kept (below_draw (below_alloc0 wr _)) oc) (fun e => hobne e.symm)
              have ofe : w4.frozen? ⟨ob, 1, none⟩ = false := (hg4.frozen_far ⟨ob, 1, none⟩ (by simp; omega) (fun e => hobne e.symm)).trans (by go_simp)
              refine hKK _ _ (fun _ => ⟨oce, y1e, hve, hce⟩) ?_
              simp only [Act.put, List.setIfInBounds_toArray, List.set_cons_succ, List.set_cons_zero]
              refine wpHL_val (i := 21) (o := { dst := some 102, op := .fieldAddr 69 (.tmp 10) 1, type := 0, pos := "top19.go:45", after := #[{ on := 0, ground := .phase }, { on := 1, ground := .phase }, { on := 2, ground := .phase }, { on := 3, ground := .phase }, { on := 4, ground := .phase }, { on := 5, ground := .phase }, { on := 6, ground := .phase }, { on := 7, ground := .phase }, { on := 8, ground := .phase }, { on := 9, ground := .phase }, { on := 10, ground := .phase }, { on := 11, ground := .phase }, { on := 12, ground := .phase }, { on := 13, ground := .phase }, { on := 14, ground := .phase }, { on := 15, ground := .phase }, { on := 16, ground := .phase }, { on := 17, ground := .phase }, { on := 18, ground := .phase }, { on := 19, ground := .phase }, { on := 20, ground := .phase }], guard := none }) (v := ?_) (w' := ?_) (by kernel_rfl) rfl rfl ?_ ?_ ?_
              rotate_left
              rotate_left
              · go_simp
                refine And.intro ?_ ?_
                · rfl
                · rfl
              · exact fun _ => ⟨oce, y1e, hve, hce⟩
              simp only [Act.put, List.setIfInBounds_toArray, List.set_cons_succ, List.set_cons_zero]
              refine wpHL_skip (i := 22) (o := { dst := none, op := .store 67 (.tmp 102) (.tmp 101), type := 0, pos := "top19.go:45", after := #[{ on := 21, ground := .data }, { on := 20, ground := .data }, { on := 20, ground := .chain }, { on := 0, ground := .phase }, { on := 1, ground := .phase }, { on := 2, ground := .phase }, { on := 3, ground := .phase }, { on := 4, ground := .phase }, { on := 5, ground := .phase }, { on := 6, ground := .phase }, { on := 7, ground := .phase }, { on := 8, ground := .phase }, { on := 9, ground := .phase }, { on := 10, ground := .phase }, { on := 11, ground := .phase }, { on := 12, ground := .phase }, { on := 13, ground := .phase }, { on := 14, ground := .phase }, { on := 15, ground := .phase }, { on := 16, ground := .phase }, { on := 17, ground := .phase }, { on := 18, ground := .phase }, { on := 19, ground := .phase }, { on := 20, ground := .phase }], guard := none }) (w' := ?_) (by kernel_rfl) rfl rfl ?_ (fun h => absurd rfl h) ?_
              rotate_left
              · go_simp
                rfl
              refine wpHL_end (by kernel_rfl) ?_
              all_goals
                go_wp2_with fail
                go_roundg (yl.length - (i + 1))
                case measure => have := hg.out; omega
                case rel =>
                  refine ⟨i + 1, _, _, _, by have := hg.out; show _ = _; omega, by go_num, (Out.more HO2.out (below_draw (below_alloc0 wr _)) hg4 (y := (v, (Z : Int))) ho4 ha4).same ?_⟩
                  rw [HNX.out]
                  unfold addOne
                  rw [if_neg HIN.out, hPk, HZ.out]
      · have hie : i = yl.length := by omega
        subst hie
        have oc0 := HO.out.c0
        have zd := cell_kept HO.out.below z0d
        have ze := cell_kept HO.out.below z1d
        have zf := (HO.out.below.frozen (p := ⟨a3, 0, none⟩) hs1).trans z0g
        have zg := (HO.out.below.frozen (p := ⟨a3, 1, none⟩) hs1).trans z1g
        rw [List.take_length] at HLS
        go_wp2_with fail
        obtain ⟨V, hV⟩ : ∃ V, V = (wr.setCell ⟨a3, 0, none⟩ (.int .i64 (R0 : Int))).setCell ⟨a3, 1, none⟩ (.slice A n c) := ⟨_, rfl⟩
        rw [← hV]
        have v0 : V.cell? ⟨a3, 0, none⟩ = some (.int .i64 (R0 : Int)) := by rw [hV, set_off (by decide)]; exact set_same zd
        have v1 : V.cell? ⟨a3, 1, none⟩ = some (.slice A n c) := by rw [hV]; exact set_same (by rw [set_off (by decide)]; exact ze)
        have hown : V.ownsRow w1.heap.size 74 2 (.slice A n c) n (pcells Ls) := by rw [hV]; exact ownsRow_setCell_below (ownsRow_setCell_below HO.out.own hs1 _) hs1 _
        have hBV : Below w.heap.size w V := by rw [hV]; exact below_set (below_set (below_then HB1.out HB1.out.size HO.out.below) H3.out _) H3.out _
        have hfr : ∀ a, A = some a → w.heap.size ≤ a.block := fun a e => by
          subst e
          have h8 := (hown.lt a.block (by simp [Value.ownBlock])).1
          have h9 := HB1.out.size
          omega
        have HFR := Lib.hid hfr
        clear hfr
        rw [← hLn] at hown v1
        obtain ⟨A', c', hv, hn', hPs⟩ := own_pairs hown
        injection hv with h1 h2 h3
        subst h1
        subst h3
        rw [HLS.out] at hn' hPs v1
        have HN' := Lib.hid hn'
        have HPS := Lib.hid hPs
        have HBV := Lib.hid hBV
        clear hV zd ze zf zg oc0 oc yd hown hn' hPs hBV
        (try simp only [Exit.inBlock, Exit.then])
        refine bodyPost_ret (by simp [results, Tryd.results16, go_sem, v0, v1]; try rfl) rfl ?_
        exact ⟨A, c, rfl, HBV.out, HN'.out, HPS.out, HFR.out⟩
end Go.Proofs.YtfelhlffiiephaaDoor
