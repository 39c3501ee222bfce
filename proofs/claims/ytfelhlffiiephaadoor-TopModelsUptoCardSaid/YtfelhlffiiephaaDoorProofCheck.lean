/- The checker whole: the walk of proof.Check. Conditions: utf8's tables as laid; equations and lemmas together in the reach of one row. -/
import Derived.Test.YtfelhlffiiephaaDoorProofLemma
import Derived.Test.YtfelhlffiiephaaDoorRegionLast
import Derived.Test.YtfelhlffiiephaaDoorPlus
import Derived.Deep.RegionLawGrows
set_option linter.unusedVariables false
set_option linter.unusedSimpArgs false
set_option linter.unnecessarySimpa false
namespace Go.Proofs.YtfelhlffiiephaaDoor
open Go.RowKit Go.Lib

theorem infoRule : (Tryd.prog.info? 55).map (fun i => (i.zero, i.size, i.bytes)) = some (some (.agg #[.slice none 0 0, .slice none 0 0]), 2, 48) := by kernel_rfl
theorem getD_app_l {α : Type} {l r : List α} {d : α} {i : Nat} (h : i < l.length) : (l ++ r).getD i d = l.getD i d := by
  rw [List.getD_eq_getElem?_getD, List.getElem?_append_left h, List.getD_eq_getElem?_getD]
theorem getD_app_r {α : Type} {l r : List α} {d : α} {i : Nat} (h : l.length ≤ i) : (l ++ r).getD i d = r.getD (i - l.length) d := by
  rw [List.getD_eq_getElem?_getD, List.getElem?_append_right h, List.getD_eq_getElem?_getD]
/-- The cells of rules, as values. -/
def RuleCells (w : World) (cs : List Value) (rs : List Rl) : Prop := cs.length = rs.length * 2 ∧ ∀ k, k < rs.length → RowV w (cs.getD (k * 2) undef) (rs.getD k rl0).1 ∧ RowV w (cs.getD (k * 2 + 1) undef) (rs.getD k rl0).2
theorem RuleCells.kept {w w' : World} {cs : List Value} {rs : List Rl} (h : RuleCells w cs rs) (hb : Below w.heap.size w w') : RuleCells w' cs rs := ⟨h.1, fun k hk => ⟨(h.2 k hk).1.kept hb, (h.2 k hk).2.kept hb⟩⟩
theorem RuleCells.snoc {w : World} {cs : List Value} {rs : List Rl} {u v : Value} {x y : List Int} (h : RuleCells w cs rs) (hu : RowV w u x) (hv : RowV w v y) : RuleCells w (cs ++ [u, v]) (rs ++ [(x, y)]) := by
  obtain ⟨h1, h2⟩ := h
  refine ⟨by simp [h1]; omega, fun k hk => ?_⟩
  rw [List.length_append, List.length_singleton] at hk
  by_cases e : k < rs.length
  · have := h2 k e
    rw [getD_app_l (by omega), getD_app_l (by omega), getD_app_l (by omega)]
    exact this
  · obtain rfl : k = rs.length := by omega
    rw [getD_app_r (by omega), getD_app_r (by omega), getD_app_r (by omega), h1, Nat.sub_self, show rs.length * 2 + 1 - rs.length * 2 = 1 by omega, Nat.sub_self]
    exact ⟨hu, hv⟩
theorem rowV_slice {w : World} {v : Value} {t : List Int} (h : RowV w v t) : v.oneCell' = true := by obtain ⟨A, c, rfl, _⟩ := h; rfl
theorem Rules.cells {w : World} {A : Option Addr} {rs : List Rl} (h : Rules w A rs) : ∃ cs, RuleCells w cs rs ∧ (0 < rs.length → ∃ b off, A = some ⟨b, off, none⟩ ∧ ∀ j u, cs[j]? = some u → w.cell? ⟨b, off + j, none⟩ = some u) := by
  rcases Nat.eq_zero_or_pos rs.length with h0 | h0
  · exact ⟨[], ⟨by simp [h0], fun k hk => by omega⟩, fun h => by omega⟩
  · obtain ⟨b, off, rfl, hc⟩ := h.2 h0
    have hc1 : ∀ j : Nat, ∃ u, j < rs.length * 2 → w.cell? ⟨b, off + j, none⟩ = some u ∧ (∀ k, j = k * 2 → RowV w u (rs.getD k rl0).1) ∧ ∀ k, j = k * 2 + 1 → RowV w u (rs.getD k rl0).2 := fun j => by
      by_cases hj : j < rs.length * 2
      · obtain ⟨u, v, e1, e2, e3, e4⟩ := hc (j / 2) (by omega)
        rcases Nat.mod_two_eq_zero_or_one j with e | e
        · refine ⟨u, fun _ => ⟨?_, fun k hk => ?_, fun k hk => by omega⟩⟩
          · have ej : j = j / 2 * 2 := by omega
            rw [ej]; exact e1
          · have : j / 2 = k := by omega
            rw [← this]; exact e2
        · refine ⟨v, fun _ => ⟨?_, fun k hk => by omega, fun k hk => ?_⟩⟩
          · have ej : j = j / 2 * 2 + 1 := by omega
            rw [ej, ← Nat.add_assoc]; exact e3
          · have : j / 2 = k := by omega
            rw [← this]; exact e4
      · exact ⟨undef, fun h => absurd h hj⟩
    have hc2 := fun j => Classical.choose_spec (hc1 j)
    refine ⟨(List.range (rs.length * 2)).map fun j => Classical.choose (hc1 j), ⟨by simp, fun k hk => ?_⟩, fun _ => ⟨b, off, rfl, fun j u hj => ?_⟩⟩
    · have g : ∀ j, j < rs.length * 2 → ((List.range (rs.length * 2)).map fun j => Classical.choose (hc1 j)).getD j undef = Classical.choose (hc1 j) := fun j hj => by
        simp [List.getD_eq_getElem?_getD, hj]
      rw [g _ (by omega), g _ (by omega)]
      exact ⟨(hc2 (k * 2) (by omega)).2.1 k rfl, (hc2 (k * 2 + 1) (by omega)).2.2 k rfl⟩
    · have hlt : j < rs.length * 2 := by have := (List.getElem?_eq_some_iff.1 hj).1; simpa using this
      have : Classical.choose (hc1 j) = u := by simpa [hlt] using hj
      rw [← this]
      exact (hc2 j hlt).1
theorem RuleCells.one {w : World} {cs : List Value} {rs : List Rl} (h : RuleCells w cs rs) : ∀ u ∈ cs, u.oneCell' = true := fun u hu => by
  obtain ⟨j, hj, rfl⟩ := List.getElem_of_mem hu
  have h1 := h.1
  have h2 := h.2 (j / 2) (by omega)
  have g : ∀ i, i < cs.length → cs.getD i undef = cs[i]?.getD undef := fun i hi => by rw [List.getD_eq_getElem?_getD]
  rcases Nat.mod_two_eq_zero_or_one j with e | e
  · have ej : j / 2 * 2 = j := by omega
    have := rowV_slice h2.1
    rw [ej, g j hj, List.getElem?_eq_getElem hj] at this
    exact this
  · have ej : j / 2 * 2 + 1 = j := by omega
    have := rowV_slice h2.2
    rw [ej, g j hj, List.getElem?_eq_getElem hj] at this
    exact this
theorem own_rules {w : World} {base : Nat} {A : Option Addr} {c : Nat} {cs : List Value} {rs : List Rl} (h : w.ownsRow base 55 2 (.slice A rs.length c) rs.length cs) (hc : RuleCells w cs rs) (h4 : rs.length ≤ 140737488355328) : Rules w A rs := by
  refine ⟨h4, fun h0 => ?_⟩
  obtain ⟨g, cap, hv, _, _⟩ := h.form h0
  injection hv with e1 e2 e3
  subst e1 e3
  refine ⟨g, 0, rfl, fun k hk => ?_⟩
  have h1 := hc.1
  have g1 : ∀ j, j < cs.length → cs[j]? = some (cs.getD j undef) := fun j hj => by rw [List.getD_eq_getElem?_getD, List.getElem?_eq_getElem hj]; rfl
  refine ⟨_, _, ?_, (hc.2 k hk).1, ?_, (hc.2 k hk).2⟩
  · rw [Nat.zero_add, h.cellAt (k * 2) (by omega)]; exact g1 _ (by omega)
  · rw [Nat.zero_add, h.cellAt (k * 2 + 1) (by omega)]; exact g1 _ (by omega)
/-- The checker at work: its two cells, and what it knows, in an array that is full or in a row of its own. -/
structure Chk (w wr : World) (pc : Nat) (SA : Option Addr) (l : List Sy) (sc : Nat) (KA : Option Addr) (kc : Nat) (rs : List Rl) (cs : List Value) : Prop where
  below : Below w.heap.size w wr
  lo : w.heap.size ≤ pc
  c0 : wr.cell? ⟨pc, 0, none⟩ = some (.slice SA l.length sc)
  c1 : wr.cell? ⟨pc, 1, none⟩ = some (.slice KA rs.length kc)
  f1 : wr.frozen? ⟨pc, 1, none⟩ = false
  cells : RuleCells w cs rs
  own : (kc = rs.length ∧ (KA = none → rs.length = 0) ∧ (0 < rs.length → ∃ b off, KA = some ⟨b, off, none⟩ ∧ ∀ j u, cs[j]? = some u → w.cell? ⟨b, off + j, none⟩ = some u)) ∨ (wr.ownsRow w.heap.size 55 2 (.slice KA rs.length kc) rs.length cs ∧ (Value.slice KA rs.length kc).ownBlock ≠ some pc)
theorem Chk.kept {w wr w' : World} {pc : Nat} {SA : Option Addr} {l : List Sy} {sc : Nat} {KA : Option Addr} {kc : Nat} {rs : List Rl} {cs : List Value} (h : Chk w wr pc SA l sc KA kc rs cs) (hb : Below wr.heap.size wr w') : Chk w w' pc SA l sc KA kc rs cs :=
  ⟨below_then h.below h.below.size hb, h.lo, cell_kept hb h.c0, cell_kept hb h.c1, (hb.frozen (p := ⟨pc, 1, none⟩) (World.block_lt_of_cell? wr _ h.c1)).trans h.f1, h.cells, h.own.imp id fun h => ⟨own_kept h.1 hb, h.2⟩⟩
theorem Chk.rules {w wr : World} {pc : Nat} {SA : Option Addr} {l : List Sy} {sc : Nat} {KA : Option Addr} {kc : Nat} {rs : List Rl} {cs : List Value} (h : Chk w wr pc SA l sc KA kc rs cs) (h4 : rs.length ≤ 140737488355328) : Rules wr KA rs := by
  rcases h.own with ⟨_, h2, h3⟩ | ⟨h1, _⟩
  · refine ⟨h4, fun h0 => ?_⟩
    obtain ⟨b, off, rfl, hc⟩ := h3 h0
    have g1 : ∀ j, j < cs.length → w.cell? ⟨b, off + j, none⟩ = some (cs.getD j undef) := fun j hj => hc j _ (by rw [List.getD_eq_getElem?_getD, List.getElem?_eq_getElem hj]; rfl)
    have h1 := h.cells.1
    exact ⟨b, off, rfl, fun k hk => ⟨_, _, cell_kept h.below (g1 (k * 2) (by omega)), ((h.cells.2 k hk).1).kept h.below, cell_kept h.below (g1 (k * 2 + 1) (by omega)), ((h.cells.2 k hk).2).kept h.below⟩⟩
  · exact own_rules h1 (h.cells.kept h.below) h4
theorem Chk.cap {w wr : World} {pc : Nat} {SA : Option Addr} {l : List Sy} {sc : Nat} {KA : Option Addr} {kc : Nat} {rs : List Rl} {cs : List Value} (h : Chk w wr pc SA l sc KA kc rs cs) : rs.length ≤ kc ∧ (KA = none → kc = 0) := by
  rcases h.own with ⟨h1, h2, _⟩ | ⟨h1, _⟩
  · exact ⟨by omega, fun e => by rw [h1]; exact h2 e⟩
  · obtain ⟨A, c, e, h2, h3⟩ := own_le h1
    injection e with e1 e2 e3
    subst e1 e3
    exact ⟨h2, fun e => (h3 e).2⟩
/-- One rule more. -/
theorem Chk.more {w wr w4 : World} {pc : Nat} {SA : Option Addr} {l : List Sy} {sc : Nat} {KA : Option Addr} {kc : Nat} {rs : List Rl} {cs : List Value} (h : Chk w wr pc SA l sc KA kc rs cs) {u v : Value} {x y : List Int} (hu : RowV w u x) (hv : RowV w v y) {A : Option Addr} {c : Nat} {row : Option Nat}
    (hg : wr.grownBy w4 row) (hrow : ∀ k, row = some k → w.heap.size ≤ k) (hne : row ≠ some pc) (ho : w4.ownsRow w.heap.size 55 2 (.slice A (rs.length + 1) c) (rs.length + 1) (cs ++ [u, v])) (hnp : (Value.slice A (rs.length + 1) c).ownBlock ≠ some pc) :
    Chk w (w4.setCell ⟨pc, 1, none⟩ (.slice A (rs.length + 1) c)) pc SA l sc A c (rs ++ [(x, y)]) (cs ++ [u, v]) := by
  have hlt : pc < wr.heap.size := World.block_lt_of_cell? wr _ h.c1
  have e : (rs ++ [(x, y)]).length = rs.length + 1 := by simp
  have hne' : some pc ≠ row := fun e => hne e.symm
  refine ⟨below_set (h.below.grown hg h.below.size hrow) h.lo _, h.lo, ?_, ?_, ?_, h.cells.snoc hu hv, .inr ⟨?_, by rw [e]; exact hnp⟩⟩
  · rw [set_off (by decide)]; exact hg.cell (a := ⟨pc, 0, none⟩) h.c0 hne'
  · rw [e]; exact set_same (hg.cell (a := ⟨pc, 1, none⟩) h.c1 hne')
  · rw [World.frozen?_setCell]; exact (hg.frozen_far ⟨pc, 1, none⟩ hlt hne').trans h.f1
  · rw [e]; exact ho.kept (grown_set w4 ⟨pc, 1, none⟩ _) (.inr hnp)
theorem own_lower {w : World} {a b n : Nat} {e : TypeId} {size : Nat} {v : Value} {xs : List Value} (h : w.ownsRow b e size v n xs) (hab : a ≤ b) : w.ownsRow a e size v n xs := by
  refine ⟨h.1, ?_⟩
  rcases h.2 with h1 | ⟨g, cap, cur, h1, h2, h3⟩
  · exact .inl h1
  · exact .inr ⟨g, cap, cur, h1, Nat.le_trans hab h2, h3⟩
/-- What the checker knows: an array that is full, or a row of its own in none of these blocks. -/
def Knows (w0 w : World) (KA : Option Addr) (kc : Nat) (n : Nat) (cs : List Value) (qs : List Nat) : Prop :=
  (kc = n ∧ (KA = none → n = 0) ∧ (0 < n → ∃ b off, KA = some ⟨b, off, none⟩ ∧ ∀ j u, cs[j]? = some u → w.cell? ⟨b, off + j, none⟩ = some u)) ∨ (w.ownsRow w0.heap.size 55 2 (.slice KA n kc) n cs ∧ ∀ q, q ∈ qs → (Value.slice KA n kc).ownBlock ≠ some q)
theorem Knows.kept {w0 w w' : World} {KA : Option Addr} {kc n : Nat} {cs : List Value} {qs : List Nat} (h : Knows w0 w KA kc n cs qs) (hb : Below w.heap.size w w') : Knows w0 w' KA kc n cs qs :=
  h.imp (fun ⟨h1, h2, h3⟩ => ⟨h1, h2, fun h0 => by
    obtain ⟨b, off, hb1, hc⟩ := h3 h0
    exact ⟨b, off, hb1, fun j u hj => cell_kept hb (hc j u hj)⟩⟩) fun h => ⟨own_kept h.1 hb, h.2⟩
theorem Chk.knows {w wr : World} {pc : Nat} {SA : Option Addr} {l : List Sy} {sc : Nat} {KA : Option Addr} {kc : Nat} {rs : List Rl} {cs : List Value} (h : Chk w wr pc SA l sc KA kc rs cs) : Knows w wr KA kc rs.length cs [pc, wr.heap.size] := by
  rcases h.own with ⟨h1, h2, h3⟩ | ⟨h1, h2⟩
  · refine .inl ⟨h1, h2, fun h0 => ?_⟩
    obtain ⟨b, off, hb1, hc⟩ := h3 h0
    exact ⟨b, off, hb1, fun j u hj => cell_kept h.below (hc j u hj)⟩
  · refine .inr ⟨h1, fun q hq e => ?_⟩
    rcases List.mem_cons.1 hq with rfl | hq
    · exact h2 e
    · have : q = wr.heap.size := by simpa using hq
      have := (h1.lt q e).2
      omega
theorem step_rule {ops : Array Oper} {o : Oper} {a : Act} {w w0 : World} {K : Act → World → Prop} {Q : Exit → Act → World → Prop} {E : Prop} (s x : Operand) (hgd : o.guard = none)
    (ho : o.op = .call { callee := .builtin .append, args := #[s, x], argTypes := #[23, 23] }) {KA : Option Addr} {kc n : Nat} {cs : List Value} {qs : List Nat} (H : Knows w0 w KA kc n cs qs) (hlen : cs.length = n * 2) (hcc : n ≤ kc) (hKn : KA = none → kc = 0)
    (hs : a.eval s = .slice KA n kc) (b c : Nat) (hx : a.eval x = .slice (some ⟨b, 0, none⟩) 1 c) (u v : Value) (h0 : w.cell? ⟨b, 0, none⟩ = some u) (h1 : w.cell? ⟨b, 1, none⟩ = some v) (hu : u.oneCell' = true) (hv : v.oneCell' = true)
    (hbytes : (n + 1) * 48 ≤ 140737488355328) (hbase : w0.heap.size ≤ w.heap.size) (hqs : ∀ q, q ∈ qs → q < w.heap.size)
    (hK : ∀ A' c' w7 row, w7.ownsRow w0.heap.size 55 2 (.slice A' (n + 1) c') (n + 1) (cs ++ [u, v]) → w.grownBy w7 row → (∀ j, row = some j → w0.heap.size ≤ j) → (∀ q, q ∈ qs → row ≠ some q) → (∀ q, q ∈ qs → (Value.slice A' (n + 1) c').ownBlock ≠ some q) → K (a.put o.dst (.slice A' (n + 1) c')) w7) :
    if Region.wanted o (yielded ops a.tmps) = true then Oper.wp Tryd.prog o a w K Q else E := by
  have hnews : ∀ j z, [u, v][j]? = some z → w.cell? ⟨b, 0 + j, none⟩ = some z := fun j z hj => by
    match j, hj with
    | 0, hj => have : u = z := by simpa using hj
               rw [← this]; exact h0
    | 1, hj => have : v = z := by simpa using hj
               rw [← this]; exact h1
    | j + 2, hj => simp at hj
  have hone : ∀ z ∈ [u, v], z.oneCell' = true := fun z hz => by
    simp at hz
    rcases hz with rfl | rfl
    · exact hu
    · exact hv
  rcases H with ⟨e1, e2, e3⟩ | ⟨hown, hne⟩
  · obtain ⟨i, hi, hzz⟩ := Option.map_eq_some_iff.1 infoRule
    simp only [Prod.mk.injEq] at hzz
    obtain ⟨hz0, hz1, hz2⟩ := hzz
    refine step_append_grows hgd s x 23 ho 55 i _ 2 48 Tryd.underlying23 hi hz0 hz1 hz2 rfl (by decide) KA n kc cs hs (fun h => ⟨e2 h, hKn h⟩) hlen (fun bb hb j z hj => ?_) ⟨b, 0, none⟩ 1 c [u, v] hx rfl (fun j z hj => ?_) hone (by omega) (by simp only [maxLen]; omega) hbytes (fun v' w' ho' hg' => ?_)
    · have hn0 : 0 < n := by
        rcases Nat.eq_zero_or_pos n with h | h
        · have : cs = [] := List.eq_nil_of_length_eq_zero (by omega)
          rw [this] at hj; simp at hj
        · exact h
      obtain ⟨b2, off, rfl, hc⟩ := e3 hn0
      cases hb
      have := hc j z hj
      rw [Addr.add]; split
      · rename_i h0; subst h0; exact this
      · exact this
    · have := hnews j z hj
      rw [Addr.add]; split
      · rename_i h0; subst h0; exact this
      · exact this
    · obtain ⟨A', c', hv', _⟩ := own_slice ho'
      subst hv'
      have ho2 : w'.ownsRow w0.heap.size 55 2 (.slice A' (n + 1) c') (n + 1) (cs ++ [u, v]) := own_lower ho' hbase
      refine hK A' c' w' none ho2 hg' (fun j h => by cases h) (fun q _ h => by cases h) (fun q hq e => ?_)
      have h8 := (ho'.lt q e).1
      have h9 := hqs q hq
      omega
  · refine step_push s x 23 55 _ 2 48 hgd ho Tryd.underlying23 infoRule rfl (by decide) (by decide) w0.heap.size (.slice KA n kc) n cs [u, v] hs hown b 0 c hx rfl hnews hone hbytes hbase (fun g cap w' ho' hg' ha hl => ?_)
    refine hK _ cap w' _ ho' hg' (fun j h => (hown.lt j h).1) (fun q hq => hne q hq) (fun q hq e => ?_)
    have e' : g = q := by simpa [Value.ownBlock] using e
    rcases ha with ha | ha
    · exact hne q hq (by rw [ha, e'])
    · have := hqs q hq
      omega
theorem stepsOf_take (ls : List Lem) (k : Nat) : stepsOf (ls.take k) ≤ stepsOf ls := by
  have h : stepsOf ls = stepsOf (ls.take k) + stepsOf (ls.drop k) := by
    unfold stepsOf
    conv => lhs; rw [← List.take_append_drop k ls]
    rw [List.map_append, List.sum_append]
  omega
theorem stepsOf_snoc {ls : List Lem} {k : Nat} (h : k < ls.length) : stepsOf (ls.take (k + 1)) = stepsOf (ls.take k) + (ls.getD k lem0).steps.length := by
  unfold stepsOf
  rw [take_succ' ls lem0 h, List.map_append, List.sum_append]
  simp
def CheckPost (l : List Sy) (eqs : List Rl) (ls : List Lem) (w : World) (e : Ending) (w' : World) : Prop := ∃ v, e = .returned (.tuple #[.int .i64 (checkErr l eqs ls), v]) ∧ Below w.heap.size w w'
theorem CheckPost.mk {l : List Sy} {eqs : List Rl} {ls : List Lem} {w w' : World} {r : Int} {v : Value} (h : checkErr l eqs ls = r) (hb : Below w.heap.size w w') : CheckPost l eqs ls w (.returned (.tuple #[.int .i64 r, v])) w' := ⟨v, by rw [h], hb⟩
def eqBad (l : List Sy) (q : Rl) : Prop := termErr l q.1 ≠ 0 ∨ termErr l q.2 ≠ 0
set_option maxRecDepth 100000 in
set_option maxHeartbeats 8000000 in
theorem proof_check_any (SA : Option Addr) (l : List Sy) (sc : Nat) (hcap : l.length ≤ sc) (EA : Option Addr) (eqs : List Rl) (ec : Nat) (hec : eqs.length ≤ ec) (hen : EA = none → eqs.length = 0 ∧ ec = 0) (LA : Option Addr) (ls : List Lem) (lc : Nat) (w : World) (hT : Tabs w) (hl : Sigs w SA l) (he : Rules w EA eqs) (hL : Lemmas w LA ls)
    (h48 : (eqs.length + ls.length) * 48 ≤ 140737488355328) :
    Calls Tryd.prog 5 #[.slice SA l.length sc, .slice EA eqs.length ec, .slice LA ls.length lc] w (CheckPost l eqs ls w) := by
  have hen1 := he.1
  have hLn := hL.1
  have cS := sig_any SA l l.length sc rfl hcap w hl hT
  by_cases hs : sigErr l = 0
  · rw [hs] at cS
    have HS := Lib.hid hs
    have CS := Lib.hid cS
    clear hs cS
    go_enter Tryd.func5, Tryd.ntmps5
    go_wp2_with fail
    refine CS.out.mono ?_
    rintro e w1 ⟨rfl, hb1⟩
    have hT1 := hT.kept hb1
    have hl1 := hl.kept hb1
    have he1 := he.kept hb1
    have hL1 := hL.kept hb1
    have HB1 := Lib.hid hb1
    clear hT hl he hL hb1 CS
    go_wp2_with fail
    go_loopg [10, 25] eqs.length (fun gk v10 v wr => ∃ k : Nat, Aside (gk + k = eqs.length) ∧ v = .int .i64 k ∧ Below w1.heap.size w1 wr ∧ Aside (∀ q, q ∈ eqs.take k → ¬ eqBad l q))
    case atStart => exact ⟨0, (rfl : eqs.length + 0 = _), rfl, Below.refl _ _, fun q hq => by simp at hq⟩
    case round =>
      obtain ⟨k, hg, rfl, hB, hE⟩ := hrel
      have hk : k ≤ eqs.length := by have := hg.out; omega
      have HE := Lib.hid hE.out
      have HBr := Lib.hid (below_then HB1.out HB1.out.size hB)
      clear hE
      by_cases hlt : k < eqs.length
      · obtain ⟨qb, qo, x, y, B, C, c, d, rfl, hq, hc1, hc2, hv1, hv2⟩ := (he1.kept hB).at_ hlt
        have hal := below_alloc0 wr (.cells #[.slice B x.length c, .slice C y.length d] 55)
        have hbA := below_then hB hB.size hal
        have cX := check_any SA B l x l.length sc x.length c rfl rfl hcap _ (hl1.kept hbA) (hv1.kept hal).get.2.2.2 (hT1.kept hbA)
        obtain ⟨r, hr⟩ : ∃ r, r = termErr l x := ⟨_, rfl⟩
        rw [← hr] at cX
        have HQ := Lib.hid hq
        have HR := Lib.hid hr
        have CX := Lib.hid cX
        have HAL := Lib.hid hal
        have HBA := Lib.hid hbA
        clear hq hr cX hal hbA
        by_cases hz : r = 0
        · have q1 : (r != 0) = false := by simp [hz]
          have HZ := Lib.hid hz
          clear hz
          have hva : ∀ W : World, Below (wr.alloc (.cells #[.slice B x.length c, .slice C y.length d] 55)).heap.size (wr.alloc (.cells #[.slice B x.length c, .slice C y.length d] 55)) W → W.cell? ⟨wr.heap.size, 1, none⟩ = some (.slice C y.length d) := fun W h => cell_kept h (World.cell?_alloc_new _ _ _ 1)
          have HVA := Lib.hid hva
          clear hva
          obtain ⟨r2, hr2⟩ : ∃ r, r = termErr l y := ⟨_, rfl⟩
          have HR2 := Lib.hid hr2
          clear hr2
          go_wp2_with fail
          refine CX.out.mono ?_
          rintro e w2 ⟨rfl, hb2⟩
          have hcc := HVA.out w2 hb2
          have hbB := below_then HBA.out HBA.out.size hb2
          have cY := check_any SA C l y l.length sc y.length d rfl rfl hcap w2 (hl1.kept hbB) ((hv2.kept HAL.out).kept hb2).get.2.2.2 (hT1.kept hbB)
          rw [← HR2.out] at cY
          have CY := Lib.hid cY
          have HBB := Lib.hid hbB
          clear cY hbB hb2
          by_cases hz : r2 = 0
          · have q2 : (r2 != 0) = false := by simp [hz]
            have HZ2 := Lib.hid hz
            clear hz
            go_wp2_with fail
            refine CY.out.mono ?_
            rintro e w3 ⟨rfl, hb3⟩
            go_wp2_with fail
            go_roundg (eqs.length - (k + 1))
            case measure => have := hg.out; omega
            case rel =>
              refine ⟨k + 1, by have := hg.out; show _ = _; omega, by go_num, below_then HBB.out HBB.out.size hb3, fun q hq => ?_⟩
              rw [take_succ' eqs rl0 hlt, HQ.out] at hq
              rcases List.mem_append.1 hq with h | h
              · exact HE.out q h
              · simp at h
                subst h
                rintro (h | h)
                · exact h (by rw [← HR.out]; exact HZ.out)
                · exact h (by rw [← HR2.out]; exact HZ2.out)
          · have q2 : (r2 != 0) = true := bne_iff_ne.2 hz
            have hres : checkErr l eqs ls = 213 := by
              unfold checkErr
              rw [if_neg (by simp [HS.out]), if_pos ⟨(x, y), getD_mem hlt HQ.out, .inr (by rw [← HR2.out]; exact hz)⟩]
            have HRES := Lib.hid hres
            clear hz hres
            go_wp2_with fail
            refine CY.out.mono ?_
            rintro e w3 ⟨rfl, hb3⟩
            go_wp2_with fail
            go_ret2
            exact CheckPost.mk HRES.out (below_then HB1.out HB1.out.size (below_then HBB.out HBB.out.size hb3))
        · have q1 : (r != 0) = true := bne_iff_ne.2 hz
          have hres : checkErr l eqs ls = 213 := by
            unfold checkErr
            rw [if_neg (by simp [HS.out]), if_pos ⟨(x, y), getD_mem hlt HQ.out, .inl (by rw [← HR.out]; exact hz)⟩]
          have HRES := Lib.hid hres
          clear hz hres
          go_wp2_with fail
          refine CX.out.mono ?_
          rintro e w3 ⟨rfl, hb3⟩
          go_wp2_with fail
          go_ret2
          exact CheckPost.mk HRES.out (below_then HB1.out HB1.out.size (below_then HBA.out HBA.out.size hb3))
      · have hke : k = eqs.length := by omega
        subst hke
        have hfine : ¬ ∃ q ∈ eqs, termErr l q.1 ≠ 0 ∨ termErr l q.2 ≠ 0 := fun ⟨q, hq, hb⟩ => HE.out q (by rw [List.take_length]; exact hq) hb
        have HF := Lib.hid hfine
        have he2 := he1.kept hB
        have hL2 := hL1.kept hB
        have hT2 := hT1.kept hB
        have hl2 := hl1.kept hB
        obtain ⟨w2, rfl⟩ : ∃ x : World, x = wr := ⟨_, rfl⟩
        clear hfine HE hB he1 hL1 hT1 hl1
        go_wp2_with fail
        go_loopg [11, 13, 44] ls.length (fun gk v11 v13 v wr => ∃ (k : Nat) (m : Nat), Aside (gk + k = ls.length) ∧ v = .int .i64 k ∧ v11 = .int .i64 m ∧ m ≤ 4096 ∧ Below w2.heap.size w2 wr ∧ Aside (stepsOf (ls.take k) = m))
        case atStart => exact ⟨0, 0, (rfl : ls.length + 0 = _), rfl, rfl, by omega, Below.refl _ _, rfl⟩
        case round =>
          obtain ⟨k, m, hg, rfl, rfl, hm, hB, hE⟩ := hrel
          have hk : k ≤ ls.length := by have := hg.out; omega
          have HE := Lib.hid hE.out
          clear hE
          by_cases hlt : k < ls.length
          · obtain ⟨lb, lo, x, XA, xc, YA, yc, TA, tc, rfl, hx, h0, h1, h2, hx1, hx2, hx3⟩ := (hL2.kept hB).at_ hlt
            have hst := stepsOf_snoc hlt
            rw [hx] at hst
            have hsl := hx3.1
            have HST := Lib.hid hst
            have HX := Lib.hid hx
            clear hst hx
            by_cases hbig : 4096 < m + x.steps.length
            · have hres : checkErr l eqs ls = 201 := by
                have h9 := stepsOf_take ls (k + 1)
                rw [HST.out, HE.out] at h9
                unfold checkErr
                rw [if_neg (by simp [HS.out]), if_neg HF.out, if_pos (by omega)]
              have HRES := Lib.hid hres
              clear hres
              go_wp2_with fail
              go_ret2
              exact CheckPost.mk HRES.out (below_then HBr.out HBr.out.size (below_alloc hB hB.size _))
            · go_wp2_with fail
              go_roundg (ls.length - (k + 1))
              case measure => have := hg.out; omega
              case rel => exact ⟨k + 1, m + x.steps.length, by have := hg.out; show _ = _; omega, by go_num, by go_num, by omega, below_alloc hB hB.size _, by show _ = _; rw [HST.out, HE.out]⟩
          · have hke : k = ls.length := by omega
            subst hke
            have hcount : ¬ 4096 < stepsOf ls := by
              have h9 := HE.out
              rw [List.take_length] at h9
              omega
            have hchk : checkErr l eqs ls = lemmasErr l eqs ls := by
              unfold checkErr
              rw [if_neg (by simp [HS.out]), if_neg HF.out, if_neg hcount]
            have HCHK := Lib.hid hchk
            have he3 := he2.kept hB
            have hL3 := hL2.kept hB
            have hT3 := hT2.kept hB
            have hl3 := hl2.kept hB
            have HB3 := Lib.hid (below_then HBr.out HBr.out.size hB)
            obtain ⟨w3, rfl⟩ : ∃ x : World, x = wr := ⟨_, rfl⟩
            clear hcount hchk HE hB he2 hL2 hT2 hl2
            go_wp2_with fail
            obtain ⟨wB, hwB⟩ : ∃ y, y = w3.alloc (.cells #[.slice SA l.length sc, .slice EA eqs.length eqs.length] 64) := ⟨_, rfl⟩
            obtain ⟨pc, hpc⟩ : ∃ y, y = w3.heap.size := ⟨_, rfl⟩
            obtain ⟨cs, hcs, hcs2⟩ := he3.cells
            have hchk : Chk w3 wB pc SA l sc EA eqs.length eqs cs :=
              ⟨by rw [hwB]; exact below_alloc0 _ _, by omega, by rw [hwB, hpc]; exact World.cell?_alloc_new _ _ _ 0, by rw [hwB, hpc]; exact World.cell?_alloc_new _ _ _ 1, by rw [hwB, hpc]; exact World.frozen?_alloc_new _ _ _ 1, hcs, .inl ⟨rfl, fun h => (hen h).1, hcs2⟩⟩
            rw [← hwB, ← hpc]
            have HK := Lib.hid hchk
            have HEN := Lib.hid hen
            clear hwB hpc hcs hcs2 hchk hen he3
            go_loopg [15, 16, 67] ls.length (fun gk v15 v16 v wr => ∃ (k : Nat) (KA : Option Addr) (kc : Nat) (rs : List Rl) (cs : List Value), Aside (gk + k = ls.length) ∧ v = .int .i64 k ∧ Aside (Chk w3 wr pc SA l sc KA kc rs cs) ∧ Aside (rs.length = eqs.length + k) ∧ Aside (lemmasErr l eqs ls = lemmasErr l rs (ls.drop k)))
            case atStart => exact ⟨0, EA, eqs.length, eqs, cs, (rfl : ls.length + 0 = _), rfl, HK.out, rfl, rfl⟩
            case round =>
              clear HK cs
              obtain ⟨k, KA, kc, rs, cs, hg, rfl, hK, hN, hE⟩ := hrel
              have hk : k ≤ ls.length := by have := hg.out; omega
              have hn : rs.length = eqs.length + k := hN.out
              have hn1 : rs.length ≤ eqs.length + k := by omega
              have HK := Lib.hid hK.out
              have HN := Lib.hid hn
              have HE := Lib.hid hE.out
              have hBr := HK.out.below
              clear hK hN hE hn
              by_cases hlt : k < ls.length
              · obtain ⟨lb, lo, x, XA, xc, YA, yc, TA, tc, rfl, hx, h0, h1, h2, hx1, hx2, hx3⟩ := (hL3.kept hBr).at_ hlt
                obtain ⟨_, _, _, XA', xc', YA', yc', TA', tc', hE3, hx', g0, g1, g2, gx1, gx2, gx3⟩ := hL3.at_ hlt
                injection hE3 with hE3
                injection hE3 with e1 e2 _
                subst e1 e2
                rw [hx] at hx'
                subst hx'
                have hv1 := (cell_kept hBr g0).symm.trans h0
                have hv2 := (cell_kept hBr g1).symm.trans h1
                injection hv1 with hv1
                injection hv1 with f1 _ f2
                injection hv2 with hv2
                injection hv2 with f3 _ f4
                subst f1 f2 f3 f4
                have hsl := hx3.1
                have hstep : lemmasErr l eqs ls = if lemmaErr l rs x ≠ 0 then lemmaErr l rs x else lemmasErr l (rs ++ [(x.L, x.R)]) (ls.drop (k + 1)) := by
                  rw [HE.out, steps_drop (d := lem0) hlt, hx]; rfl
                have hal := below_alloc0 wr (.cells #[.slice XA' x.L.length xc', .slice YA' x.R.length yc', .slice TA x.steps.length tc] 46)
                have hka := HK.out.kept hal
                have cL := lemma_any SA l sc hcap pc KA rs kc x XA' YA' TA xc' yc' tc _ (hT3.kept hka.below) (hl3.kept hka.below) (hka.rules (by omega)) (hx1.kept hal) (hx2.kept hal) (hx3.kept hal) hka.c0 hka.c1
                obtain ⟨r, hr⟩ : ∃ r, r = lemmaErr l rs x := ⟨_, rfl⟩
                rw [← hr] at hstep cL
                have HST := Lib.hid hstep
                have CL := Lib.hid cL
                have HKA := Lib.hid hka
                have HV1 := Lib.hid gx1
                have HV2 := Lib.hid gx2
                have ha0 := fun W (h : Below (wr.alloc (.cells #[.slice XA' x.L.length xc', .slice YA' x.R.length yc', .slice TA x.steps.length tc] 46)).heap.size (wr.alloc (.cells #[.slice XA' x.L.length xc', .slice YA' x.R.length yc', .slice TA x.steps.length tc] 46)) W) => (And.intro (cell_kept h (World.cell?_alloc_new wr _ _ 0)) (cell_kept h (World.cell?_alloc_new wr _ _ 1)))
                have HA0 := Lib.hid ha0
                clear hx hr hstep cL hka gx1 gx2 gx3 hx1 hx2 hx3 g0 g1 g2 ha0 hal
                go_wp2_with fail
                refine CL.out.mono ?_
                rintro e w5 ⟨rfl, hb5⟩
                obtain ⟨a0, a1⟩ := HA0.out w5 hb5
                have HK5 := Lib.hid (HKA.out.kept hb5)
                have hsz5 := hb5.size
                simp at hsz5
                have HW5 := Lib.hid (below_then (below_alloc0 wr _) (by simp) hb5)
                clear hb5 HA0 HKA CL h0 h1 h2
                have hkn := HK.out.knows
                have hkl := HK.out.cap
                obtain ⟨a16, ha16⟩ : ∃ y, y = wr.heap.size := ⟨_, rfl⟩
                rw [← ha16] at hkn
                rw [← ha16] at a0 a1 hsz5
                rw [← ha16]
                have hpcl : pc < a16 := by rw [ha16]; exact World.block_lt_of_cell? wr _ HK.out.c1
                have HKW := Lib.hid (hkn.kept HW5.out)
                have HKL := Lib.hid hkl
                clear ha16 hkn hkl
                by_cases hz : r = 0
                · have q1 : (r != 0) = false := by simp [hz]
                  have hnx : lemmasErr l eqs ls = lemmasErr l (rs ++ [(x.L, x.R)]) (ls.drop (k + 1)) := by rw [HST.out, if_neg (by simp [hz])]
                  have HNX := Lib.hid hnx
                  clear hnx hz HST
                  have d1 := HK5.out.c1
                  have df := HK5.out.f1
                  go_wp2_with fail
                  refine wp_region_last (S := fun w' => w'.cell? ⟨pc, 1, none⟩ = some (.slice KA rs.length kc) ∧ w'.cell? ⟨a16, 0, none⟩ = some (.slice XA' x.L.length xc') ∧ w'.cell? ⟨a16, 1, none⟩ = some (.slice YA' x.R.length yc'))
                    (by kernel_rfl) 14 [0, 1, 2, 3, 4, 5, 6, 7, 8, 9] 5 (by kernel_rfl) (by kernel_rfl) (by kernel_rfl) (fun c a d v w h => by cases d <;> exact h) ⟨d1, a0, a1⟩ ?_
                  simp only [List.filterMap_cons, List.filterMap_nil, List.getElem?_toArray, List.getElem?_cons_succ, List.getElem?_cons_zero]
                  iterate 10
                    refine still_step (v := ?_) rfl ?_ ?_
                    rotate_left
                    · intro w hS
                      obtain ⟨s1, s2, s3⟩ := hS
                      go_simp
                      rfl
                    simp only [Act.put, List.setIfInBounds_toArray, List.set_cons_succ, List.set_cons_zero]
                  refine still_nil ?_
                  refine wpHL_val (i := 10) (o := { dst := some 89, op := .buildSlice 23 1 #[(0, .tmp 88)], type := 23, pos := "proof.go:89", after := #[{ on := 9, ground := .data }], guard := none }) (v := ?_) (w' := ?_) (by kernel_rfl) rfl rfl ?_ ?_ ?_
                  rotate_left
                  rotate_left
                  · go_simp
                    refine And.intro ?_ ?_
                    · rfl
                    · rfl
                  · exact fun _ => ⟨cell_kept (below_draw (below_alloc0 w5 _)) d1, cell_kept (below_draw (below_alloc0 w5 _)) a0, cell_kept (below_draw (below_alloc0 w5 _)) a1⟩
                  (try simp only [Act.put, List.setIfInBounds_toArray, List.set_cons_succ, List.set_cons_zero])
                  have hba : Below w5.heap.size w5 (w5.alloc (.cells #[.slice XA' x.L.length xc', .slice YA' x.R.length yc'] 55)).drew := below_draw (below_alloc0 w5 _)
                  have hKb := HK5.out.kept hba
                  have hb5s := HK5.out.below.size
                  have hlt5 : pc < w5.heap.size := World.block_lt_of_cell? w5 _ d1
                  have hkb := HKW.out.kept hba
                  have HKB := Lib.hid hkb
                  clear hba hkb
                  refine wpHL_law (i := 11) (o := { dst := some 90, op := .call { callee := .builtin .append, args := #[.tmp 83, .tmp 89], argTypes := #[23, 23] }, type := 23, pos := "proof.go:89", after := #[{ on := 4, ground := .data }, { on := 10, ground := .data }], guard := none }) (by kernel_rfl) rfl rfl ?_
                  intro KK hKK
                  refine step_rule (.tmp 83) (.tmp 89) rfl rfl HKB.out HK5.out.cells.1 HKL.out.1 HKL.out.2 rfl w5.heap.size 1 rfl (.slice XA' x.L.length xc') (.slice YA' x.R.length yc') (World.cell?_alloc_new w5 _ _ 0) (World.cell?_alloc_new w5 _ _ 1) rfl rfl (by omega) (by simp; omega) (fun q hq => by simp at hq ⊢; omega) ?_
                  intro A' c' w7 row ho7 hg7 hr7 hq7 hn7
                  have g1 : w7.cell? ⟨pc, 1, none⟩ = some (.slice KA rs.length kc) := hg7.cell (a := ⟨pc, 1, none⟩) (cell_kept (below_draw (below_alloc0 w5 _)) d1) (fun e => hq7 pc (by simp) e.symm)
                  have g2 : w7.cell? ⟨a16, 0, none⟩ = some (.slice XA' x.L.length xc') := hg7.cell (a := ⟨a16, 0, none⟩) (cell_kept (below_draw (below_alloc0 w5 _)) a0) (fun e => hq7 a16 (by simp) e.symm)
                  have g3 : w7.cell? ⟨a16, 1, none⟩ = some (.slice YA' x.R.length yc') := hg7.cell (a := ⟨a16, 1, none⟩) (cell_kept (below_draw (below_alloc0 w5 _)) a1) (fun e => hq7 a16 (by simp) e.symm)
                  have gf : w7.frozen? ⟨pc, 1, none⟩ = false := (hg7.frozen_far ⟨pc, 1, none⟩ (by simp; omega) (fun e => hq7 pc (by simp) e.symm)).trans (((below_draw (below_alloc0 w5 (.cells #[.slice XA' x.L.length xc', .slice YA' x.R.length yc'] 55))).frozen (p := ⟨pc, 1, none⟩) hlt5).trans df)
                  have hmore := (HK5.out.kept (below_draw (below_alloc0 w5 (.cells #[.slice XA' x.L.length xc', .slice YA' x.R.length yc'] 55)))).more HV1.out HV2.out hg7 hr7 (hq7 pc (by simp)) ho7 (hn7 pc (by simp))
                  have HMORE := Lib.hid hmore
                  clear hmore hg7 hr7 hq7 hn7 ho7
                  refine hKK _ _ (fun _ => ⟨g1, g2, g3⟩) ?_
                  (try simp only [Act.put, List.setIfInBounds_toArray, List.set_cons_succ, List.set_cons_zero])
                  refine wpHL_val (i := 12) (o := { dst := some 91, op := .nilCheck (.tmp 79), type := 0, pos := "proof.go:89", after := #[{ on := 0, ground := .data }, { on := 0, ground := .phase }, { on := 1, ground := .phase }, { on := 2, ground := .phase }, { on := 3, ground := .phase }, { on := 4, ground := .phase }, { on := 5, ground := .phase }, { on := 6, ground := .phase }, { on := 7, ground := .phase }, { on := 8, ground := .phase }, { on := 9, ground := .phase }, { on := 10, ground := .phase }, { on := 11, ground := .phase }], guard := none }) (v := ?_) (w' := ?_) (by kernel_rfl) rfl rfl ?_ ?_ ?_
                  rotate_left
                  rotate_left
                  · go_simp
                    refine And.intro ?_ ?_
                    · rfl
                    · rfl
                  · exact fun _ => ⟨g1, g2, g3⟩
                  (try simp only [Act.put, List.setIfInBounds_toArray, List.set_cons_succ, List.set_cons_zero])
                  refine wpHL_val (i := 13) (o := { dst := some 92, op := .fieldAddr 64 (.tmp 91) 1, type := 0, pos := "proof.go:89", after := #[{ on := 12, ground := .data }, { on := 0, ground := .phase }, { on := 1, ground := .phase }, { on := 2, ground := .phase }, { on := 3, ground := .phase }, { on := 4, ground := .phase }, { on := 5, ground := .phase }, { on := 6, ground := .phase }, { on := 7, ground := .phase }, { on := 8, ground := .phase }, { on := 9, ground := .phase }, { on := 10, ground := .phase }, { on := 11, ground := .phase }], guard := none }) (v := ?_) (w' := ?_) (by kernel_rfl) rfl rfl ?_ ?_ ?_
                  rotate_left
                  rotate_left
                  · go_simp
                    refine And.intro ?_ ?_
                    · rfl
                    · rfl
                  · exact fun _ => ⟨g1, g2, g3⟩
                  (try simp only [Act.put, List.setIfInBounds_toArray, List.set_cons_succ, List.set_cons_zero])
                  refine wpHL_skip (i := 14) (o := { dst := none, op := .store 23 (.tmp 92) (.tmp 90), type := 0, pos := "proof.go:89", after := #[{ on := 13, ground := .data }, { on := 11, ground := .data }, { on := 11, ground := .chain }, { on := 0, ground := .phase }, { on := 1, ground := .phase }, { on := 2, ground := .phase }, { on := 3, ground := .phase }, { on := 4, ground := .phase }, { on := 5, ground := .phase }, { on := 6, ground := .phase }, { on := 7, ground := .phase }, { on := 8, ground := .phase }, { on := 9, ground := .phase }, { on := 10, ground := .phase }, { on := 11, ground := .phase }], guard := none }) (w' := ?_) (by kernel_rfl) rfl rfl ?_ (fun h => absurd rfl h) ?_
                  rotate_left
                  · go_simp
                    rfl
                  refine wpHL_end (by kernel_rfl) ?_
                  clear g1 g2 g3 gf d1 df a0 a1
                  go_wp2_with fail
                  go_roundg (ls.length - (k + 1))
                  case measure => have := hg.out; omega
                  case rel => exact ⟨k + 1, A', c', rs ++ [(x.L, x.R)], _, by have := hg.out; show _ = _; omega, by go_num, HMORE.out, by show _ = _; rw [List.length_append, HN.out]; rfl, HNX.out⟩
                · have q1 : (r != 0) = true := bne_iff_ne.2 hz
                  have hres : checkErr l eqs ls = r := by rw [HCHK.out, HST.out, if_pos hz]
                  have HRES := Lib.hid hres
                  clear hz hres
                  go_wp2_with fail
                  go_ret2
                  exact CheckPost.mk HRES.out (below_then HB3.out HB3.out.size HK5.out.below)
              · have hke : k = ls.length := by omega
                subst hke
                have hres : checkErr l eqs ls = 0 := by rw [HCHK.out, HE.out, List.drop_length]; rfl
                have HRES := Lib.hid hres
                clear hres
                go_wp2_with fail
                go_ret2
                exact CheckPost.mk HRES.out (below_then HB3.out HB3.out.size HK.out.below)
  · have q1 : (sigErr l != 0) = true := bne_iff_ne.2 hs
    have hres : checkErr l eqs ls = sigErr l := by unfold checkErr; rw [if_pos hs]
    generalize sigErr l = r at cS q1 hres
    have HRES := Lib.hid hres
    have CS := Lib.hid cS
    clear hs cS hres
    go_enter Tryd.func5, Tryd.ntmps5
    go_wp2_with fail
    refine CS.out.mono ?_
    rintro e w1 ⟨rfl, hb1⟩
    go_wp2_with fail
    go_ret2
    exact CheckPost.mk HRES.out hb1
end Go.Proofs.YtfelhlffiiephaaDoor
