/- Binds: what memory holds of them, copies of them, and whether two rows are one. Conditions: none. -/
import Derived.Test.YtldnokeejinebaaDoorTerm
import Derived.Deep.RegionLaw
import Derived.Deep.LoopGhost
set_option linter.unusedVariables false
set_option linter.unusedSimpArgs false
namespace Go.Proofs.YtldnokeejinebaaDoor
open Go.RowKit Go.Lib

abbrev Bd := Int × List Int
abbrev bd0 : Bd := (0, [])
/-- A row of numbers, as a value that is read. -/
def RowV (w : World) (v : Value) (t : List Int) : Prop :=
  ∃ A c, v = .slice A t.length c ∧ t.length ≤ c ∧ (A = none → t.length = 0 ∧ c = 0) ∧ t.length * 8 ≤ 140737488355328 ∧ Ints w A t
theorem RowV.kept {w w' : World} {v : Value} {t : List Int} (h : RowV w v t) (hb : Below w.heap.size w w') : RowV w' v t := by
  obtain ⟨A, c, h1, h2, h3, h4, h5⟩ := h
  exact ⟨A, c, h1, h2, h3, h4, h5.kept hb⟩
def Binds (w : World) (A : Option Addr) (s : List Bd) : Prop :=
  s.length ≤ 140737488355328 ∧ (0 < s.length → ∃ b off, A = some ⟨b, off, none⟩ ∧ ∀ k, k < s.length →
    w.cell? ⟨b, off + k * 2, none⟩ = some (.int .i64 (s.getD k bd0).1) ∧ (-9223372036854775808 ≤ (s.getD k bd0).1 ∧ (s.getD k bd0).1 ≤ 9223372036854775807) ∧
    ∃ u, w.cell? ⟨b, off + k * 2 + 1, none⟩ = some u ∧ RowV w u (s.getD k bd0).2)
theorem Binds.kept {w w' : World} {A : Option Addr} {s : List Bd} (h : Binds w A s) (hb : Below w.heap.size w w') : Binds w' A s :=
  ⟨h.1, fun h0 => by
    obtain ⟨b, off, rfl, hc⟩ := h.2 h0
    exact ⟨b, off, rfl, fun k hk => by
      obtain ⟨h1, h2, u, h3, h4⟩ := hc k hk
      exact ⟨cell_kept hb h1, h2, u, cell_kept hb h3, h4.kept hb⟩⟩⟩
theorem Binds.at_ {w : World} {A : Option Addr} {s : List Bd} (h : Binds w A s) {k : Nat} (hk : k < s.length) :
    ∃ b off x t B c, A = some ⟨b, off, none⟩ ∧ s.getD k bd0 = (x, t) ∧ -9223372036854775808 ≤ x ∧ x ≤ 9223372036854775807 ∧ w.cell? ⟨b, off + k * 2, none⟩ = some (.int .i64 x) ∧
      w.cell? ⟨b, off + k * 2 + 1, none⟩ = some (.slice B t.length c) ∧ t.length ≤ c ∧ (B = none → t.length = 0 ∧ c = 0) ∧ t.length * 8 ≤ 140737488355328 ∧ Ints w B t := by
  obtain ⟨b, off, rfl, hc⟩ := h.2 (by omega)
  obtain ⟨h1, h2, u, h3, B, c, rfl, h4, h5, h6, h7⟩ := hc k hk
  exact ⟨b, off, _, _, B, c, rfl, rfl, h2.1, h2.2, h1, h3, h4, h5, h6, h7⟩

theorem rows_eq (t u : List Int) (h : t.length = u.length) (hk : ∀ k, k < t.length → t.getD k 0 = u.getD k 0) : t = u := by
  apply List.ext_getElem h
  intro i h1 h2
  have := hk i h1
  simpa [List.getD_eq_getElem?_getD, List.getElem?_eq_getElem h1, List.getElem?_eq_getElem h2] using this

set_option maxRecDepth 100000 in
theorem same_any (A B : Option Addr) (t u : List Int) (c d : Nat) (w : World) (ht : Ints w A t) (hu : Ints w B u) :
    Calls Tryd.prog 17 #[.slice A t.length c, .slice B u.length d] w fun e w' => e = .returned (.bool (decide (t = u))) ∧ Below w.heap.size w w' := by
  have m1 := ht.2.1
  have m2 := hu.2.1
  by_cases hlen : t.length = u.length
  · have hlen' := Lib.hid hlen
    obtain ⟨n, hn⟩ : ∃ n, n = t.length := ⟨_, rfl⟩
    have hn2 : u.length = n := by omega
    rw [hn2, ← hn]
    have HN := Lib.hid hn
    have HN2 := Lib.hid hn2
    rw [← hn] at m1
    clear hlen hn hn2 m2
    go_enter Tryd.func17, Tryd.ntmps17
    go_wp2_with fail
    go_loopg [5] n (fun gk i wr => ∃ k : Nat, Aside (gk + k = n) ∧ i = .int .i64 k ∧ Below w.heap.size w wr ∧ Aside (∀ j, j < k → t.getD j 0 = u.getD j 0))
    case atStart => exact ⟨0, (rfl : n + 0 = n), rfl, Below.refl _ _, fun j hj => by omega⟩
    case round =>
      obtain ⟨k, hg, rfl, hB, hE⟩ := hrel
      have hk : k ≤ n := by have := hg.out; omega
      have HE := Lib.hid hE.out
      clear hE
      by_cases hlt : k < n
      · have ht' := ht.kept hB
        have hu' := hu.kept hB
        obtain ⟨b, off, x, rfl, hx, hx1, hx2, hxc⟩ := ht'.at_ (show k < t.length by have := HN.out; omega)
        obtain ⟨b2, off2, y, rfl, hy, hy1, hy2, hyc⟩ := hu'.at_ (show k < u.length by have := HN2.out; omega)
        have HX := Lib.hid hx
        have HY := Lib.hid hy
        clear hx hy
        by_cases hq : x = y
        · have hq1 : (x == y) = true := beq_iff_eq.2 hq
          have hq2 : (x != y) = false := by simp [hq]
          have HQ := Lib.hid hq
          clear hq
          go_wp2_with fail
          go_quiet (fail)
          go_wp2_with fail
          go_roundg (n - (k + 1))
          case measure => have := hg.out; omega
          case rel =>
            refine ⟨k + 1, by have := hg.out; show _ = _; omega, by go_num, below_drawN hB _, fun j hj => ?_⟩
            by_cases e : j = k
            · subst e; rw [HX.out, HY.out]; exact HQ.out
            · exact HE.out j (by omega)
        · have hq1 : (x == y) = false := beq_eq_false_iff_ne.2 hq
          have hq2 : (x != y) = true := bne_iff_ne.2 hq
          have HQ := Lib.hid hq
          clear hq
          go_wp2_with fail
          go_quiet (fail)
          go_wp2_with fail
          go_ret
          refine ⟨?_, below_drawN hB _⟩
          rw [decide_eq_false (fun e => HQ.out (by rw [← HX.out, ← HY.out, e]))]; rfl
      · have hkn : k = n := by omega
        subst hkn
        go_wp2_with fail
        go_ret
        refine ⟨?_, hB⟩
        rw [decide_eq_true (rows_eq t u hlen'.out (fun j hj => HE.out j (by have := HN.out; omega)))]; rfl
  · have hq1 : ((t.length : Int) == (u.length : Int)) = false := beq_eq_false_iff_ne.2 (by omega)
    have hq2 : ((t.length : Int) != (u.length : Int)) = true := bne_iff_ne.2 (by omega)
    have hne : t ≠ u := fun e => hlen (by rw [e])
    rw [decide_eq_false hne]
    clear hne hlen
    go_enter Tryd.func17, Tryd.ntmps17
    go_wp2_with fail
    go_ret
    exact ⟨rfl, Below.refl _ _⟩
/-! ### copies -/
section
variable {P : Program} {w : World} {o : Oper} {a : Act}
/-- append of a whole row that is read, at a step of a region that draws. -/
theorem step_push_all {ops : Array Oper} {K : Act → World → Prop} {Q : Exit → Act → World → Prop} {E : Prop} (s x : Operand) (t e : TypeId) (z : Value) (size bytes : Nat) (hgd : o.guard = none)
    (ho : o.op = .call { callee := .builtin .append, args := #[s, x], argTypes := #[t, t] }) (ht : P.underlying t = some (.slice e))
    (hinfo : (P.info? e).map (fun i => (i.zero, i.size, i.bytes)) = some (some z, size, bytes)) (hz : z.cells.size = size) (hsz : 0 < size) (hb0 : 0 < bytes)
    (base : Nat) (v : Value) (n : Nat) (xs news : List Value) (hs : a.eval s = v) (hown : w.ownsRow base e size v n xs) (A : Option Addr) (m c : Nat) (hx : a.eval x = .slice A m c)
    (hA : A = none → m = 0 ∧ c = 0) (hl : news.length = m * size) (hnews : 0 < m → ∃ b off, A = some ⟨b, off, none⟩ ∧ ∀ j u, news[j]? = some u → w.cell? ⟨b, off + j, none⟩ = some u)
    (h1 : ∀ u ∈ news, u.oneCell' = true) (hbytes : (n + m) * bytes ≤ 140737488355328) (hbase : base ≤ w.heap.size)
    (h : ∀ v' w', w'.ownsRow base e size v' (n + m) (xs ++ news) → w.grownBy w' v.ownBlock → (v'.ownBlock = v.ownBlock ∨ v'.ownBlock = some w.heap.size) → K (a.put o.dst v') w') :
    if Region.wanted o (yielded ops a.tmps) = true then Oper.wp P o a w K Q else E := by
  obtain ⟨i, hi, hzz⟩ := Option.map_eq_some_iff.1 hinfo
  simp only [Prod.mk.injEq] at hzz
  obtain ⟨hz0, hz1, hz2⟩ := hzz
  have hlen : n + m ≤ 140737488355328 := Nat.le_trans (Nat.le_mul_of_pos_right _ hb0) hbytes
  have hw : Region.wanted o (yielded ops a.tmps) = true := by simp [Region.wanted, hgd]
  rw [if_pos hw]
  cases A with
  | none =>
    obtain ⟨rfl, rfl⟩ := hA rfl
    obtain rfl : news = [] := List.eq_nil_of_length_eq_zero (by omega)
    have hrun := run_append_owned_none (P := P) (w := w) base t o.type e i size ht hi v n xs hown
    unfold Oper.wp
    simp [execOp, ho, resolve, invoke, builtin, hs, hx, hrun, Result.andThen]
    exact h v w (by simpa using hown) (World.grownBy.refl _ _) (.inl rfl)
  | some ad =>
    have hm : ∀ j u, news[j]? = some u → w.cell? (ad.add j) = some u := fun j u hj => by
      have hm : 0 < m := by
        rcases Nat.eq_zero_or_pos m with h0 | h0
        · subst h0
          have : news = [] := List.eq_nil_of_length_eq_zero (by omega)
          rw [this] at hj; simp at hj
        · exact h0
      obtain ⟨b, off, he, hc⟩ := hnews hm
      injection he with he
      subst he
      have := hc j u hj
      rw [Addr.add]; split
      · rename_i h0; subst h0; exact this
      · exact this
    obtain ⟨v', w', hr, h2, h3, _, h5⟩ := run_append_own_at (P := P) w base t o.type e i z size bytes ht hi hz0 hz1 hz2 hz hsz v n xs hown ad m c news hl hm h1 (by simp only [maxLen]; omega) hbytes hbase
    unfold Oper.wp execOp
    simp only [ho, resolve, invoke, builtin, Sem.run_bind, Sem.run_pure, Result.andThen_ok, List.map_toArray, List.map_cons, List.map_nil, hs, hx, hr]
    exact h v' w' h2 h3 h5
end
/-- The cells of a row of numbers. -/
def icells (t : List Int) : List Value := t.map (.int .i64)
theorem icells_length (t : List Int) : (icells t).length = t.length * 1 := by simp [icells]
theorem icells_append (t u : List Int) : icells (t ++ u) = icells t ++ icells u := by simp [icells]
theorem icells_one (t : List Int) : ∀ u ∈ icells t, u.oneCell' = true := by
  intro u hu
  obtain ⟨x, _, rfl⟩ := List.mem_map.1 hu
  rfl
theorem icells_at (t : List Int) (k : Nat) (hk : k < t.length) : (icells t)[k]? = some (.int .i64 (t.getD k 0)) := by
  simp [icells, List.getD_eq_getElem?_getD, List.getElem?_eq_getElem hk]
theorem Ints.cells {w : World} {A : Option Addr} {t : List Int} (h : Ints w A t) : 0 < t.length → ∃ b off, A = some ⟨b, off, none⟩ ∧ ∀ j u, (icells t)[j]? = some u → w.cell? ⟨b, off + j, none⟩ = some u := by
  intro h0
  obtain ⟨b, off, hA, hc⟩ := h.2.2 h0
  refine ⟨b, off, hA, fun j u hj => ?_⟩
  have hlt : j < t.length := by have := (List.getElem?_eq_some_iff.1 hj).1; simpa [icells] using this
  rw [hc j hlt, ← hj, icells_at t j hlt]
/-- A row of the call's own. -/
def RowO (w : World) (base : Nat) (v : Value) (t : List Int) : Prop :=
  w.ownsRow base 3 1 v t.length (icells t) ∧ t.length * 8 ≤ 140737488355328 ∧ ∀ x ∈ t, -9223372036854775808 ≤ x ∧ x ≤ 9223372036854775807
theorem RowO.kept {w w' : World} {row : Option Nat} {base : Nat} {v : Value} {t : List Int} (h : RowO w base v t) (hg : w.grownBy w' row) (hne : v.ownBlock = none ∨ v.ownBlock ≠ row) : RowO w' base v t := ⟨h.1.kept hg hne, h.2⟩
theorem RowO.below {w w' : World} {base : Nat} {v : Value} {t : List Int} (h : RowO w base v t) (hb : Below w.heap.size w w') : RowO w' base v t := ⟨own_kept h.1 hb, h.2⟩
theorem own_le {w : World} {base n : Nat} {e : TypeId} {size : Nat} {v : Value} {xs : List Value} (h : w.ownsRow base e size v n xs) : ∃ A c, v = .slice A n c ∧ n ≤ c ∧ (A = none → n = 0 ∧ c = 0) := by
  rcases h.2 with ⟨rfl, rfl⟩ | ⟨g, cap, cur, rfl, _, _, h1, _⟩
  · exact ⟨none, 0, rfl, Nat.le_refl _, fun _ => ⟨rfl, rfl⟩⟩
  · exact ⟨_, cap, rfl, h1, fun h => by cases h⟩
theorem RowO.reads {w : World} {base : Nat} {v : Value} {t : List Int} (h : RowO w base v t) : RowV w v t := by
  obtain ⟨h1, h2, h3⟩ := h
  obtain ⟨A, c, hv, hle, hn⟩ := own_le h1
  refine ⟨A, c, hv, hle, hn, h2, h3, by omega, fun h0 => ?_⟩
  obtain ⟨g, cap, hv', _, _⟩ := h1.form h0
  rw [hv] at hv'
  injection hv' with e1 e2 e3
  subst e1 e3
  refine ⟨g, 0, rfl, fun k hk => ?_⟩
  subst hv
  rw [Nat.zero_add, h1.cellAt k (by omega)]
  exact icells_at t k hk

/-- The cells of a row of binds, whose rows are these values. -/
def bcells (s : List Bd) (us : List Value) : List Value := (s.zip us).flatMap fun p => [.int .i64 p.1.1, p.2]
theorem bcells_snoc (s : List Bd) (us : List Value) (h : us.length = s.length) (x : Bd) (u : Value) : bcells (s ++ [x]) (us ++ [u]) = bcells s us ++ [.int .i64 x.1, u] := by
  rw [bcells, List.zip_append h.symm]; simp [bcells]
theorem bcells_at : ∀ (s : List Bd) (us : List Value), us.length = s.length → ∀ k u, us[k]? = some u → (bcells s us)[k * 2]? = some (.int .i64 (s.getD k bd0).1) ∧ (bcells s us)[k * 2 + 1]? = some u
  | [], us, h, k, u, hu => by
    have : us = [] := List.eq_nil_of_length_eq_zero (by simpa using h)
    subst this; simp at hu
  | x :: s, [], h, k, u, hu => by simp at hu
  | x :: s, v :: us, h, k, u, hu => by
    cases k with
    | zero => simp at hu; subst hu; exact ⟨rfl, rfl⟩
    | succ k =>
      have e1 : (k + 1) * 2 = k * 2 + 1 + 1 := by omega
      rw [e1]
      exact bcells_at s us (by simpa using h) k u (by simpa using hu)
/-- Binds of the call's own. -/
structure CopiedBy (w : World) (base : Nat) (v : Value) (s : List Bd) (us : List Value) : Prop where
  len : us.length = s.length
  own : w.ownsRow base 43 2 v s.length (bcells s us)
  h32 : s.length * 32 ≤ 140737488355328
  hxs : ∀ x ∈ s, -9223372036854775808 ≤ x.1 ∧ x.1 ≤ 9223372036854775807
  rows : ∀ k u, us[k]? = some u → RowO w base u (s.getD k bd0).2 ∧ u.ownBlock ≠ v.ownBlock
def Copied (w : World) (base : Nat) (v : Value) (s : List Bd) : Prop := ∃ us, CopiedBy w base v s us
theorem CopiedBy.more {wr w1 w2 : World} {base : Nat} {v v' u : Value} {s : List Bd} {x : Bd} {us : List Value} (h : CopiedBy wr base v s us) (hg : wr.grownBy w1 none) (hu : RowO w1 base u x.2) (hlo : ∀ b, u.ownBlock = some b → wr.heap.size ≤ b) (hsome : u.ownBlock ≠ none)
    (hx : -9223372036854775808 ≤ x.1 ∧ x.1 ≤ 9223372036854775807) (hlen : (s.length + 1) * 32 ≤ 140737488355328) (hvn : v.ownBlock ≠ none)
    (ho : w2.ownsRow base 43 2 v' (s.length + 1) (bcells s us ++ [.int .i64 x.1, u])) (hg2 : w1.grownBy w2 v.ownBlock)
    (hat : v'.ownBlock = v.ownBlock ∨ ∃ g, v'.ownBlock = some g ∧ w1.heap.size ≤ g) : CopiedBy w2 base v' (s ++ [x]) (us ++ [u]) := by
  obtain ⟨hl, hown, h32, hxs, hrows⟩ := h
  have hown1 := hown.kept hg (.inr hvn)
  refine ⟨by simp [hl], ?_, by simpa using hlen, ?_, ?_⟩
  · rw [bcells_snoc s us hl]; simpa using ho
  · intro y hy
    rcases List.mem_append.1 hy with hy | hy
    · exact hxs y hy
    · simp at hy; subst hy; exact hx
  · have hnew : ∀ y : Value, (∀ b, y.ownBlock = some b → b < w1.heap.size) → y.ownBlock ≠ none → y.ownBlock ≠ v.ownBlock → y.ownBlock ≠ v'.ownBlock := fun y hy hn hne e => by
      rcases hat with hat | ⟨g, hat, hgl⟩
      · exact hne (e.trans hat)
      · have := hy g (e.trans hat); omega
    intro k y hy
    by_cases hk : k < us.length
    · rw [List.getElem?_append_left hk] at hy
      obtain ⟨r1, r2⟩ := hrows k y hy
      have e1 : (s ++ [x]).getD k bd0 = s.getD k bd0 := by simp [List.getD_eq_getElem?_getD, List.getElem?_append_left (show k < s.length by omega)]
      rw [e1]
      by_cases hyn : y.ownBlock = none
      · refine ⟨(r1.kept hg (.inl hyn)).kept hg2 (.inl hyn), fun e => ?_⟩
        rw [hyn] at e
        rcases hat with hat | ⟨g, hat, _⟩
        · exact hvn (hat.symm.trans e.symm)
        · rw [hat] at e; cases e
      · have r3 := r1.kept hg (.inr hyn)
        exact ⟨r3.kept hg2 (.inr r2), hnew y (fun b hb => (r3.1.lt b hb).2) hyn r2⟩
    · have hk2 : k = us.length := by
        have := (List.getElem?_eq_some_iff.1 hy).1
        simp at this; omega
      subst hk2
      rw [List.getElem?_append_right (Nat.le_refl _)] at hy
      simp at hy
      subst hy
      have e1 : (s ++ [x]).getD us.length bd0 = x := by rw [hl]; simp [List.getD_eq_getElem?_getD]
      rw [e1]
      have hne : u.ownBlock ≠ v.ownBlock := fun e => by
        cases hb : u.ownBlock with
        | none => exact hsome hb
        | some b =>
          have := hlo b hb
          have := (hown.lt b (e.symm.trans hb)).2
          omega
      exact ⟨hu.kept hg2 (.inr hne), hnew u (fun b hb => (hu.1.lt b hb).2) hsome hne⟩
theorem Copied.reads {w : World} {base : Nat} {v : Value} {s : List Bd} (h : Copied w base v s) : ∃ A c, v = .slice A s.length c ∧ s.length ≤ c ∧ (A = none → s.length = 0 ∧ c = 0) ∧ Binds w A s := by
  obtain ⟨us, hl, hown, h32, hxs, hrows⟩ := h
  obtain ⟨A, c, hv, hle, hn⟩ := own_le hown
  refine ⟨A, c, hv, hle, hn, by omega, fun h0 => ?_⟩
  obtain ⟨g, cap, hv', _, _⟩ := hown.form h0
  rw [hv] at hv'
  injection hv' with e1 e2 e3
  subst e1 e3
  refine ⟨g, 0, rfl, fun k hk => ?_⟩
  subst hv
  have hu := List.getElem?_eq_getElem (show k < us.length by omega)
  have hc := bcells_at s us hl k _ hu
  refine ⟨?_, hxs _ (getD_mem hk rfl), us[k]'(by omega), ?_, (hrows k _ hu).1.reads⟩
  · rw [Nat.zero_add, hown.cellAt (k * 2) (by omega)]; exact hc.1
  · rw [Nat.zero_add, hown.cellAt (k * 2 + 1) (by omega)]; exact hc.2
theorem infoInt : (Tryd.prog.info? 3).map (fun i => (i.zero, i.size, i.bytes)) = some (some (.int .i64 0), 1, 8) := by kernel_rfl
theorem infoBind : (Tryd.prog.info? 43).map (fun i => (i.zero, i.size, i.bytes)) = some (some (.agg #[.int .i64 0, .slice none 0 0]), 2, 32) := by kernel_rfl
theorem bind_cells (w : World) (x : Int) (u : Value) (T : TypeId) (n : Nat) (hn : n = w.heap.size) : ∀ j y, [Value.int .i64 x, u][j]? = some y → (w.alloc (.cells #[.int .i64 x, u] T)).cell? ⟨n, 0 + j, none⟩ = some y := by
  intro j y hj
  subst hn
  rw [World.cell?_alloc_new]
  cases j with
  | zero => simpa using hj
  | succ j => cases j with
    | zero => simpa using hj
    | succ j => simp at hj
theorem pair2_one (x : Int) (u : Value) (h : u.oneCell' = true) : ∀ y ∈ [Value.int .i64 x, u], y.oneCell' = true := by intro y hy; simp at hy; rcases hy with rfl | rfl; rfl; exact h
theorem copy_between {wr w1 : World} {o : Obj} (hg : (wr.alloc o).grownBy w1 (Value.ownBlock (.slice (some ⟨wr.heap.size, 0, none⟩) 0 0))) : wr.grownBy w1 none :=
  ⟨hg.os, hg.tape, hg.output, by have := hg.size; simp at this; omega, fun i hi _ => (hg.block i (by simp; omega) (by simp [Value.ownBlock]; omega)).trans (heap_alloc_old wr _ hi)⟩
theorem copy_between' {wr w1 : World} {o : Obj} (hg : (wr.alloc o).drew.grownBy w1 (Value.ownBlock (.slice (some ⟨wr.heap.size, 0, none⟩) 0 0))) : wr.grownBy w1 none :=
  copy_between (o := o) ⟨hg.os, hg.tape, hg.output, hg.size, hg.block⟩
theorem own_new {wr : World} {o : Obj} {v : Value} (h : v.ownBlock = (Value.slice (some ⟨wr.heap.size, 0, none⟩) 0 0).ownBlock ∨ v.ownBlock = some (wr.alloc o).heap.size) : v.ownBlock ≠ none ∧ ∀ b, v.ownBlock = some b → wr.heap.size ≤ b := by
  rcases h with h | h
  · rw [h]; exact ⟨(fun e => by cases e), fun b hb => by simp [Value.ownBlock] at hb; omega⟩
  · rw [h]; exact ⟨(fun e => by cases e), fun b hb => by simp at hb; omega⟩
theorem copied_fin {w0 wr w1 w2 : World} {hb k g cap : Nat} {v : Value} {s : List Bd} {us : List Value} {x : Int} {t : List Int} {A1 : Option Addr} {c1 : Nat} {o : Obj}
    (hCB : CopiedBy wr hb v (s.take k) us) (htk : (s.take k).length = k) (hlt : k < s.length) (hx : s.getD k bd0 = (x, t)) (hB : Below hb w0 wr) (hHs : hb ≤ wr.heap.size)
    (hW1 : wr.grownBy w1 none) (ho1 : w1.ownsRow hb 3 1 (.slice A1 t.length c1) t.length (icells t)) (h8 : t.length * 8 ≤ 140737488355328) (hti : ∀ x ∈ t, -9223372036854775808 ≤ x ∧ x ≤ 9223372036854775807)
    (hn : (Value.slice A1 t.length c1).ownBlock ≠ none ∧ ∀ b, (Value.slice A1 t.length c1).ownBlock = some b → wr.heap.size ≤ b) (hxb : -9223372036854775808 ≤ x ∧ x ≤ 9223372036854775807) (h32 : s.length * 32 ≤ 140737488355328)
    (hvne : v.ownBlock ≠ none) (ho2 : w2.ownsRow hb 43 2 (.slice (some ⟨g, 0, none⟩) (k + 1) cap) (k + 1) (bcells (s.take k) us ++ [.int .i64 x, .slice A1 t.length c1])) (hg2 : (w1.alloc o).grownBy w2 v.ownBlock)
    (ha2 : v.ownBlock = some g ∨ g = (w1.alloc o).heap.size) : Below hb w0 w2 ∧ Copied w2 hb (.slice (some ⟨g, 0, none⟩) (k + 1) cap) (s.take (k + 1)) := by
  have hW2 : wr.grownBy (w1.alloc o) none := hW1.trans (World.grownBy_alloc _ _ _)
  constructor
  · exact (hB.grown hW2 hHs (fun k hk => by cases hk)).grown hg2 (Nat.le_trans hHs hW2.size) (fun j hj => (hCB.own.lt j hj).1)
  · refine ⟨us ++ [.slice A1 t.length c1], ?_⟩
    rw [take_succ' s bd0 hlt, hx]
    have hat : (Value.slice (some ⟨g, 0, none⟩) (k + 1) cap).ownBlock = v.ownBlock ∨ ∃ g', (Value.slice (some ⟨g, 0, none⟩) (k + 1) cap).ownBlock = some g' ∧ (w1.alloc o).heap.size ≤ g' := by
      rcases ha2 with h | h
      · exact .inl h.symm
      · exact .inr ⟨g, rfl, by omega⟩
    refine CopiedBy.more hCB hW2 ⟨ho1.alloc _, h8, hti⟩ hn.2 hn.1 hxb (by rw [htk]; omega) hvne ?_ hg2 hat
    rw [htk]; exact ho2
set_option maxRecDepth 100000 in
set_option maxHeartbeats 4000000 in
theorem copied_any (A : Option Addr) (s : List Bd) (c : Nat) (w : World) (hs : Binds w A s) (h32 : s.length * 32 ≤ 140737488355328) :
    Calls Tryd.prog 11 #[.slice A s.length c] w fun e w' => ∃ v, e = .returned v ∧ Below w.heap.size w w' ∧ Copied w' w.heap.size v s := by
  have m1 := hs.1
  obtain ⟨hb, hhb⟩ : ∃ x, x = w.heap.size := ⟨_, rfl⟩
  have hown0 := own_empty w 43 2 hb hhb
  go_enter Tryd.func11, Tryd.ntmps11
  go_wp2_with fail
  rw [← hhb]
  have HHB := Lib.hid hhb
  clear hhb
  go_loopg [3, 4] s.length (fun gk v i wr => ∃ k : Nat, Aside (gk + k = s.length) ∧ i = .int .i64 k ∧ Below hb w wr ∧ Copied wr hb v (s.take k) ∧ Aside (v.ownBlock ≠ none))
  case atStart => exact ⟨0, (rfl : s.length + 0 = _), rfl, by rw [HHB.out]; exact below_alloc0 _ _, ⟨[], rfl, hown0, by simp, (fun x hx => by cases hx), fun k u hu => by simp at hu⟩, (fun h => by cases h)⟩
  case round =>
    obtain ⟨k, hg, rfl, hB, hC, hv⟩ := hrel
    have hk : k ≤ s.length := by have := hg.out; omega
    by_cases hlt : k < s.length
    · have hs' := hs.kept (by rw [← HHB.out]; exact hB)
      obtain ⟨b, off, x, t, C, d, rfl, hx, hx1, hx2, hc1, hc2, hd1, hd2, h8, ht⟩ := hs'.at_ hlt
      have HX := Lib.hid hx
      clear hx
      obtain ⟨us, hCB⟩ := hC
      have hHs : hb ≤ wr.heap.size := by have := hB.size; rw [HHB.out]; exact this
      have hblt : b < wr.heap.size := World.block_lt_of_cell? wr _ hc1
      have htk : (s.take k).length = k := by simp; omega
      have hown := hCB.own
      rw [htk] at hown
      have HCB := Lib.hid hCB
      have HTK := Lib.hid htk
      clear hCB htk
      have hrowI : ∀ W : World, hb ≤ W.heap.size → (W.alloc (.cells #[] 3)).ownsRow hb 3 1 (.slice (some ⟨W.heap.size, 0, none⟩) 0 0) 0 [] := fun W h => World.ownsRow_made W #[] 0 h (by simp) (by simp)
      have hvne := hv.out
      go_wp2_with fail
      go_region_law (first
        | (refine step_push_all (.tmp 18) (.tmp 23) 30 3 (.int .i64 0) 1 8 rfl rfl Tryd.underlying30 infoInt rfl (by decide) (by decide) hb (.slice (some ⟨wr.heap.size, 0, none⟩) 0 0) 0 [] (icells t) rfl (hrowI wr hHs) C t.length d rfl hd2 (icells_length t) (ht.kept (below_alloc0 _ _)).cells (icells_one t) (by omega) (by simp; omega) ?_
           intro u w1 ho1 hg1 ha1
           simp only [Nat.zero_add, List.nil_append] at ho1
           obtain ⟨A1, c1, rfl, hn1⟩ := own_slice ho1
           have hW1 : wr.grownBy w1 none := by first | exact copy_between hg1 | exact copy_between' hg1
           have hc1' : w1.cell? ⟨b, off + k * 2, none⟩ = some (.int .i64 x) := hW1.cell hc1 (by simp)
           have hown1 := hown.kept hW1 (.inr hvne))
        | (refine step_push (.tmp 12) (.tmp 26) 23 43 (.agg #[.int .i64 0, .slice none 0 0]) 2 32 rfl rfl Tryd.underlying23 infoBind rfl (by decide) (by decide) hb u3 k (bcells (s.take k) us) [.int .i64 x, .slice A1 t.length c1] rfl (hown1.alloc _) w1.heap.size 0 1 rfl rfl (bind_cells _ _ _ _ _ rfl) (pair2_one _ _ rfl) (by omega) (by have := hW1.size; simp; omega) ?_
           intro g cap w2 ho2 hg2 ha2 hlt2))
      all_goals
        have hfin := copied_fin (w0 := w) HCB.out HTK.out hlt HX.out hB hHs hW1 ho1 h8 ht.1 (own_new ha1) ⟨hx1, hx2⟩ h32 hvne ho2 hg2 ha2
        have HF := Lib.hid hfin
        clear hfin ho1 hg1 ha1 ho2 hg2 ha2
        go_wp2_with fail
        go_roundg (s.length - (k + 1))
        case measure => have := hg.out; omega
        case rel => exact ⟨k + 1, by have := hg.out; show _ = _; omega, by go_num, HF.out.1, HF.out.2, (fun h => by cases h)⟩
    · have hkn : k = s.length := by omega
      subst hkn
      go_wp2_with fail
      go_ret
      refine ⟨_, rfl, ?_, ?_⟩
      · rw [← HHB.out]; exact hB
      · rw [← HHB.out]; simpa using hC
end Go.Proofs.YtldnokeejinebaaDoor
