/- slices.Equal and slices.Contains at rows of numbers, and whether two of the path order's trees are one. Conditions: none. -/
import Derived.Test.YthpdfkhmhaobgaaDoorLpoNode
import Derived.Deep.RegionLaw
import Derived.Deep.LoopGhost
set_option linter.unusedVariables false
set_option linter.unusedSimpArgs false
set_option linter.unnecessarySimpa false
namespace Go.Proofs.YthpdfkhmhaobgaaDoor
open Go.RowKit Go.Lib

set_option maxRecDepth 100000 in
theorem equal_any (A B : Option Addr) (t u : List Int) (c d : Nat) (w : World) (ht : Ints w A t) (hu : Ints w B u) :
    Calls Tryd.prog 59 #[.slice A t.length c, .slice B u.length d] w fun e w' => e = .returned (.bool (decide (t = u))) ∧ Below w.heap.size w w' := by
  have m1 := ht.2.1
  have m2 := hu.2.1
  by_cases hlen : t.length = u.length
  · have hlen' := Lib.hid hlen
    obtain ⟨n, hn⟩ : ∃ n, n = t.length := ⟨_, rfl⟩
    have hn2 : u.length = n := by omega
    rw [hn2, ← hn]
    have HN := Lib.hid hn
    have HN2 := Lib.hid hn2
    rw [← hn] at m1
    clear hlen hn hn2 m2
    go_enter Tryd.func59, Tryd.ntmps59
    go_wp2_with fail
    go_loopg [13] n (fun gk i wr => ∃ k : Nat, Aside (gk + k = n) ∧ i = .int .i64 k ∧ Below w.heap.size w wr ∧ Aside (∀ j, j < k → t.getD j 0 = u.getD j 0))
    case atStart => exact ⟨0, (rfl : n + 0 = n), rfl, Below.refl _ _, fun j hj => by omega⟩
    case round =>
      obtain ⟨k, hg, rfl, hB, hE⟩ := hrel
      have hk : k ≤ n := by have := hg.out; omega
      have HE := Lib.hid hE.out
      clear hE
      by_cases hlt : k < n
      · have ht' := ht.kept hB
        have hu' := hu.kept hB
        obtain ⟨b, off, x, rfl, hx, hx1, hx2, hxc⟩ := ht'.at_ (show k < t.length by have := HN.out; omega)
        obtain ⟨b2, off2, y, rfl, hy, hy1, hy2, hyc⟩ := hu'.at_ (show k < u.length by have := HN2.out; omega)
        have HX := Lib.hid hx
        have HY := Lib.hid hy
        clear hx hy
        by_cases hq : x = y
        · have hq1 : (x == y) = true := beq_iff_eq.2 hq
          have hq2 : (x != y) = false := by simp [hq]
          have HQ := Lib.hid hq
          clear hq
          go_wp2_with fail
          go_quiet (fail)
          go_wp2_with fail
          go_roundg (n - (k + 1))
          case measure => have := hg.out; omega
          case rel =>
            refine ⟨k + 1, by have := hg.out; show _ = _; omega, by go_num, below_drawN hB _, fun j hj => ?_⟩
            by_cases e : j = k
            · subst e; rw [HX.out, HY.out]; exact HQ.out
            · exact HE.out j (by omega)
        · have hq1 : (x == y) = false := beq_eq_false_iff_ne.2 hq
          have hq2 : (x != y) = true := bne_iff_ne.2 hq
          have HQ := Lib.hid hq
          clear hq
          go_wp2_with fail
          go_quiet (fail)
          go_wp2_with fail
          go_ret
          refine ⟨?_, below_drawN hB _⟩
          rw [decide_eq_false (fun e => HQ.out (by rw [← HX.out, ← HY.out, e]))]; rfl
      · have hkn : k = n := by omega
        subst hkn
        go_wp2_with fail
        go_ret
        refine ⟨?_, hB⟩
        rw [decide_eq_true (rows_eq t u hlen'.out (fun j hj => HE.out j (by have := HN.out; omega)))]; rfl
  · have hq1 : ((t.length : Int) == (u.length : Int)) = false := beq_eq_false_iff_ne.2 (by omega)
    have hq2 : ((t.length : Int) != (u.length : Int)) = true := bne_iff_ne.2 (by omega)
    have hne : t ≠ u := fun e => hlen (by rw [e])
    rw [decide_eq_false hne]
    clear hne hlen
    go_enter Tryd.func59, Tryd.ntmps59
    go_wp2_with fail
    go_ret
    exact ⟨rfl, Below.refl _ _⟩
set_option maxRecDepth 100000 in
theorem indexI_any (A : Option Addr) (t : List Int) (c : Nat) (v : Int) (w : World) (ht : Ints w A t) :
    Calls Tryd.prog 49 #[.slice A t.length c, .int .i64 v] w fun e w' => e = .returned (.int .i64 (if v ∈ t then (t.idxOf v : Int) else -1)) ∧ w = w' := by
  have m1 := ht.2.1
  obtain ⟨r, hr⟩ : ∃ r, r = if v ∈ t then (t.idxOf v : Int) else -1 := ⟨_, rfl⟩
  rw [← hr]
  have HR := Lib.hid hr
  clear hr
  go_enter Tryd.func49, Tryd.ntmps49
  go_wp2_with fail
  go_loopg [8] t.length (fun gk i wr => ∃ k : Nat, Aside (gk + k = t.length) ∧ i = .int .i64 k ∧ w = wr ∧ Aside (v ∉ t.take k))
  case atStart => exact ⟨0, (rfl : t.length + 0 = _), rfl, rfl, fun h => by simp at h⟩
  case round =>
    obtain ⟨k, hg, rfl, rfl, hE⟩ := hrel
    have hk : k ≤ t.length := by have := hg.out; omega
    have HE := Lib.hid hE.out
    clear hE
    by_cases hlt : k < t.length
    · obtain ⟨b, off, x, rfl, hx, hx1, hx2, hxc⟩ := ht.at_ hlt
      have HX := Lib.hid hx
      clear hx
      by_cases hq : v = x
      · have hq1 : (v == x) = true := beq_iff_eq.2 hq
        have HQ := Lib.hid hq
        clear hq
        go_wp2_with fail
        go_ret
        refine ⟨?_, rfl⟩
        have hsp : t = t.take k ++ v :: t.drop (k + 1) := by
          have := List.take_append_drop k t
          rw [drop_cons t k hlt, HX.out, ← HQ.out] at this
          exact this.symm
        have hin : v ∈ t := by rw [hsp]; simp
        have hid : t.idxOf v = k := by
          conv => lhs; rw [hsp]
          rw [List.idxOf_append, if_neg HE.out]
          simp
          omega
        rw [HR.out, if_pos hin, hid]; rfl
      · have hq1 : (v == x) = false := beq_eq_false_iff_ne.2 hq
        have HQ := Lib.hid hq
        clear hq
        go_wp2_with fail
        go_roundg (t.length - (k + 1))
        case measure => have := hg.out; omega
        case rel =>
          refine ⟨k + 1, by have := hg.out; show _ = _; omega, by go_num, rfl, ?_⟩
          show v ∉ t.take (k + 1)
          rw [take_succ' t 0 hlt, HX.out]
          simp only [List.mem_append, List.mem_singleton]
          rintro (h | h)
          · exact HE.out h
          · exact HQ.out h
    · have hkn : k = t.length := by omega
      subst hkn
      go_wp2_with fail
      go_ret
      refine ⟨?_, rfl⟩
      have := HE.out
      rw [List.take_length] at this
      rw [HR.out, if_neg this]; rfl
set_option maxRecDepth 100000 in
theorem containsI_any (A : Option Addr) (t : List Int) (c : Nat) (v : Int) (w : World) (ht : Ints w A t) :
    Calls Tryd.prog 39 #[.slice A t.length c, .int .i64 v] w fun e w' => e = .returned (.bool (decide (v ∈ t))) ∧ w = w' := by
  have cI := indexI_any A t c v w ht
  by_cases h : v ∈ t
  · rw [if_pos h] at cI
    rw [decide_eq_true h]
    generalize t.idxOf v = n at cI
    clear h
    go_enter Tryd.func39, Tryd.ntmps39
    go_wp2_with fail
    refine cI.mono ?_
    rintro e w' ⟨rfl, rfl⟩
    have hn : decide (0 ≤ (n : Int)) = true := decide_eq_true (by omega)
    go_wp2_with fail
    go_ret
    exact ⟨by simp, rfl⟩
  · rw [if_neg h] at cI
    rw [decide_eq_false h]
    clear h
    go_enter Tryd.func39, Tryd.ntmps39
    go_wp2_with fail
    refine cI.mono ?_
    rintro e w' ⟨rfl, rfl⟩
    go_wp2_with fail
    go_ret
    exact ⟨rfl, rfl⟩
theorem var_is_var (n : Int) (w : World) : (Instr.typeAssert (varV n) 67 105 true).run Tryd.prog w = .ok (.tuple #[.int .i64 n, .bool true]) w := by kernel_rfl
theorem fun_is_var (b : Nat) (w : World) : (Instr.typeAssert (funV b) 67 105 true).run Tryd.prog w = .ok (.tuple #[.int .i64 0, .bool false]) w := by kernel_rfl
theorem var_is_fun (n : Int) (w : World) : (Instr.typeAssert (varV n) 67 106 true).run Tryd.prog w = .ok (.tuple #[.pointer none, .bool false]) w := by kernel_rfl
theorem fun_is_fun (b : Nat) (w : World) : (Instr.typeAssert (funV b) 67 106 true).run Tryd.prog w = .ok (.tuple #[.pointer (some ⟨b, 0, none⟩), .bool true]) w := by kernel_rfl
theorem fun_as_fun (b : Nat) (w : World) : (Instr.typeAssert (funV b) 67 106 false).run Tryd.prog w = .ok (.pointer (some ⟨b, 0, none⟩)) w := by kernel_rfl
theorem var_as_var (n : Int) (w : World) : (Instr.typeAssert (varV n) 67 105 false).run Tryd.prog w = .ok (.int .i64 n) w := by kernel_rfl

/-- A node's place, and what it stands for. -/
theorem LNode.sub {w : World} {S : Nat → Prop} {l : List Sy} {t : List Int} {tb tf f : Nat} {v : Value} {i e : Nat} (h : LNode w S l t tb tf f v i e) : i < t.length ∧ i < e ∧ e ≤ t.length ∧ scanAt l t 1 i = .ok e ∧ subAt l t i = (t.drop i).take (e - i) := by
  cases f with
  | zero => exact h.elim
  | succ f =>
    obtain ⟨h1, h2, h3, h4, _⟩ := h
    exact ⟨h1, h2, h3, h4, by unfold subAt; rw [endOf_ok h4]⟩
theorem sub_head {t : List Int} {i e : Nat} (h1 : i < t.length) (h2 : i < e) : ∃ r, (t.drop i).take (e - i) = t.getD i 0 :: r := by
  rw [drop_cons t i h1, show e - i = (e - i - 1) + 1 by omega, List.take_succ_cons]
  exact ⟨_, rfl⟩
set_option maxRecDepth 100000 in
set_option maxHeartbeats 2000000 in
theorem same_any (l : List Sy) (s t : List Int) (sb sf tb tf f g i j e1 e2 : Nat) (S T : Nat → Prop) (a b : Value) (w : World) (hs : Ints w (some ⟨sb, sf, none⟩) s) (ht : Ints w (some ⟨tb, tf, none⟩) t)
    (ha : LNode w S l s sb sf f a i e1) (hb : LNode w T l t tb tf g b j e2) :
    Calls Tryd.prog 50 #[a, b] w fun e w' => e = .returned (.bool (decide (subAt l s i = subAt l t j))) ∧ Below w.heap.size w w' := by
  obtain ⟨a1, a2, a3, a4, a5⟩ := ha.sub
  obtain ⟨b1, b2, b3, b4, b5⟩ := hb.sub
  obtain ⟨ra, hra⟩ := sub_head (e := e1) a1 a2
  obtain ⟨rb, hrb⟩ := sub_head (e := e2) b1 b2
  cases f with
  | zero => exact ha.elim
  | succ f =>
    cases g with
    | zero => exact hb.elim
    | succ g =>
      rcases ha.2.2.2.2 with ⟨ha1, rfl⟩ | ⟨ha1, xa, kva, ksa, ca, rfl, _, p0, p1, p2, p3, _⟩
      · have he1 : e1 = i + 1 := by
          obtain ⟨_, _, hn⟩ := scan_more (k := 0) a4
          rw [arOf, if_pos ha1, scanAt_zero] at hn
          injection hn with hn
          exact hn.symm
        have hsa : subAt l s i = [s.getD i 0] := by rw [a5, he1, show i + 1 - i = 1 by omega, drop_cons s i a1]; rfl
        rcases hb.2.2.2.2 with ⟨hb1, rfl⟩ | ⟨hb1, xb, kvb, ksb, cb, rfl, _, q0, q1, q2, q3, _⟩
        · have he2 : e2 = j + 1 := by
            obtain ⟨_, _, hn⟩ := scan_more (k := 0) b4
            rw [arOf, if_pos hb1, scanAt_zero] at hn
            injection hn with hn
            exact hn.symm
          have hsb : subAt l t j = [t.getD j 0] := by rw [b5, he2, show j + 1 - j = 1 by omega, drop_cons t j b1]; rfl
          have hq : (decide (subAt l s i = subAt l t j)) = ((-1 - s.getD i 0) == (-1 - t.getD j 0)) := by
            rw [hsa, hsb]
            by_cases h : s.getD i 0 = t.getD j 0
            · rw [h, decide_eq_true rfl, beq_self_eq_true]
            · rw [decide_eq_false (fun e => h (by injection e)), beq_eq_false_iff_ne.2 (by omega)]
          rw [hq]
          have t1 := var_is_var (-1 - s.getD i 0)
          have t2 := var_is_var (-1 - t.getD j 0)
          generalize -1 - s.getD i 0 = x at t1 ⊢
          generalize -1 - t.getD j 0 = y at t2 ⊢
          clear ha hb hq hsa hsb hra hrb a4 b4 a5 b5
          go_enter Tryd.func50, Tryd.ntmps50
          go_wp2_with fail
          go_ret
          exact ⟨rfl, Below.refl _ _⟩
        · have hq : (decide (subAt l s i = subAt l t j)) = false := decide_eq_false (fun e => by
            rw [hsa, b5, hrb] at e
            injection e with e
            omega)
          rw [hq]
          have t1 := var_is_var (-1 - s.getD i 0)
          have t2 := fun_is_var xb
          generalize -1 - s.getD i 0 = x at t1 ⊢
          clear ha hb hq hsa hra hrb a4 b4 a5 b5 q0 q1 q2 q3
          go_enter Tryd.func50, Tryd.ntmps50
          go_wp2_with fail
          go_ret
          exact ⟨rfl, Below.refl _ _⟩
      · have t0 := fun_is_var xa
        have t1 := fun_as_fun xa
        rcases hb.2.2.2.2 with ⟨hb1, rfl⟩ | ⟨hb1, xb, kvb, ksb, cb, rfl, _, q0, q1, q2, q3, _⟩
        · have hsb : ∃ r, subAt l t j = t.getD j 0 :: r := ⟨_, b5.trans hrb⟩
          obtain ⟨r, hsb⟩ := hsb
          have hq : (decide (subAt l s i = subAt l t j)) = false := decide_eq_false (fun e => by
            rw [a5, hra, hsb] at e
            injection e with e
            omega)
          rw [hq]
          have t2 := var_is_fun (-1 - t.getD j 0)
          generalize -1 - t.getD j 0 = y at t2 ⊢
          clear ha hb hq hsb hra hrb a4 b4 a5 b5 p0 p1 p2 p3
          go_enter Tryd.func50, Tryd.ntmps50
          go_wp2_with fail
          refine wp_region_ext (I := Over w) (by kernel_rfl) (by kernel_rfl) (Over.refl w) ?_
          repeat (go_big_quiet_step (fail))
          try refine wpQuiet_nil ?_
          intro w' hw'
          go_wp2_with fail
          go_ret
          exact ⟨rfl, hw'⟩
        · have i1 := hs.part i (e1 - i)
          have i2 := ht.part j (e2 - j)
          rw [← a5] at i1
          rw [← b5] at i2
          have l1 : (subAt l s i).length = e1 - i := by rw [a5, List.length_take, List.length_drop]; omega
          have l2 : (subAt l t j).length = e2 - j := by rw [b5, List.length_take, List.length_drop]; omega
          have t2 := fun_is_fun xb
          have cE := fun W h1 h2 => equal_any (some ⟨sb, sf + i, none⟩) (some ⟨tb, tf + j, none⟩) (subAt l s i) (subAt l t j) ca cb W h1 h2
          rw [l1, l2] at cE
          generalize subAt l s i = X at i1 cE ⊢
          generalize subAt l t j = Y at i2 cE ⊢
          generalize decide (X = Y) = r at cE ⊢
          clear ha hb hra hrb a4 b4 a5 b5 l1 l2 p0 p1 p3 q0 q1 q3
          go_enter Tryd.func50, Tryd.ntmps50
          go_wp2_with fail
          refine wp_region_ext (I := Over w) (by kernel_rfl) (by kernel_rfl) (Over.refl w) ?_
          have f1 := Over.cell p2
          have f2 := Over.cell q2
          repeat (go_big_quiet_step ((go_at_call 59; exact Calls.over (cE _ (i1.kept (Ext.ok _)) (i2.kept (Ext.ok _))))))
          try refine wpQuiet_nil ?_
          intro w' hw'
          go_wp2_with fail
          go_ret
          exact ⟨by cases r <;> rfl, hw'⟩
end Go.Proofs.YthpdfkhmhaobgaaDoor
