/- Maps keyed by numbers, as functions: made, read, written, kept. Conditions: none. -/
import Derived.Maps.Own
import Derived.Maps.OwnSet
import Derived.Maps.OwnOps
import Derived.Test.YtfelhlffiiephaaDoorRow
set_option linter.unusedVariables false
set_option linter.unusedSimpArgs false
set_option maxRecDepth 100000
namespace Go.Proofs.YtfelhlffiiephaaDoor
open Go.RowKit Go.Lib Go.Maps

/-- Every value, as it stands. -/
def heldR (v : Value) : Option (DataW Value × List MemPlace) := some (.held v, [])
abbrev i64ok (c : Int) : Prop := -9223372036854775808 ≤ c ∧ c ≤ 9223372036854775807
theorem wf_of {c : Int} (h : i64ok c) : (Lit.int .i64 c).wf = true := by
  simp only [Lit.wf, IntKind.min, IntKind.max, IntKind.signed, IntKind.bits]
  simp
  exact h
theorem law : Keyed Tryd.prog 3 := int_keyed Tryd.underlying3
theorem keyI {c : Int} (h : i64ok c) : keyOf Tryd.prog 3 (.int .i64 c) = some (.int .i64 c) := keyOf_int_mk Tryd.underlying3 (wf_of h)
/-- A block is a map that holds at each number what a function says. -/
def MapIs (w : World) (b n : Nat) (f : Int → Option Value) : Prop :=
  ∃ D : DataW Value, w.ownsMap Tryd.prog 3 heldR b n D ∧ Maps.size D = n ∧ ∀ c, i64ok c → (f c = none → Maps.has D (.int .i64 c) = false) ∧ ∀ v, f c = some v → Maps.has D (.int .i64 c) = true ∧ ∀ z, D.atKey (.int .i64 c) z = .held v
theorem MapIs.made (w : World) : MapIs (w.alloc (.map #[] 0)) w.heap.size 0 (fun _ => none) :=
  ⟨.map [], World.ownsMap_made _ _ _ _, by simp [Maps.size], fun c _ => ⟨fun _ => rfl, fun v h => by cases h⟩⟩
theorem MapIs.lt {w : World} {b n : Nat} {f : Int → Option Value} (h : MapIs w b n f) : b < w.heap.size := by
  obtain ⟨D, h1, _⟩ := h
  exact h1.lt
theorem MapIs.kept {w w' : World} {b n : Nat} {f : Int → Option Value} {row : Option Nat} (h : MapIs w b n f) (hg : w.grownBy w' row) (hne : some b ≠ row) : MapIs w' b n f := by
  obtain ⟨D, h1, h2⟩ := h
  exact ⟨D, h1.kept hg hne, h2⟩
theorem MapIs.below {w w' : World} {b n : Nat} {f : Int → Option Value} (h : MapIs w b n f) (hb : Below w.heap.size w w') : MapIs w' b n f :=
  h.kept (row := none) ⟨hb.os, hb.tape, hb.output, hb.size, fun i hi _ => hb.block i hi⟩ (by simp)
theorem own_tight {w : World} {P : Program} {k : TypeId} {R : Value → Option (DataW Value × List MemPlace)} {b n : Nat} {D : DataW Value} (h : w.ownsMap P k R b n D) : w.ownsMap P k R b (Maps.size D) D := by
  obtain ⟨es, clock, hb, F, _, rfl⟩ := h
  exact ⟨es, clock, hb, F, by simp [Maps.size, length_sorted], rfl⟩
/-- 'len(m)'. -/
theorem MapIs.len {w : World} {b n : Nat} {f : Int → Option Value} (h : MapIs w b n f) {t e : TypeId} (ht : Tryd.prog.underlying t = some (.map 3 e)) (ty : TypeId) : (Builtin.len_ #[t] ty #[.map (some b)]).run Tryd.prog w = .ok (.int .i64 n) w := by
  obtain ⟨D, h1, h2, _⟩ := h
  rw [h1.len ht ty, h2]
theorem MapIs.ext {w : World} {b n : Nat} {f g : Int → Option Value} (h : MapIs w b n f) (hfg : ∀ c, i64ok c → f c = g c) : MapIs w b n g := by
  obtain ⟨D, h1, h2, h3⟩ := h
  exact ⟨D, h1, h2, fun c hc => by rw [← hfg c hc]; exact h3 c hc⟩
/-- 'v, ok := m[k]'. -/
theorem MapIs.look {w : World} {b n : Nat} {f : Int → Option Value} (h : MapIs w b n f) {t e : TypeId} (ht : Tryd.prog.underlying t = some (.map 3 e)) {z : Value} (hz : (zeroValue e).run Tryd.prog w = .ok z w) {c : Int} (hc : i64ok c) :
    (Instr.lookup t (.map (some b)) (.int .i64 c) true).run Tryd.prog w = .ok (.tuple #[(f c).getD z, .bool (f c).isSome]) w := by
  obtain ⟨D, h1, _, h2⟩ := h
  obtain ⟨v, ps, hr, hv⟩ := h1.look_ok law ht hz (zd := .held z) (zp := []) rfl (keyI hc)
  rw [hr]
  obtain ⟨n1, n2⟩ := h2 c hc
  simp only [heldR, Option.some.injEq, Prod.mk.injEq] at hv
  cases hf : f c with
  | none =>
    have h3 := hv.1.trans (Maps.atKey_of_not_has (n1 hf) _)
    injection h3 with h3
    subst h3
    rw [n1 hf]
    rfl
  | some x =>
    obtain ⟨h4, h5⟩ := n2 x hf
    rw [h4]
    have h3 := hv.1.trans (h5 _)
    injection h3 with h3
    subst h3
    rfl
/-- 'm[k]'. -/
theorem MapIs.look1 {w : World} {b n : Nat} {f : Int → Option Value} (h : MapIs w b n f) {t e : TypeId} (ht : Tryd.prog.underlying t = some (.map 3 e)) {z : Value} (hz : (zeroValue e).run Tryd.prog w = .ok z w) {c : Int} (hc : i64ok c) :
    (Instr.lookup t (.map (some b)) (.int .i64 c) false).run Tryd.prog w = .ok ((f c).getD z) w := by
  obtain ⟨D, h1, _, h2⟩ := h
  obtain ⟨v, ps, hr, hv⟩ := h1.lookup law ht hz (zd := .held z) (zp := []) rfl (keyI hc)
  rw [hr]
  obtain ⟨n1, n2⟩ := h2 c hc
  simp only [heldR, Option.some.injEq, Prod.mk.injEq] at hv
  cases hf : f c with
  | none =>
    have h3 := hv.1.trans (Maps.atKey_of_not_has (n1 hf) _)
    injection h3 with h3
    subst h3
    rfl
  | some x =>
    have h3 := hv.1.trans ((n2 x hf).2 _)
    injection h3 with h3
    subst h3
    rfl
/-- 'm[k] = v', at the operation. -/
theorem wpList_put {w : World} {ops : Array Oper} {rest : List Oper} {o : Oper} {a : Act} {Q : Exit → Act → World → Prop} (hg : o.guard = none) (m x v : Operand) (t e : TypeId) (hop : o.op = Op.mapUpdate t m x v)
    (ht : Tryd.prog.underlying t = some (.map 3 e)) (b n : Nat) (f : Int → Option Value) (hm : a.eval m = .map (some b)) (h : MapIs w b n f) (hn : n < 9223372036854775807) (c : Int) (val : Value) (hx : a.eval x = .int .i64 c) (hv : a.eval v = val) (hc : i64ok c)
    (hK : ∀ w', MapIs w' b (if (f c).isSome then n else n + 1) (fun d => if d = c then some val else f d) → w.grownBy w' (some b) → wpList Tryd.prog ops Q rest (a.put o.dst undef) w') :
    wpList Tryd.prog ops Q (o :: rest) a w := by
  obtain ⟨D, h1, hsz, h2⟩ := h
  have hkey : WideAt.IsKeyLit (.int .i64 c) := trivial
  have hs2 : Maps.size (D.put (.int .i64 c) (.held val)) = if (f c).isSome then n else n + 1 := by
    rw [Maps.size_put (h1.tidy law), hsz]
    cases hf : f c with
    | none => rw [(h2 c hc).1 hf]; simp
    | some v => rw [((h2 c hc).2 v hf).1]; simp
  refine wpList_mapUpdate_own w hg m x v t hop 3 e law ht heldR b n D hm h1 (by simp only [maxLen]; omega) _ _ _ hx hv (keyI hc) (.held val) [] rfl (fun w' r1 r2 => hK w' ⟨_, hs2 ▸ own_tight r1, hs2, fun d hd => ?_⟩ r2)
  by_cases e1 : d = c
  · subst e1
    refine ⟨fun h => by simp at h, fun u hu => ?_⟩
    simp at hu
    subst hu
    exact ⟨Maps.has_put_same h1.isMap hkey _, fun z => Maps.atKey_put_same h1.isMap hkey _ _⟩
  · have hne : (Lit.int .i64 d) ≠ .int .i64 c := fun e => e1 (by injection e)
    obtain ⟨n1, n2⟩ := h2 d hd
    simp only [if_neg e1]
    exact ⟨fun h => by rw [Maps.has_put_other hne]; exact n1 h, fun u hu => by rw [Maps.has_put_other hne]; exact ⟨(n2 u hu).1, fun z => by rw [Maps.atKey_put_other hne]; exact (n2 u hu).2 z⟩⟩
/-- 'len(m)', at the operation. -/
theorem wpList_size {w : World} {ops : Array Oper} {rest : List Oper} {o : Oper} {a : Act} {Q : Exit → Act → World → Prop} (hg : o.guard = none) (m : Operand) (t e : TypeId) (hop : o.op = Op.call { callee := Callee.builtin Builtin.len, args := #[m], argTypes := #[t] })
    (ht : Tryd.prog.underlying t = some (.map 3 e)) (b n : Nat) (f : Int → Option Value) (hm : a.eval m = .map (some b)) (h : MapIs w b n f) (hK : wpList Tryd.prog ops Q rest (a.put o.dst (.int .i64 n)) w) : wpList Tryd.prog ops Q (o :: rest) a w := by
  obtain ⟨D, h1, h2, _⟩ := h
  refine wpList_len_own w hg m t hop 3 e ht heldR b n D hm h1 ?_
  rw [h2]; exact hK
theorem zeroInt (w : World) : (zeroValue 3).run Tryd.prog w = .ok (.int .i64 0) w := by kernel_rfl
end Go.Proofs.YtfelhlffiiephaaDoor
