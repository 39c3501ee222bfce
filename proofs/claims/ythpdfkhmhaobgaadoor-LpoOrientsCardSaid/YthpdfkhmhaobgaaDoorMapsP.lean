/- Maps keyed by two numbers, as functions: made, read, written, kept. Conditions: none. -/
import Derived.Maps.Own
import Derived.Maps.OwnSet
import Derived.Maps.OwnOps
import Derived.WideKeyPair
import Derived.Test.YthpdfkhmhaobgaaDoorRow
set_option linter.unusedVariables false
set_option linter.unusedSimpArgs false
set_option linter.unnecessarySimpa false
namespace Go.Proofs.YthpdfkhmhaobgaaDoor
open Go.RowKit Go.Lib Go.Maps Go.WideMaps

/-- Every value, as it stands. -/
def heldP (v : Value) : Option (DataW Value × List MemPlace) := some (.held v, [])
abbrev okP (p : Int × Int) : Prop := (-9223372036854775808 ≤ p.1 ∧ p.1 ≤ 9223372036854775807) ∧ (-9223372036854775808 ≤ p.2 ∧ p.2 ≤ 9223372036854775807)
theorem wfP {c : Int} (h : -9223372036854775808 ≤ c ∧ c ≤ 9223372036854775807) : (Lit.int .i64 c).wf = true := by
  simp only [Lit.wf, IntKind.min, IntKind.max, IntKind.signed, IntKind.bits]
  simp
  exact h
theorem arrP : ArrKey Tryd.prog 54 3 2 := ⟨Tryd.underlying54, by kernel_rfl, by kernel_rfl, by kernel_rfl⟩
theorem sizeP : ∃ m, Tryd.prog.types.size = m + 1 := ⟨Tryd.prog.types.size - 1, by have : 0 < Tryd.prog.types.size := (of_decide_eq_true (by kernel_rfl)); omega⟩
theorem lawP : Keyed Tryd.prog 54 := Keyed.of_law arrP.law
abbrev keyP (p : Int × Int) : Value := .agg #[.int .i64 p.1, .int .i64 p.2]
def litP (p : Int × Int) : Lit := .string (keyBytes [.int .i64 p.1, .int .i64 p.2])
theorem keyI2 {p : Int × Int} (h : okP p) : keyOf Tryd.prog 54 (keyP p) = some (litP p) := keyOf_pair arrP Tryd.underlying3 sizeP (wfP h.1) (wfP h.2)
theorem lit_inj {p q : Int × Int} (hp : okP p) (hq : okP q) (h : litP p = litP q) : p = q := by
  have := lawP.inj (keyI2 hp) (h ▸ keyI2 hq)
  simp at this
  exact Prod.ext this.1 this.2
/-- A block is a map that holds at each pair what a function says. -/
def MapP (w : World) (b n : Nat) (f : Int × Int → Option Value) : Prop :=
  ∃ D : DataW Value, w.ownsMap Tryd.prog 54 heldP b n D ∧ Maps.size D = n ∧ ∀ c, okP c → (f c = none → Maps.has D (litP c) = false) ∧ ∀ v, f c = some v → Maps.has D (litP c) = true ∧ ∀ z, D.atKey (litP c) z = .held v
theorem MapP.made (w : World) : MapP (w.alloc (.map #[] 0)) w.heap.size 0 (fun _ => none) :=
  ⟨.map [], World.ownsMap_made _ _ _ _, by simp [Maps.size], fun c _ => ⟨fun _ => rfl, fun v h => by cases h⟩⟩
theorem MapP.lt {w : World} {b n : Nat} {f : Int × Int → Option Value} (h : MapP w b n f) : b < w.heap.size := by
  obtain ⟨D, h1, _⟩ := h
  exact h1.lt
theorem MapP.kept {w w' : World} {b n : Nat} {f : Int × Int → Option Value} {row : Option Nat} (h : MapP w b n f) (hg : w.grownBy w' row) (hne : some b ≠ row) : MapP w' b n f := by
  obtain ⟨D, h1, h2⟩ := h
  exact ⟨D, h1.kept hg hne, h2⟩
theorem MapP.below {w w' : World} {b n : Nat} {f : Int × Int → Option Value} (h : MapP w b n f) (hb : Below w.heap.size w w') : MapP w' b n f :=
  h.kept (row := none) ⟨hb.os, hb.tape, hb.output, hb.size, fun i hi _ => hb.block i hi⟩ (by simp)
theorem ownP_tight {w : World} {P : Program} {k : TypeId} {R : Value → Option (DataW Value × List MemPlace)} {b n : Nat} {D : DataW Value} (h : w.ownsMap P k R b n D) : w.ownsMap P k R b (Maps.size D) D := by
  obtain ⟨es, clock, hb, F, _, rfl⟩ := h
  exact ⟨es, clock, hb, F, by simp [Maps.size, length_sorted], rfl⟩
set_option maxRecDepth 100000 in
/-- 'm[k]'. -/
theorem MapP.look1 {w : World} {b n : Nat} {f : Int × Int → Option Value} (h : MapP w b n f) {t e : TypeId} (ht : Tryd.prog.underlying t = some (.map 54 e)) {z : Value} (hz : (zeroValue e).run Tryd.prog w = .ok z w) {c : Int × Int} (hc : okP c) :
    (Instr.lookup t (.map (some b)) (keyP c) false).run Tryd.prog w = .ok ((f c).getD z) w := by
  obtain ⟨D, h1, _, h2⟩ := h
  obtain ⟨v, ps, hr, hv⟩ := h1.lookup lawP ht hz (zd := .held z) (zp := []) rfl (keyI2 hc)
  rw [hr]
  obtain ⟨n1, n2⟩ := h2 c hc
  simp only [heldP, Option.some.injEq, Prod.mk.injEq] at hv
  cases hf : f c with
  | none =>
    have h3 := hv.1.trans (Maps.atKey_of_not_has (n1 hf) _)
    injection h3 with h3
    subst h3
    rfl
  | some x =>
    have h3 := hv.1.trans ((n2 x hf).2 _)
    injection h3 with h3
    subst h3
    rfl
/-- 'm[k] = v', at the operation. -/
theorem wpList_putP {w : World} {ops : Array Oper} {rest : List Oper} {o : Oper} {a : Act} {Q : Exit → Act → World → Prop} (hg : o.guard = none) (m x v : Operand) (t e : TypeId) (hop : o.op = Op.mapUpdate t m x v)
    (ht : Tryd.prog.underlying t = some (.map 54 e)) (b n : Nat) (f : Int × Int → Option Value) (hm : a.eval m = .map (some b)) (h : MapP w b n f) (hn : n < 9223372036854775807) (c : Int × Int) (val : Value) (hx : a.eval x = keyP c) (hv : a.eval v = val) (hc : okP c)
    (hK : ∀ w', MapP w' b (if (f c).isSome then n else n + 1) (fun d => if d = c then some val else f d) → w.grownBy w' (some b) → wpList Tryd.prog ops Q rest (a.put o.dst undef) w') :
    wpList Tryd.prog ops Q (o :: rest) a w := by
  obtain ⟨D, h1, hsz, h2⟩ := h
  have hkey : WideAt.IsKeyLit (litP c) := lawP.key (keyI2 hc)
  have hs2 : Maps.size (D.put (litP c) (.held val)) = if (f c).isSome then n else n + 1 := by
    rw [Maps.size_put (h1.tidy lawP), hsz]
    cases hf : f c with
    | none => rw [(h2 c hc).1 hf]; simp
    | some v => rw [((h2 c hc).2 v hf).1]; simp
  refine wpList_mapUpdate_own w hg m x v t hop 54 e lawP ht heldP b n D hm h1 (by simp only [maxLen]; omega) _ _ _ hx hv (keyI2 hc) (.held val) [] rfl (fun w' r1 r2 => hK w' ⟨_, hs2 ▸ ownP_tight r1, hs2, fun d hd => ?_⟩ r2)
  by_cases e1 : d = c
  · subst e1
    refine ⟨fun h => by simp at h, fun u hu => ?_⟩
    simp at hu
    subst hu
    exact ⟨Maps.has_put_same h1.isMap hkey _, fun z => Maps.atKey_put_same h1.isMap hkey _ _⟩
  · have hne : litP d ≠ litP c := fun e => e1 (lit_inj hd hc e)
    obtain ⟨n1, n2⟩ := h2 d hd
    simp only [if_neg e1]
    exact ⟨fun h => by rw [Maps.has_put_other hne]; exact n1 h, fun u hu => by rw [Maps.has_put_other hne]; exact ⟨(n2 u hu).1, fun z => by rw [Maps.atKey_put_other hne]; exact (n2 u hu).2 z⟩⟩
end Go.Proofs.YthpdfkhmhaobgaaDoor
