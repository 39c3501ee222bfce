/- A term as the path order's tree in memory: what a node is, that it is kept, and how the program grows it. Conditions: none. -/
import Derived.Test.YthpdfkhmhaobgaaDoorLpoTree
import Derived.Test.YthpdfkhmhaobgaaDoorTree
import Derived.Test.YthpdfkhmhaobgaaDoorRow
set_option linter.unusedVariables false
set_option linter.unusedSimpArgs false
set_option linter.unnecessarySimpa false
namespace Go.Proofs.YthpdfkhmhaobgaaDoor
open Go.RowKit Go.Lib

abbrev varV (n : Int) : Value := .iface 105 (.int .i64 n)
abbrev funV (b : Nat) : Value := .iface 106 (.pointer (some ⟨b, 0, none⟩))
/-- A node, in memory, in a set of blocks: of the term that stands from one place to before another; the row lies at an address. -/
def LNode (w : World) (S : Nat → Prop) (l : List Sy) (t : List Int) (tb tf : Nat) : Nat → Value → Nat → Nat → Prop
  | 0, _, _, _ => False
  | f + 1, v, i, e => i < t.length ∧ i < e ∧ e ≤ t.length ∧ scanAt l t 1 i = .ok e ∧ ((t.getD i 0 < 0 ∧ v = varV (-1 - t.getD i 0)) ∨
      (0 ≤ t.getD i 0 ∧ ∃ b kv ks c, v = funV b ∧ S b ∧ w.cell? ⟨b, 0, none⟩ = some (.int .i64 (t.getD i 0)) ∧ w.cell? ⟨b, 1, none⟩ = some (.int .i64 i) ∧ w.cell? ⟨b, 2, none⟩ = some (.slice (some ⟨tb, tf + i, none⟩) (e - i) c) ∧
        w.cell? ⟨b, 3, none⟩ = some kv ∧ KidRow w S kv ks ∧ ks.length = arOf l (t.getD i 0) ∧ KidsBy (LNode w S l t tb tf f) ks (i + 1) e))
theorem LNode.keep {S T : Nat → Prop} {w w' : World} (h : Keeps S T w w') {l : List Sy} {t : List Int} {tb tf : Nat} : ∀ {f : Nat} {v : Value} {i e : Nat}, LNode w S l t tb tf f v i e → LNode w' T l t tb tf f v i e
  | 0, _, _, _, k => k
  | f + 1, _, _, _, ⟨h1, h2, h2', hs, h3⟩ => ⟨h1, h2, h2', hs, by
      rcases h3 with h3 | ⟨k0, b, kv, ks, c, k1, k2, k3, k4, k5, k5', k6, k7, k8⟩
      · exact .inl h3
      · exact .inr ⟨k0, b, kv, ks, c, k1, h.set k2 k3, h.cell k2 k3, h.cell k2 k4, h.cell k2 k5, h.cell k2 k5', k6.keep h, k7, k8.mono fun _ _ _ => LNode.keep h⟩⟩
theorem keeps_below {n : Nat} {w w' : World} (h : Below w.heap.size w w') : Keeps (From n) (From n) w w' := ⟨h.size, fun b hb hlt => ⟨hb, h.block b hlt⟩⟩
theorem keeps_grown {n : Nat} {w w' : World} {row : Option Nat} (h : w.grownBy w' row) (hr : ∀ k, row = some k → k < n) : Keeps (From n) (From n) w w' := ⟨h.size, fun b hb hlt => ⟨hb, h.block b hlt (fun e => by have := hr b e.symm; have : n ≤ b := hb; omega)⟩⟩
theorem LNode.from {w : World} {n m : Nat} (h : n ≤ m) {l : List Sy} {t : List Int} {tb tf : Nat} {f : Nat} {v : Value} {i e : Nat} (k : LNode w (From m) l t tb tf f v i e) : LNode w (From n) l t tb tf f v i e :=
  LNode.keep (S := From m) (T := From n) ⟨Nat.le_refl _, fun b hb _ => ⟨Nat.le_trans h hb, rfl⟩⟩ k
/-- The growing node: so many arguments are there. -/
def LGrow (l : List Sy) (t : List Int) (tb tf tc n i xb an m : Nat) (W w : World) (j : Nat) : Prop :=
  Below W.heap.size W w ∧ ∃ (kv : Value) (ks : List Value), W.heap.size ≤ xb ∧ w.cell? ⟨xb, 0, none⟩ = some (.int .i64 (t.getD i 0)) ∧ w.cell? ⟨xb, 1, none⟩ = some (.int .i64 i) ∧ w.cell? ⟨xb, 2, none⟩ = some (.slice none 0 0) ∧ w.cell? ⟨xb, 3, none⟩ = some kv ∧ (∀ k, w.frozen? ⟨xb, k, none⟩ = false) ∧
    w.ownsRow (xb + 1) 67 1 kv m ks ∧ i < j ∧ j ≤ t.length ∧ KidsBy (LNode w (Beside xb kv) l t tb tf n) ks (i + 1) j ∧ scanAt l t 1 i = scanAt l t (an - m) j
theorem infoTree : (Tryd.prog.info? 67).map (fun i => (i.zero, i.size, i.bytes)) = some (some .nilIface, 1, 16) := by kernel_rfl
end Go.Proofs.YthpdfkhmhaobgaaDoor
