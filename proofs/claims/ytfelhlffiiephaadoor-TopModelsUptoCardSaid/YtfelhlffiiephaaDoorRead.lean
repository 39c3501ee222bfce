/- The program's reader of rows: the tree it grows, and what it tells. Conditions: none. -/
import Derived.Test.YtfelhlffiiephaaDoorTerm
set_option linter.unusedVariables false
set_option linter.unusedSimpArgs false
namespace Go.Proofs.YtfelhlffiiephaaDoor
open Go.RowKit Go.Lib

/-- The reader, in memory. -/
structure Reader (w : World) (b : Nat) (A : Option Addr) (sl sc : Nat) (B : Option Addr) (tl tc : Nat) (at_ bad : Int) : Prop where
  c0 : w.cell? ⟨b, 0, none⟩ = some (.slice A sl sc)
  c1 : w.cell? ⟨b, 1, none⟩ = some (.slice B tl tc)
  c2 : w.cell? ⟨b, 2, none⟩ = some (.int .i64 at_)
  c3 : w.cell? ⟨b, 3, none⟩ = some (.int .i64 bad)
  fz : ∀ j, w.frozen? ⟨b, j, none⟩ = false
abbrev leafV (n : Int) : Value := .iface 113 (.int .i64 n)
abbrev innerV (b : Nat) : Value := .iface 114 (.pointer (some ⟨b, 0, none⟩))

set_option maxRecDepth 100000 in
theorem read_bad (b : Nat) (A B : Option Addr) (sl sc tl tc : Nat) (at_ bad : Int) (hbad : bad ≠ 0) (w : World) (hR : Reader w b A sl sc B tl tc at_ bad) :
    Calls Tryd.prog 43 #[.pointer (some ⟨b, 0, none⟩)] w fun e w' => e = .returned (leafV 0) ∧ w = w' := by
  obtain ⟨c0, c1, c2, c3, fz⟩ := hR
  have hb : (bad == 0) = false := beq_eq_false_iff_ne.2 hbad
  have hb' : (bad != 0) = true := bne_iff_ne.2 hbad
  go_enter Tryd.func43, Tryd.ntmps43
  go_wp2_with fail
  go_ret
  exact ⟨rfl, rfl⟩

/-- A row of nodes, one behind the other. -/
def KidsBy (R : Value → Nat → Nat → Prop) : List Value → Nat → Nat → Prop
  | [], i, e => i = e
  | v :: ks, i, e => ∃ m, R v i m ∧ KidsBy R ks m e
theorem KidsBy.mono {R S : Value → Nat → Nat → Prop} (h : ∀ v i e, R v i e → S v i e) : ∀ {ks : List Value} {i e : Nat}, KidsBy R ks i e → KidsBy S ks i e
  | [], _, _, k => k
  | _ :: _, _, _, ⟨m, k1, k2⟩ => ⟨m, h _ _ _ k1, KidsBy.mono h k2⟩
theorem KidsBy.snoc {R : Value → Nat → Nat → Prop} : ∀ {ks : List Value} {i m e : Nat} {v : Value}, KidsBy R ks i m → R v m e → KidsBy R (ks ++ [v]) i e
  | [], _, _, _, _, k, h => by cases k; exact ⟨_, h, rfl⟩
  | _ :: _, _, _, _, _, ⟨m, k1, k2⟩, h => ⟨m, k1, KidsBy.snoc k2 h⟩
/-- The kids' slice. -/
def KidRow (w : World) (S : Nat → Prop) (kv : Value) (ks : List Value) : Prop :=
  (ks = [] ∧ kv = .slice none 0 0) ∨ ∃ g cap, kv = .slice (some ⟨g, 0, none⟩) ks.length cap ∧ S g ∧ g < w.heap.size ∧ ks.length ≤ cap ∧ ∀ j u, ks[j]? = some u → w.cell? ⟨g, j, none⟩ = some u
/-- A node, in memory, in a set of blocks: of the term that stands from one place to before another. -/
def Node (w : World) (S : Nat → Prop) (l : List Sy) (t : List Int) : Nat → Value → Nat → Nat → Prop
  | 0, _, _, _ => False
  | f + 1, v, i, e => i < t.length ∧ i < e ∧ ((t.getD i 0 < 0 ∧ e = i + 1 ∧ v = leafV (-1 - t.getD i 0)) ∨
      (0 ≤ t.getD i 0 ∧ ∃ b kv ks, v = innerV b ∧ S b ∧ w.cell? ⟨b, 0, none⟩ = some (.int .i64 i) ∧ w.cell? ⟨b, 1, none⟩ = some (.int .i64 ((e : Int) - i)) ∧ w.cell? ⟨b, 2, none⟩ = some kv ∧
        KidRow w S kv ks ∧ ks.length = arOf l (t.getD i 0) ∧ KidsBy (Node w S l t f) ks (i + 1) e))
/-- A set of blocks is within another one, and stays as it was. -/
def Keeps (S T : Nat → Prop) (w w' : World) : Prop := w.heap.size ≤ w'.heap.size ∧ ∀ k, S k → k < w.heap.size → T k ∧ w'.heap[k]? = w.heap[k]?
theorem Keeps.cell {S T : Nat → Prop} {w w' : World} (h : Keeps S T w w') {b j : Nat} {v : Value} (hb : S b) (hc : w.cell? ⟨b, j, none⟩ = some v) : w'.cell? ⟨b, j, none⟩ = some v :=
  (World.cell?_of_block (a := ⟨b, j, none⟩) (h.2 b hb (World.block_lt_of_cell? w _ hc)).2).trans hc
theorem Keeps.set {S T : Nat → Prop} {w w' : World} (h : Keeps S T w w') {b j : Nat} {v : Value} (hb : S b) (hc : w.cell? ⟨b, j, none⟩ = some v) : T b := (h.2 b hb (World.block_lt_of_cell? w _ hc)).1
theorem KidRow.keep {S T : Nat → Prop} {w w' : World} (h : Keeps S T w w') {kv : Value} {ks : List Value} (k : KidRow w S kv ks) : KidRow w' T kv ks := by
  rcases k with k | ⟨g, cap, h1, h2, h3, h4, h5⟩
  · exact .inl k
  · exact .inr ⟨g, cap, h1, (h.2 g h2 h3).1, Nat.lt_of_lt_of_le h3 h.1, h4, fun j u hj => h.cell h2 (h5 j u hj)⟩
theorem Node.keep {S T : Nat → Prop} {w w' : World} (h : Keeps S T w w') {l : List Sy} {t : List Int} : ∀ {f : Nat} {v : Value} {i e : Nat}, Node w S l t f v i e → Node w' T l t f v i e
  | 0, _, _, _, k => k
  | f + 1, _, _, _, ⟨h1, h2, h3⟩ => ⟨h1, h2, by
      rcases h3 with h3 | ⟨k0, b, kv, ks, k1, k2, k3, k4, k5, k6, k7, k8⟩
      · exact .inl h3
      · exact .inr ⟨k0, b, kv, ks, k1, h.set k2 k3, h.cell k2 k3, h.cell k2 k4, h.cell k2 k5, k6.keep h, k7, k8.mono fun _ _ _ => Node.keep h⟩⟩
/-- What may be asked for its size. -/
def Sized (w : World) (S : Nat → Prop) (v : Value) (n : Int) : Prop := (∃ m, v = leafV m ∧ n = 1) ∨ ∃ b, v = innerV b ∧ S b ∧ w.cell? ⟨b, 1, none⟩ = some (.int .i64 n)
theorem Node.sized {w : World} {S : Nat → Prop} {l : List Sy} {t : List Int} : ∀ {f : Nat} {v : Value} {i e : Nat}, Node w S l t f v i e → Sized w S v ((e : Int) - i)
  | 0, _, _, _, k => k.elim
  | f + 1, _, _, _, ⟨h1, h2, h3⟩ => by
      rcases h3 with ⟨_, rfl, rfl⟩ | ⟨_, b, kv, ks, k1, k2, k3, k4, k5, k6, k7, k8⟩
      · exact .inl ⟨_, rfl, by omega⟩
      · exact .inr ⟨b, k1, k2, k4⟩
theorem Sized.keep {S T : Nat → Prop} {w w' : World} (h : Keeps S T w w') {v : Value} {n : Int} (k : Sized w S v n) : Sized w' T v n := by
  rcases k with k | ⟨b, h1, h2, h3⟩
  · exact .inl k
  · exact .inr ⟨b, h1, h.set h2 h3, h.cell h2 h3⟩

theorem scan_err (l : List Sy) : ∀ (t : List Int) (k : Nat) (e : Int), scan l k t = .error e → e = 30 ∨ e = 31
  | _, 0, e, h => by simp [scan] at h
  | [], k + 1, e, h => by simp [scan] at h; exact .inr h.symm
  | c :: t, k + 1, e, h => by
    rw [scan] at h
    split at h
    · simp at h; exact .inl h.symm
    · have ih := scan_err l t (k + arOf l c)
      cases hs : scan l (k + arOf l c) t with
      | ok n => rw [hs] at h; cases h
      | error e' => rw [hs] at h ih; simp at h; exact h ▸ ih e' rfl
theorem scanAt_err {l : List Sy} {t : List Int} {k i : Nat} {e : Int} (h : scanAt l t k i = .error e) : e = 30 ∨ e = 31 := by
  unfold scanAt at h
  cases hs : scan l k (t.drop i) with
  | ok n => rw [hs] at h; cases h
  | error e' => rw [hs] at h; simp at h; exact h ▸ scan_err l _ _ _ hs
theorem scan_ok (l : List Sy) : ∀ (t : List Int) (k n : Nat), scan l k t = .ok n → k ≤ n ∧ n ≤ t.length
  | _, 0, n, h => by simp [scan] at h; omega
  | [], k + 1, n, h => by simp [scan] at h
  | c :: t, k + 1, n, h => by
    rw [scan] at h
    split at h
    · cases h
    · have ih := scan_ok l t (k + arOf l c)
      cases hs : scan l (k + arOf l c) t with
      | ok m => rw [hs] at h ih; simp at h; have := ih m rfl; simp; omega
      | error e' => rw [hs] at h; cases h
theorem scanAt_ok {l : List Sy} {t : List Int} {k i n : Nat} (h : scanAt l t k i = .ok n) : i + k ≤ n ∧ (i ≤ t.length → n ≤ t.length) := by
  unfold scanAt at h
  cases hs : scan l k (t.drop i) with
  | ok m => rw [hs] at h; simp at h; have := scan_ok l _ _ _ hs; rw [List.length_drop] at this; omega
  | error e' => rw [hs] at h; cases h
theorem scan_add (l : List Sy) : ∀ (t : List Int) (a b : Nat), scan l (a + b) t = match scan l a t with
    | .ok n => scanAt l t b n
    | .error e => .error e
  | t, 0, b => by
    simp only [scan, Nat.zero_add, scanAt, List.drop_zero]
    cases scan l b t <;> simp
  | [], a + 1, b => by
    have : a + 1 + b = (a + b) + 1 := by omega
    rw [this, scan, scan]
  | c :: t, a + 1, b => by
    have : a + 1 + b = (a + b) + 1 := by omega
    rw [this, scan, scan]
    split
    · rfl
    · have ih := scan_add l t (a + arOf l c) b
      have : a + b + arOf l c = a + arOf l c + b := by omega
      rw [this, ih]
      cases hs : scan l (a + arOf l c) t with
      | error e => rfl
      | ok n =>
        simp only [scanAt, List.drop_succ_cons]
        cases scan l b (t.drop n) with
        | ok m => simp only [Except.ok.injEq]; omega
        | error e => rfl
theorem scanAt_add (l : List Sy) (t : List Int) (a b i : Nat) : scanAt l t (a + b) i = match scanAt l t a i with
    | .ok n => scanAt l t b n
    | .error e => .error e := by
  rw [scanAt, scan_add]
  cases hs : scan l a (t.drop i) with
  | error e => simp [scanAt, hs]
  | ok n =>
    simp only [scanAt, hs, List.drop_drop]
    rw [show i + n = n + i by omega]
    cases scan l b (t.drop (n + i)) with
    | ok m => simp only [Except.ok.injEq]; omega
    | error e => rfl
end Go.Proofs.YtfelhlffiiephaaDoor
