/- Rules, steps and lemmas: as memory holds them, and what a step and a lemma come to. Conditions: none. -/
import Derived.Test.YtfelhlffiiephaaDoorLaid
import Derived.Test.YtfelhlffiiephaaDoorPlaces
import Derived.Test.YtfelhlffiiephaaDoorBind
set_option linter.unusedVariables false
set_option linter.unusedSimpArgs false
namespace Go.Proofs.YtfelhlffiiephaaDoor
open Go.RowKit Go.Lib

/-- Two rows: a rule, an equation. -/
abbrev Rl := List Int × List Int
abbrev rl0 : Rl := ([], [])
def Rules (w : World) (A : Option Addr) (rs : List Rl) : Prop :=
  rs.length ≤ 140737488355328 ∧ (0 < rs.length → ∃ b off, A = some ⟨b, off, none⟩ ∧ ∀ k, k < rs.length → ∃ u v, w.cell? ⟨b, off + k * 2, none⟩ = some u ∧ RowV w u (rs.getD k rl0).1 ∧ w.cell? ⟨b, off + k * 2 + 1, none⟩ = some v ∧ RowV w v (rs.getD k rl0).2)
theorem Rules.kept {w w' : World} {A : Option Addr} {rs : List Rl} (h : Rules w A rs) (hb : Below w.heap.size w w') : Rules w' A rs :=
  ⟨h.1, fun h0 => by
    obtain ⟨b, off, rfl, hc⟩ := h.2 h0
    exact ⟨b, off, rfl, fun k hk => by
      obtain ⟨u, v, h1, h2, h3, h4⟩ := hc k hk
      exact ⟨u, v, cell_kept hb h1, h2.kept hb, cell_kept hb h3, h4.kept hb⟩⟩⟩
theorem Rules.at_ {w : World} {A : Option Addr} {rs : List Rl} (h : Rules w A rs) {k : Nat} (hk : k < rs.length) :
    ∃ b off x y B C c d, A = some ⟨b, off, none⟩ ∧ rs.getD k rl0 = (x, y) ∧ w.cell? ⟨b, off + k * 2, none⟩ = some (.slice B x.length c) ∧ w.cell? ⟨b, off + k * 2 + 1, none⟩ = some (.slice C y.length d) ∧ RowV w (.slice B x.length c) x ∧ RowV w (.slice C y.length d) y := by
  obtain ⟨b, off, rfl, hc⟩ := h.2 (by omega)
  obtain ⟨u, v, h1, h2, h3, h4⟩ := hc k hk
  obtain ⟨B, c, rfl, _⟩ := id h2
  obtain ⟨C, d, rfl, _⟩ := id h4
  exact ⟨b, off, _, _, B, C, c, d, rfl, rfl, h1, h3, h2, h4⟩
theorem RowV.get {w : World} {A : Option Addr} {t : List Int} {c : Nat} (h : RowV w (.slice A t.length c) t) : t.length ≤ c ∧ (A = none → t.length = 0 ∧ c = 0) ∧ t.length * 8 ≤ 140737488355328 ∧ Ints w A t := by
  obtain ⟨B, d, e, h1, h2, h3, h4⟩ := h
  injection e with e1 e2 e3
  subst e1 e3
  exact ⟨h1, h2, h3, h4⟩
/-- A step of a proof. -/
structure Stp where
  eq : Int
  back : Bool
  at_ : Int
  binds : List Bd
abbrev stp0 : Stp := ⟨0, false, 0, []⟩
def Steps (w : World) (A : Option Addr) (l : List Stp) : Prop :=
  l.length ≤ 140737488355328 ∧ (0 < l.length → ∃ b off, A = some ⟨b, off, none⟩ ∧ ∀ k, k < l.length →
    (-9223372036854775808 ≤ (l.getD k stp0).eq ∧ (l.getD k stp0).eq ≤ 9223372036854775807) ∧ (-9223372036854775808 ≤ (l.getD k stp0).at_ ∧ (l.getD k stp0).at_ ≤ 9223372036854775807) ∧
    w.cell? ⟨b, off + k * 4, none⟩ = some (.int .i64 (l.getD k stp0).eq) ∧ w.cell? ⟨b, off + k * 4 + 1, none⟩ = some (.bool (l.getD k stp0).back) ∧ w.cell? ⟨b, off + k * 4 + 2, none⟩ = some (.int .i64 (l.getD k stp0).at_) ∧
    ∃ B c, w.cell? ⟨b, off + k * 4 + 3, none⟩ = some (.slice B (l.getD k stp0).binds.length c) ∧ Binds w B (l.getD k stp0).binds)
theorem Steps.kept {w w' : World} {A : Option Addr} {l : List Stp} (h : Steps w A l) (hb : Below w.heap.size w w') : Steps w' A l :=
  ⟨h.1, fun h0 => by
    obtain ⟨b, off, rfl, hc⟩ := h.2 h0
    exact ⟨b, off, rfl, fun k hk => by
      obtain ⟨r1, r2, h1, h2, h3, B, c, h4, h5⟩ := hc k hk
      exact ⟨r1, r2, cell_kept hb h1, cell_kept hb h2, cell_kept hb h3, B, c, cell_kept hb h4, h5.kept hb⟩⟩⟩
theorem Steps.at_ {w : World} {A : Option Addr} {l : List Stp} (h : Steps w A l) {k : Nat} (hk : k < l.length) :
    ∃ b off x B c, A = some ⟨b, off, none⟩ ∧ l.getD k stp0 = x ∧ (-9223372036854775808 ≤ x.eq ∧ x.eq ≤ 9223372036854775807) ∧ (-9223372036854775808 ≤ x.at_ ∧ x.at_ ≤ 9223372036854775807) ∧ w.cell? ⟨b, off + k * 4, none⟩ = some (.int .i64 x.eq) ∧ w.cell? ⟨b, off + k * 4 + 1, none⟩ = some (.bool x.back) ∧
      w.cell? ⟨b, off + k * 4 + 2, none⟩ = some (.int .i64 x.at_) ∧ w.cell? ⟨b, off + k * 4 + 3, none⟩ = some (.slice B x.binds.length c) ∧ Binds w B x.binds := by
  obtain ⟨b, off, rfl, hc⟩ := h.2 (by omega)
  obtain ⟨r1, r2, h1, h2, h3, B, c, h4, h5⟩ := hc k hk
  exact ⟨b, off, _, B, c, rfl, rfl, r1, r2, h1, h2, h3, h4, h5⟩
/-- A lemma. -/
structure Lem where
  L : List Int
  R : List Int
  steps : List Stp
abbrev lem0 : Lem := ⟨[], [], []⟩
def Lemmas (w : World) (A : Option Addr) (l : List Lem) : Prop :=
  l.length ≤ 140737488355328 ∧ (0 < l.length → ∃ b off, A = some ⟨b, off, none⟩ ∧ ∀ k, k < l.length → ∃ u v B c, w.cell? ⟨b, off + k * 3, none⟩ = some u ∧ RowV w u (l.getD k lem0).L ∧ w.cell? ⟨b, off + k * 3 + 1, none⟩ = some v ∧ RowV w v (l.getD k lem0).R ∧
    w.cell? ⟨b, off + k * 3 + 2, none⟩ = some (.slice B (l.getD k lem0).steps.length c) ∧ Steps w B (l.getD k lem0).steps)
theorem Lemmas.kept {w w' : World} {A : Option Addr} {l : List Lem} (h : Lemmas w A l) (hb : Below w.heap.size w w') : Lemmas w' A l :=
  ⟨h.1, fun h0 => by
    obtain ⟨b, off, rfl, hc⟩ := h.2 h0
    exact ⟨b, off, rfl, fun k hk => by
      obtain ⟨u, v, B, c, h1, h2, h3, h4, h5, h6⟩ := hc k hk
      exact ⟨u, v, B, c, cell_kept hb h1, h2.kept hb, cell_kept hb h3, h4.kept hb, cell_kept hb h5, h6.kept hb⟩⟩⟩
theorem Lemmas.at_ {w : World} {A : Option Addr} {l : List Lem} (h : Lemmas w A l) {k : Nat} (hk : k < l.length) :
    ∃ b off x LB lc RB rc SB sc, A = some ⟨b, off, none⟩ ∧ l.getD k lem0 = x ∧ w.cell? ⟨b, off + k * 3, none⟩ = some (.slice LB x.L.length lc) ∧ w.cell? ⟨b, off + k * 3 + 1, none⟩ = some (.slice RB x.R.length rc) ∧ w.cell? ⟨b, off + k * 3 + 2, none⟩ = some (.slice SB x.steps.length sc) ∧
      RowV w (.slice LB x.L.length lc) x.L ∧ RowV w (.slice RB x.R.length rc) x.R ∧ Steps w SB x.steps := by
  obtain ⟨b, off, rfl, hc⟩ := h.2 (by omega)
  obtain ⟨u, v, B, c, h1, h2, h3, h4, h5, h6⟩ := hc k hk
  obtain ⟨LB, lc, rfl, _⟩ := id h2
  obtain ⟨RB, rc, rfl, _⟩ := id h4
  exact ⟨b, off, _, LB, lc, RB, rc, B, c, rfl, rfl, h1, h3, h5, h2, h4, h6⟩

/-! ### What they come to -/
def fromOf (known : List Rl) (x : Stp) : List Int := if x.back then (known.getD x.eq.toNat rl0).2 else (known.getD x.eq.toNat rl0).1
def toOf (known : List Rl) (x : Stp) : List Int := if x.back then (known.getD x.eq.toNat rl0).1 else (known.getD x.eq.toNat rl0).2
/-- A step that can't be done. -/
def doBad (l : List Sy) (known : List Rl) (t : List Int) (x : Stp) : Prop :=
  x.eq < 0 ∨ (known.length : Int) ≤ x.eq ∨ substErr l x.binds ≠ 0 ∨ placeErr l t x.at_ ≠ 0 ∨ applyErr l x.binds (fromOf known x) ≠ 0 ∨ applied l x.binds (fromOf known x) ≠ subAt l t x.at_.toNat ∨ applyErr l x.binds (toOf known x) ≠ 0 ∨ replErr l t x.at_ (applied l x.binds (toOf known x)) ≠ 0
instance (l : List Sy) (known : List Rl) (t : List Int) (x : Stp) : Decidable (doBad l known t x) := by unfold doBad; exact inferInstance
def doStep (l : List Sy) (known : List Rl) (t : List Int) (x : Stp) : Option (List Int) :=
  if doBad l known t x then none else some (replAt l t x.at_.toNat (applied l x.binds (toOf known x)))
def goSteps (l : List Sy) (known : List Rl) : List Int → List Stp → Option (List Int)
  | t, [] => some t
  | t, x :: xs => match doStep l known t x with
    | none => none
    | some u => goSteps l known u xs
def sideBad (l : List Sy) (t : List Int) : Prop := termErr l t ≠ 0 ∨ 512 < t.length
instance (l : List Sy) (t : List Int) : Decidable (sideBad l t) := by unfold sideBad; exact inferInstance
def endErr (R : List Int) : Option (List Int) → Int
  | none => 191
  | some t => if t = R then 0 else 192
def lemmaErr (l : List Sy) (known : List Rl) (x : Lem) : Int := if sideBad l x.L ∨ sideBad l x.R then 190 else endErr x.R (goSteps l known x.L x.steps)
def lemmasErr (l : List Sy) : List Rl → List Lem → Int
  | _, [] => 0
  | known, x :: xs => if lemmaErr l known x ≠ 0 then lemmaErr l known x else lemmasErr l (known ++ [(x.L, x.R)]) xs
def stepsOf (ls : List Lem) : Nat := (ls.map fun x => x.steps.length).sum
def checkErr (l : List Sy) (eqs : List Rl) (ls : List Lem) : Int :=
  if sigErr l ≠ 0 then sigErr l else if ∃ q ∈ eqs, termErr l q.1 ≠ 0 ∨ termErr l q.2 ≠ 0 then 213 else if 4096 < stepsOf ls then 201 else lemmasErr l eqs ls
end Go.Proofs.YtfelhlffiiephaaDoor
