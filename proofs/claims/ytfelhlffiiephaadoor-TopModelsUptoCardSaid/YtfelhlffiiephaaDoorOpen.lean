/- What a reading of slices says of memory: rows of pairs and of other things. Conditions: none. -/
import Derived.Test.YtfelhlffiiephaaDoorMem
import Derived.ProofKit
import Derived.OpenShut
import Derived.ShutString
import Derived.ChangeOld
import Derived.SizedLaws
set_option linter.unusedVariables false
set_option linter.unusedSimpArgs false
namespace Go.Proofs.YtfelhlffiiephaaDoor
open Go.ChangeShapes Go.WideShapes Go.ChangeAt Go.RowKit

section
variable {H : Type} {enc : TypeId × Value → H} {P : Program} {w : World} {base : Nat} {spare : Nat → Bool} {held : Bool}

theorem cells?_spec {a : Addr} {n : Nat} {cs : List Value} (h : w.cells? base a n = some cs) : base ≤ a.block ∧ cs.length = n ∧ ∀ i, i < n → w.cell? (a.add i) = cs[i]? := by
  unfold World.cells? at h
  split at h
  · rename_i hb
    exact ⟨hb, by simpa using mapM_some_length h, fun i hi => by have := mapM_some_get h i i (by simp [hi]); exact this⟩
  · cases h

theorem spot_of_cell {a : Addr} {v : Value} (h : w.cell? a = some v) : a = ⟨a.block, a.off, none⟩ := by
  have hs : a.spot = none := by
    cases hs : a.spot with
    | none => rfl
    | some s =>
      unfold World.cell? at h
      split at h
      · simp [hs] at h
      · cases h
  cases a; simp only at hs; rw [hs]

/-- A slice, whatever its elements are. -/
theorem open_slice {t e : TypeId} {A : Option Addr} {len cap : Nat} {d : DataW H} {ps : List MemPlace} (ht : P.underlying t = some (.slice e)) (hpos : 0 < P.cellsOf e) (h : DataW.Trod enc P w base spare held t (.slice A len cap) d ps) :
    ∃ m : Nat, len ≤ cap ∧ cap ≤ maxLen ∧ (A = none → len = 0 ∧ cap = 0) ∧ (0 < len → ∃ b off, A = some ⟨b, off, none⟩ ∧ ∀ i, i < len → ∃ cs y, cs.length = P.cellsOf e ∧
      (∀ j, j < P.cellsOf e → w.cell? ⟨b, off + i * P.cellsOf e + j, none⟩ = cs[j]?) ∧ DataW.trod enc P w base spare held m e cs = some y) := by
  obtain ⟨fuel, hf⟩ := h
  rcases DataW.trod_slice ht hf with ⟨hcs, _⟩ | ⟨a, len', cap', elems, rest, n, _, hcs, hx, hb, hl, hm, hlen, hel, _⟩
  · simp [Value.cells] at hcs
    obtain ⟨rfl, rfl, rfl⟩ := hcs
    exact ⟨0, by omega, by simp [maxLen], fun _ => ⟨rfl, rfl⟩, fun h => by omega⟩
  · simp [Value.cells] at hcs
    obtain ⟨rfl, rfl, rfl⟩ := hcs
    refine ⟨n, hl, hm, (fun h => by cases h), fun h0 => ?_⟩
    have each : ∀ i, i < len → ∃ cs y, cs.length = P.cellsOf e ∧ (∀ j, j < P.cellsOf e → w.cell? ((a.add (i * P.cellsOf e)).add j) = cs[j]?) ∧ DataW.trod enc P w base spare held n e cs = some y := by
      intro i hi
      have h1 := hel i hi
      rw [List.getElem?_eq_getElem (by omega)] at h1
      obtain ⟨cs, hc1, hc2⟩ := Option.bind_eq_some_iff.1 h1
      obtain ⟨_, hc3, hc4⟩ := cells?_spec hc1
      exact ⟨cs, _, hc3, hc4, hc2⟩
    have hspot : a = ⟨a.block, a.off, none⟩ := by
      obtain ⟨cs, y, hc, hj, _⟩ := each 0 h0
      have h2 := hj 0 hpos
      rw [List.getElem?_eq_getElem (by omega)] at h2
      have e : (a.add (0 * P.cellsOf e)).add 0 = a := by simp [Addr.add]
      rw [e] at h2
      exact spot_of_cell h2
    refine ⟨a.block, a.off, congrArg some hspot, fun i hi => ?_⟩
    obtain ⟨cs, y, hc, hj, hy⟩ := each i hi
    refine ⟨cs, y, hc, fun j hjj => ?_, hy⟩
    rw [← hj j hjj]
    congr 1
    rw [hspot]
    unfold Addr.add
    by_cases q : i * P.cellsOf e = 0 <;> by_cases q2 : j = 0 <;> simp [q, q2]

theorem list_two {α : Type} {cs : List α} (h : cs.length = 2) : ∃ x y, cs = [x, y] := by
  cases cs with
  | nil => simp at h
  | cons x cs =>
    cases cs with
    | nil => simp at h
    | cons y cs =>
      cases cs with
      | nil => exact ⟨x, y, rfl⟩
      | cons z cs => simp at h

/-- An array of two numbers. -/
theorem open_two {e f : TypeId} {k : IntKind} {m : Nat} {cs : List Value} {y : DataW H × List MemPlace} (he : P.underlying e = some (.array 2 f)) (hf : P.underlying f = some (.int k)) (hc : P.cellsOf f = 1) (hl : cs.length = 2)
    (h : DataW.trod enc P w base spare held m e cs = some y) : ∃ a b, cs = [.int k a, .int k b] ∧ (Lit.int k a).wf = true ∧ (Lit.int k b).wf = true := by
  obtain ⟨xs, n, rfl, _, _, hxs, hx⟩ := DataW.trod_array he h
  obtain ⟨c0, c1, rfl⟩ := list_two hl
  obtain ⟨x0, x1, rfl⟩ := list_two hxs
  have h0 := hx 0 (by omega)
  have h1 := hx 1 (by omega)
  simp [hc] at h0 h1
  obtain ⟨a, ha, _, wa⟩ := DataW.trod_int hf h0
  obtain ⟨b, hb, _, wb⟩ := DataW.trod_int hf h1
  simp only [List.cons.injEq, and_true] at ha hb
  exact ⟨a, b, by rw [ha, hb], wa, wb⟩

/-- A slice's size is within the reach. -/
theorem sized_any {t e : TypeId} {A : Option Addr} {len cap : Nat} {d : DataW H} {ps : List MemPlace} {ts : List TypeId} {ds : List (DataW H)} {j : Nat}
    (hsz : (DataW.weightsEach P ts ds).all (· ≤ reachBytes) = true) (ht : ts[j]? = some t) (hd : ds[j]? = some d) (hu : P.underlying t = some (.slice e)) {B : Nat} (hB : P.bytesOf e = B)
    (h : DataW.Trod enc P w base spare held t (.slice A len cap) d ps) : len * B ≤ 140737488351232 := by
  obtain ⟨fuel, hf⟩ := h
  rcases DataW.trod_slice hu hf with ⟨hcs, _⟩ | ⟨a, len', cap', elems, rest, n, _, hcs, hx, _, hl, _, hlen, _⟩
  · simp [Value.cells] at hcs
    obtain ⟨rfl, rfl, rfl⟩ := hcs
    simp
  · simp [Value.cells] at hcs
    obtain ⟨rfl, rfl, rfl⟩ := hcs
    obtain ⟨hx, _⟩ := Prod.mk.inj hx
    subst hx
    have z := sized_slice hsz ht hd hu
    rw [hB] at z
    simp only [List.length_map] at z
    exact Nat.le_trans (Nat.mul_le_mul_right _ (by omega)) z

/-- A slice of pairs. -/
theorem open_pairs {t e f : TypeId} {A : Option Addr} {len cap : Nat} {d : DataW H} {ps : List MemPlace} (ht : P.underlying t = some (.slice e)) (he : P.underlying e = some (.array 2 f)) (hf : P.underlying f = some (.int .i64)) (hc : P.cellsOf f = 1) (hce : P.cellsOf e = 2)
    (h : DataW.Trod enc P w base spare held t (.slice A len cap) d ps) : ∃ (l : List (Int × Int)), l.length = len ∧ len ≤ cap ∧ cap ≤ maxLen ∧ (A = none → len = 0 ∧ cap = 0) ∧
      (0 < l.length → ∃ b off, A = some ⟨b, off, none⟩ ∧ ∀ k, k < l.length → w.cell? ⟨b, off + k * 2, none⟩ = some (.int .i64 (l.getD k (0, 0)).1) ∧ w.cell? ⟨b, off + k * 2 + 1, none⟩ = some (.int .i64 (l.getD k (0, 0)).2)) ∧
      ∀ p ∈ l, (Lit.int .i64 p.1).wf = true ∧ (Lit.int .i64 p.2).wf = true := by
  obtain ⟨m, hl, hm, hn, hel⟩ := open_slice ht (by omega) h
  rcases Nat.eq_zero_or_pos len with h0 | h0
  · subst h0
    exact ⟨[], rfl, by simp, hm, hn, fun h => by simp at h, fun p hp => by cases hp⟩
  · obtain ⟨b, off, rfl, hcs⟩ := hel h0
    have each : ∀ i, ∃ p : Int × Int, i < len → w.cell? ⟨b, off + i * 2, none⟩ = some (.int .i64 p.1) ∧ w.cell? ⟨b, off + i * 2 + 1, none⟩ = some (.int .i64 p.2) ∧ (Lit.int .i64 p.1).wf = true ∧ (Lit.int .i64 p.2).wf = true := by
      intro i
      by_cases hi : i < len
      · obtain ⟨cs, y, hlc, hj, hy⟩ := hcs i hi
        rw [hce] at hlc hj
        obtain ⟨x, z, rfl, wx, wz⟩ := open_two he hf hc hlc hy
        exact ⟨(x, z), fun _ => ⟨by have := hj 0 (by omega); simpa using this, by have := hj 1 (by omega); simpa using this, wx, wz⟩⟩
      · exact ⟨(0, 0), fun h => absurd h hi⟩
    obtain ⟨F, hF⟩ := Classical.axiomOfChoice each
    refine ⟨(List.range len).map F, by simp, hl, hm, (fun h => by cases h), fun _ => ⟨b, off, rfl, fun k hk => ?_⟩, fun p hp => ?_⟩
    · have hk' : k < len := by simpa using hk
      have e : ((List.range len).map F).getD k (0, 0) = F k := by simp [List.getD_eq_getElem?_getD, hk']
      rw [e]
      exact ⟨(hF k hk').1, (hF k hk').2.1⟩
    · obtain ⟨i, hi, rfl⟩ := List.mem_map.1 hp
      exact ⟨(hF i (by simpa using hi)).2.2.1, (hF i (by simpa using hi)).2.2.2⟩
end
end Go.Proofs.YtfelhlffiiephaaDoor
