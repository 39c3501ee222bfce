/- The document's table of layer 11: grids of yes and no in memory; the walks of its small parts. Conditions: none. -/
import Derived.Test.YthpdfkhmhaobgaaDoorLpoBoth
import Derived.Test.YthpdfkhmhaobgaaDoorRefKids
set_option linter.unusedVariables false
set_option linter.unusedSimpArgs false
set_option linter.unnecessarySimpa false
namespace Go.Proofs.YthpdfkhmhaobgaaDoor
open Go.RowKit Go.Lib

def casts (K : List Nat) : List Int := K.map fun k : Nat => (k : Int)
theorem casts_len (K : List Nat) : (casts K).length = K.length := by simp [casts]
theorem casts_at (K : List Nat) (k : Nat) : (casts K).getD k 0 = ((K.getD k 0 : Nat) : Int) := by
  simp only [casts, List.getD_eq_getElem?_getD, List.getElem?_map]
  cases K[k]? <;> simp
theorem kids_cast (l : List Sy) (t : List Int) (j : Nat) : kidsAt l t j = casts (kidN l t j) := by
  have key : ∀ n m, ((kidsFrom l t n m).map Int.toNat).map (fun k : Nat => (k : Int)) = kidsFrom l t n m := fun n => by
    induction n with
    | zero => intro m; rfl
    | succ n ih => intro m; rw [kidsFrom, List.map_cons, List.map_cons, ih]; simp
  unfold casts kidN kidsAt
  split
  · rfl
  · rw [key]
theorem getD_in {K : List Nat} {k : Nat} (hk : k < K.length) : K.getD k 0 ∈ K := by
  rw [List.getD_eq_getElem?_getD, List.getElem?_eq_getElem hk]; simp
/-- A grid of yes and no that lies in a cell: its rows, each with its bits. -/
structure Grid (w : World) (p : Addr) (n m g c : Nat) (r : Nat → Nat) (f : Nat → Nat → Bool) : Prop where
  head : w.cell? p = some (.slice (some ⟨g, 0, none⟩) n c)
  line : ∀ i, i < n → w.cell? ⟨g, i, none⟩ = some (.slice (some ⟨r i, 0, none⟩) m m)
  bit : ∀ i j, i < n → j < m → w.cell? ⟨r i, j, none⟩ = some (.bool (f i j)) ∧ w.frozen? ⟨r i, j, none⟩ = false
theorem Grid.kept {w w' : World} {p : Addr} {n m g c : Nat} {r : Nat → Nat} {f : Nat → Nat → Bool} (h : Grid w p n m g c r f) (hb : Below w.heap.size w w') : Grid w' p n m g c r f :=
  ⟨cell_kept hb h.head, fun i hi => cell_kept hb (h.line i hi), fun i j hi hj => ⟨cell_kept hb (h.bit i j hi hj).1, (hb.frozen (p := ⟨r i, j, none⟩) (World.block_lt_of_cell? w _ (h.bit i j hi hj).1)).trans (h.bit i j hi hj).2⟩⟩
theorem Grid.far {w : World} {p : Addr} {n m g c : Nat} {r : Nat → Nat} {f : Nat → Nat → Bool} (h : Grid w p n m g c r f) {a : Addr} (v : Value) (h1 : a.block ≠ p.block) (h2 : a.block ≠ g) (h3 : ∀ i, i < n → a.block ≠ r i) : Grid (w.setCell a v) p n m g c r f :=
  ⟨(set_far (fun e => h1 (by rw [e]))).trans h.head, fun i hi => (set_far (fun e => h2 (by rw [e]))).trans (h.line i hi), fun i j hi hj => ⟨(set_far (fun e => h3 i hi (by rw [e]))).trans (h.bit i j hi hj).1, by rw [World.frozen?_setCell]; exact (h.bit i j hi hj).2⟩⟩
theorem Grid.set {w : World} {p : Addr} {n m g c : Nat} {r : Nat → Nat} {f : Nat → Nat → Bool} (h : Grid w p n m g c r f) {x y : Nat} (hx : x < n) (hy : y < m) (h1 : r x ≠ p.block) (h2 : r x ≠ g) (hinj : ∀ i j, i < n → j < n → i ≠ j → r i ≠ r j) (b : Bool) :
    Grid (w.setCell ⟨r x, y, none⟩ (.bool b)) p n m g c r (fun i j => if i = x ∧ j = y then b else f i j) := by
  refine ⟨(set_far (fun e => h1 (by rw [← e]))).trans h.head, fun i hi => (set_blk h2).trans (h.line i hi), fun i j hi hj => ⟨?_, by rw [World.frozen?_setCell]; exact (h.bit i j hi hj).2⟩⟩
  by_cases e : i = x
  · subst e
    by_cases e2 : j = y
    · subst e2
      rw [set_same (h.bit i j hi hj).1, if_pos ⟨rfl, rfl⟩]
    · rw [set_off (by omega), if_neg (fun h => e2 h.2)]; exact (h.bit i j hi hj).1
  · rw [set_blk (hinj x i hx hi (fun h => e h.symm)), if_neg (fun h => e h.1)]; exact (h.bit i j hi hj).1

set_option maxRecDepth 100000 in
set_option maxHeartbeats 2000000 in
theorem tall_any (xb n m gm cm i : Nat) (rm : Nat → Nat) (h : Nat → Nat → Bool) (KB : Option Addr) (K : List Nat) (kc : Nat) (hi : i < n) (hn : n ≤ 512) (hm : m ≤ 512) (hK : ∀ k, k ∈ K → k < m) (w : World) (hM : Grid w ⟨xb, 5, none⟩ n m gm cm rm h) (hI : Ints w KB (casts K)) :
    Calls Tryd.prog 45 #[.pointer (some ⟨xb, 0, none⟩), .int .i64 (i : Int), .slice KB K.length kc] w fun e w' => e = .returned (.bool (K.all (h i))) ∧ Below w.heap.size w w' := by
  have hKl : K.length ≤ 140737488355328 := by have := hI.2.1; rw [casts_len] at this; exact this
  obtain ⟨r, hr⟩ : ∃ r, r = K.all (h i) := ⟨_, rfl⟩
  rw [← hr]
  have HR := Lib.hid hr
  clear hr
  go_enter Tryd.func45, Tryd.ntmps45
  go_wp2_with fail
  go_loopg [7] K.length (fun gk v wr => ∃ k : Nat, Aside (gk + k = K.length) ∧ v = .int .i64 k ∧ Below w.heap.size w wr ∧ Aside (r = (K.drop k).all (h i)))
  case atStart => exact ⟨0, (rfl : K.length + 0 = _), rfl, Below.refl _ _, by rw [List.drop_zero]; exact HR.out⟩
  case round =>
    clear HR
    obtain ⟨k, hg, rfl, hB, hE⟩ := hrel
    have hk : k ≤ K.length := by have := hg.out; omega
    by_cases hlt : k < K.length
    · obtain ⟨kb, ko, x, rfl, hx, hx1, hx2, hxc⟩ := (hI.kept hB).at_ (k := k) (by rw [casts_len]; exact hlt)
      rw [casts_at] at hx
      obtain ⟨p, hp⟩ : ∃ p, p = K.getD k 0 := ⟨_, rfl⟩
      have hpm : p < m := by rw [hp]; exact hK _ (getD_in hlt)
      rw [← hp] at hx
      subst hx
      have hdr : K.drop k = p :: K.drop (k + 1) := by
        rw [List.drop_eq_getElem_cons hlt, hp, List.getD_eq_getElem?_getD, List.getElem?_eq_getElem hlt]; rfl
      have HE : Hid (r = (h i p && (K.drop (k + 1)).all (h i))) := Lib.hid (by rw [hE.out, hdr, List.all_cons])
      have hG := hM.kept hB
      have e1 := hG.head
      have e2 := hG.line i hi
      have e3 := (hG.bit i p hi hpm).1
      clear hE hp hdr hG
      cases hb : h i p with
      | true =>
        rw [hb] at e3
        have HB := Lib.hid hb
        clear hb
        go_wp2_with fail
        go_quiet (fail)
        go_wp2_with fail
        go_roundg (K.length - (k + 1))
        case measure => have := hg.out; omega
        case rel => exact ⟨k + 1, by have := hg.out; show _ = _; omega, by go_num, below_drawN hB _, by have := HE.out; rw [HB.out, Bool.true_and] at this; exact this⟩
      | false =>
        rw [hb] at e3
        have hr : r = false := by have := HE.out; rw [hb, Bool.false_and] at this; exact this
        subst hr
        clear hb
        go_wp2_with fail
        go_quiet (fail)
        go_wp2_with fail
        go_ret
        exact ⟨rfl, below_drawN hB _⟩
    · have hr : r = true := by
        have := hE.out
        rw [List.drop_eq_nil_of_le (by omega)] at this
        exact this
      subst hr
      go_wp2_with fail
      go_ret
      exact ⟨rfl, hB⟩

set_option maxRecDepth 100000 in
set_option maxHeartbeats 2000000 in
theorem srow_any (A B : Option Addr) (s t : List Int) (sc tc : Nat) (w : World) (hs : Ints w A s) (ht : Ints w B t) :
    Calls Tryd.prog 30 #[.slice A s.length sc, .slice B t.length tc] w fun e w' => e = .returned (.bool (decide (s = t))) ∧ Below w.heap.size w w' := by
  have m1 := hs.2.1
  obtain ⟨r, hr⟩ : ∃ r, r = decide (s = t) := ⟨_, rfl⟩
  rw [← hr]
  have HR := Lib.hid hr
  clear hr
  by_cases hl : s.length = t.length
  · go_enter Tryd.func30, Tryd.ntmps30
    go_wp2_with fail
    go_loopg [5] s.length (fun gk v wr => ∃ k : Nat, Aside (gk + k = s.length) ∧ v = .int .i64 k ∧ Below w.heap.size w wr ∧ Aside (s.take k = t.take k))
    case atStart => exact ⟨0, (rfl : s.length + 0 = _), rfl, Below.refl _ _, (by simp : s.take 0 = t.take 0)⟩
    case round =>
      obtain ⟨k, hg, rfl, hB, hE⟩ := hrel
      have hk : k ≤ s.length := by have := hg.out; omega
      by_cases hlt : k < s.length
      · have hlt2 : k < t.length := by omega
        obtain ⟨cb, co, x, rfl, hx, _, _, hcx⟩ := (hs.kept hB).at_ hlt
        obtain ⟨db, dof, y, rfl, hy, _, _, hcy⟩ := (ht.kept hB).at_ hlt2
        have HX := Lib.hid hx
        have HY := Lib.hid hy
        clear hx hy
        by_cases hxy : x = y
        · have q : (x != y) = false := by simpa using hxy
          have HXY := Lib.hid hxy
          clear hxy
          go_wp2_with fail
          go_quiet (fail)
          go_wp2_with fail
          go_roundg (s.length - (k + 1))
          case measure => have := hg.out; omega
          case rel => exact ⟨k + 1, by have := hg.out; show _ = _; omega, by go_num, below_drawN hB _, (by rw [take_succ' s 0 hlt, take_succ' t 0 hlt2, hE.out, HX.out, HY.out, HXY.out] : s.take (k + 1) = t.take (k + 1))⟩
        · have q : (x != y) = true := by simpa using hxy
          have hr : r = false := by rw [HR.out]; exact decide_eq_false fun e => hxy (by rw [← HX.out, ← HY.out, e])
          subst hr
          clear hxy
          go_wp2_with fail
          go_quiet (fail)
          go_wp2_with fail
          go_ret
          exact ⟨rfl, below_drawN hB _⟩
      · have hr : r = true := by
          rw [HR.out]
          have h := hE.out
          rw [List.take_of_length_le (by omega), List.take_of_length_le (by omega)] at h
          exact decide_eq_true h
        subst hr
        go_wp2_with fail
        go_ret
        exact ⟨rfl, hB⟩
  · have hr : r = false := by rw [HR.out]; exact decide_eq_false fun e => hl (by rw [e])
    subst hr
    go_enter Tryd.func30, Tryd.ntmps30
    go_wp2_with fail
    go_ret
    exact ⟨rfl, Below.refl _ _⟩

set_option maxRecDepth 100000 in
set_option maxHeartbeats 2000000 in
theorem rkids_any (A B : Option Addr) (l : List Sy) (t : List Int) (sc tc p : Nat) (ht0 : termErr l t = 0) (hp : p < t.length) (ht5 : t.length ≤ 512) (w : World) (hl : Sigs w A l) (ht : Ints w B t) :
    Calls Tryd.prog 29 #[.slice A l.length sc, .slice B t.length tc, .int .i64 (p : Int)] w fun e w' => ∃ v, e = .returned v ∧ Below w.heap.size w w' ∧ RowO w' w.heap.size v (casts (kidN l t p)) := by
  have c1 := refkids_any A B l t sc tc (p : Int) (by omega) w hl ht (by omega)
  rw [place_ok ht0 hp, if_pos rfl, Int.toNat_natCast, kids_cast] at c1
  go_enter Tryd.func29, Tryd.ntmps29
  go_wp2_with fail
  refine c1.mono ?_
  rintro e w1 ⟨v, rfl, hb, hO⟩
  have HO := Lib.hid hO
  clear c1 hO
  go_wp2_with fail
  go_ret
  exact ⟨_, rfl, hb, HO.out⟩
end Go.Proofs.YthpdfkhmhaobgaaDoor
