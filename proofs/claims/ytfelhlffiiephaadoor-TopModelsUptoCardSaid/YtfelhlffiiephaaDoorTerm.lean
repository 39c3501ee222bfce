/- Rows of codes: what a term takes of a row, what memory holds of a row, and the walk of the document's test. Conditions: none. -/
import Derived.Test.YtfelhlffiiephaaDoorSig
set_option linter.unusedVariables false
set_option linter.unusedSimpArgs false
namespace Go.Proofs.YtfelhlffiiephaaDoor
open Go.RowKit Go.Lib

/-- A row of numbers that is read. -/
def Ints (w : World) (A : Option Addr) (t : List Int) : Prop :=
  (∀ x ∈ t, -9223372036854775808 ≤ x ∧ x ≤ 9223372036854775807) ∧ t.length ≤ 140737488355328 ∧ (0 < t.length → ∃ b off, A = some ⟨b, off, none⟩ ∧ ∀ k, k < t.length → w.cell? ⟨b, off + k, none⟩ = some (.int .i64 (t.getD k 0)))
theorem Ints.kept {w w' : World} {A : Option Addr} {t : List Int} (h : Ints w A t) (hb : Below w.heap.size w w') : Ints w' A t :=
  ⟨h.1, h.2.1, fun h0 => by
    obtain ⟨b, off, rfl, hc⟩ := h.2.2 h0
    exact ⟨b, off, rfl, fun k hk => cell_kept hb (hc k hk)⟩⟩
theorem Ints.at_ {w : World} {A : Option Addr} {t : List Int} (h : Ints w A t) {k : Nat} (hk : k < t.length) :
    ∃ b off x, A = some ⟨b, off, none⟩ ∧ t.getD k 0 = x ∧ -9223372036854775808 ≤ x ∧ x ≤ 9223372036854775807 ∧ w.cell? ⟨b, off + k, none⟩ = some (.int .i64 x) := by
  obtain ⟨b, off, rfl, hc⟩ := h.2.2 (by omega)
  have := h.1 _ (getD_mem (d := 0) hk rfl)
  exact ⟨b, off, _, rfl, rfl, this.1, this.2, hc k hk⟩

/-- The arity of a code. -/
def arOf (l : List Sy) (c : Int) : Nat := if c < 0 then 0 else (l.getD c.toNat sy0).2.toNat
/-- A code that is no symbol and no variable. -/
def codeBad (l : List Sy) (c : Int) : Prop := (l.length : Int) ≤ c ∨ c < -1048576
instance (l : List Sy) (c : Int) : Decidable (codeBad l c) := inferInstanceAs (Decidable (_ ∨ _))
/-- The signature's arities are right. -/
def Good (l : List Sy) : Prop := l.length ≤ 128 ∧ ∀ x ∈ l, 0 ≤ x.2 ∧ x.2 ≤ 8
/-- How much of a row so many terms take, or why they don't stand there. -/
def scan (l : List Sy) : Nat → List Int → Except Int Nat
  | 0, _ => .ok 0
  | _ + 1, [] => .error 31
  | k + 1, c :: t => if codeBad l c then .error 30 else match scan l (k + arOf l c) t with
    | .ok n => .ok (n + 1)
    | .error e => .error e
/-- What is wrong with a row, over a signature that may be. -/
def rowErr (l : List Sy) (t : List Int) : Int := match scan l 1 t with
  | .ok n => if n < t.length then 32 else 0
  | .error e => e
/-- What is wrong with a row. -/
def termErr (l : List Sy) (t : List Int) : Int := if sigErr l ≠ 0 then sigErr l else rowErr l t
/-- The same, from a place on. -/
def scanAt (l : List Sy) (t : List Int) (k i : Nat) : Except Int Nat := match scan l k (t.drop i) with
  | .ok n => .ok (n + i)
  | .error e => .error e
theorem scanAt_zero (l : List Sy) (t : List Int) (i : Nat) : scanAt l t 0 i = .ok i := by simp [scanAt, scan]
theorem scanAt_end (l : List Sy) (t : List Int) (k i : Nat) (h : t.length ≤ i) : scanAt l t (k + 1) i = .error 31 := by
  rw [scanAt, List.drop_eq_nil_of_le h]; rfl
theorem drop_cons (t : List Int) (i : Nat) (h : i < t.length) : t.drop i = t.getD i 0 :: t.drop (i + 1) := by
  rw [List.drop_eq_getElem_cons h]; simp [List.getD_eq_getElem?_getD, List.getElem?_eq_getElem h]
theorem scanAt_bad (l : List Sy) (t : List Int) (k i : Nat) (h : i < t.length) (hb : codeBad l (t.getD i 0)) : scanAt l t (k + 1) i = .error 30 := by
  rw [scanAt, drop_cons t i h, scan, if_pos hb]
theorem scanAt_step (l : List Sy) (t : List Int) (k i : Nat) (h : i < t.length) (hb : ¬ codeBad l (t.getD i 0)) : scanAt l t (k + 1) i = scanAt l t (k + arOf l (t.getD i 0)) (i + 1) := by
  rw [scanAt, scanAt, drop_cons t i h, scan, if_neg hb]
  cases scan l (k + arOf l (t.getD i 0)) (t.drop (i + 1)) with
  | ok n => simp only [Except.ok.injEq]; omega
  | error e => rfl
theorem rowErr_at (l : List Sy) (t : List Int) : rowErr l t = match scanAt l t 1 0 with
  | .ok n => if n < t.length then 32 else 0
  | .error e => e := by
  unfold rowErr scanAt
  rw [List.drop_zero]
  cases scan l 1 t <;> simp
theorem Good.ar {l : List Sy} (h : Good l) (c : Int) : arOf l c ≤ 8 := by
  unfold arOf
  split
  · omega
  · by_cases hc : c.toNat < l.length
    · have := h.2 _ (getD_mem (d := sy0) hc rfl); omega
    · rw [List.getD_eq_getElem?_getD, List.getElem?_eq_none (by omega)]; simp
theorem sigFrom_zero {l : List Sy} : ∀ (f i : Nat), l.length ≤ f + i → sigFrom l f i = 0 → ∀ k, i ≤ k → k < l.length → 0 ≤ (l.getD k sy0).2 ∧ (l.getD k sy0).2 ≤ 8
  | 0, i, hf, _, k, h1, h2 => by omega
  | f + 1, i, hf, h0, k, h1, h2 => by
    rw [sigFrom_step l f i (by omega)] at h0
    by_cases he : oneErr (l.take i) (l.getD i sy0) = 0
    · rw [if_pos he] at h0
      by_cases hk : k = i
      · subst hk
        unfold oneErr at he
        split at he
        · cases he
        · split at he
          · cases he
          · rename_i hn; omega
      · exact sigFrom_zero f (i + 1) (by omega) h0 k (by omega) h2
    · rw [if_neg he] at h0; exact absurd h0 he
theorem good_of {l : List Sy} (h : sigErr l = 0) : Good l := by
  unfold sigErr at h
  split at h
  · cases h
  · refine ⟨by omega, fun x hx => ?_⟩
    obtain ⟨k, hk, he⟩ := List.getElem_of_mem hx
    have := sigFrom_zero l.length 0 (by omega) h k (by omega) hk
    rw [List.getD_eq_getElem?_getD, List.getElem?_eq_getElem hk] at this
    rw [← he]; exact this

set_option maxRecDepth 100000 in
set_option maxHeartbeats 2000000 in
theorem refterm_any (A B : Option Addr) (l : List Sy) (t : List Int) (len cap len' cap' : Nat) (hlen : l.length = len) (hlen' : t.length = len') (w : World) (hl : Sigs w A l) (ht : Ints w B t) (hG : Good l) :
    Calls Tryd.prog 28 #[.slice A len cap, .slice B len' cap'] w fun e w' => e = .returned (.int .i64 (rowErr l t)) ∧ w = w' := by
  subst hlen hlen'
  have hR := rowErr_at l t
  have hmax := ht.2.1
  have hm := hG.1
  generalize rowErr l t = R at hR ⊢
  have HR := Lib.hid hR
  clear hR
  go_enter Tryd.func28, Tryd.ntmps28
  go_wp2_with fail
  go_loopg [5, 6] (t.length + 1) (fun gk v i wx => ∃ k j : Nat, Aside (gk + j = t.length + 1) ∧ v = .int .i64 k ∧ i = .int .i64 j ∧ k ≤ 1 + 8 * j ∧ w = wx ∧ Aside (scanAt l t 1 0 = scanAt l t k j) ∧ Aside (k = 0 → t.length ≤ j) ∧ Aside (j ≤ t.length))
  case atStart => exact ⟨1, 0, (rfl : t.length + 1 + 0 = _), rfl, rfl, by omega, rfl, rfl, (fun h => by cases h), Nat.zero_le _⟩
  case round =>
    obtain ⟨k, j, hg, rfl, rfl, hk8, rfl, hS, hz, hj⟩ := hrel
    have hj' : j ≤ t.length := hj.out
    cases k with
    | zero =>
      go_wp2_with fail
      go_ret
      refine ⟨?_, rfl⟩
      have := HR.out
      rw [hS.out, scanAt_zero] at this
      simp only [if_neg (by have := hz.out trivial; omega : ¬ j < t.length)] at this
      rw [this]; rfl
    | succ k =>
      by_cases hjt : j < t.length
      · obtain ⟨b, off, c, rfl, hgc, hc1, hc2, hcc⟩ := ht.at_ hjt
        have HC := Lib.hid hgc
        clear hgc
        by_cases hb1 : (l.length : Int) ≤ c
        · go_wp2_with fail
          go_ret
          refine ⟨?_, rfl⟩
          have := HR.out
          rw [hS.out, scanAt_bad l t k j hjt (by rw [HC.out]; exact .inl hb1)] at this
          rw [this]; rfl
        by_cases hb2 : c < -1048576
        · go_wp2_with fail
          go_ret
          refine ⟨?_, rfl⟩
          have := HR.out
          rw [hS.out, scanAt_bad l t k j hjt (by rw [HC.out]; exact .inr hb2)] at this
          rw [this]; rfl
        have HB : Hid (scanAt l t 1 0 = scanAt l t (k + arOf l c) (j + 1)) := Lib.hid (by
          rw [hS.out, scanAt_step l t k j hjt (by rw [HC.out]; rintro (h | h) <;> omega), HC.out])
        by_cases hneg : c < 0
        · have HB' : Hid (scanAt l t 1 0 = scanAt l t k (j + 1)) := Lib.hid (by rw [HB.out, arOf, if_pos hneg]; rfl)
          cases k with
          | zero =>
            by_cases hlast : j + 1 < t.length
            · have hlast' : (j : Int) + 1 < (t.length : Int) := by omega
              go_wp2_with fail
              go_ret
              refine ⟨?_, rfl⟩
              have := HR.out
              rw [HB'.out, scanAt_zero] at this
              simp only [if_pos hlast] at this
              rw [this]; rfl
            · have hlast' : ¬ ((j : Int) + 1 < (t.length : Int)) := by omega
              go_wp2_with fail
              go_roundg (t.length - j)
              case measure => have := hg.out; omega
              case rel => exact ⟨0, j + 1, by have := hg.out; show _ = _; omega, by go_num, by go_num, by omega, rfl, HB'.out, fun _ => by omega, by show _ ≤ _; omega⟩
          | succ k =>
            have hq : ((k : Int) + 1 == 0) = false := beq_eq_false_iff_ne.2 (by omega)
            go_wp2_with fail
            go_roundg (t.length - j)
            case measure => have := hg.out; omega
            case rel => exact ⟨k + 1, j + 1, by have := hg.out; show _ = _; omega, by go_num, by go_num, by omega, rfl, HB'.out, (fun h => by cases h), by show _ ≤ _; omega⟩
        · obtain ⟨cn, rfl⟩ := Int.eq_ofNat_of_zero_le (show 0 ≤ c by omega)
          have hcn : cn < l.length := by omega
          obtain ⟨b2, off2, sn, an, rfl, hgs, _, _, ha⟩ := hl.at_ hcn
          have han := hG.2 _ (getD_mem (d := sy0) hcn hgs)
          obtain ⟨an, rfl⟩ := Int.eq_ofNat_of_zero_le han.1
          have han8 : an ≤ 8 := by have := han.2; simp at this; omega
          have HB' : Hid (scanAt l t 1 0 = scanAt l t (k + an) (j + 1)) := Lib.hid (by rw [HB.out, arOf, if_neg hneg, Int.toNat_natCast, hgs]; rfl)
          clear hgs han
          by_cases hk0 : k + an = 0
          · obtain ⟨rfl, rfl⟩ : k = 0 ∧ an = 0 := by omega
            by_cases hlast : j + 1 < t.length
            · have hlast' : (j : Int) + 1 < (t.length : Int) := by omega
              go_wp2_with fail
              go_ret
              refine ⟨?_, rfl⟩
              have := HR.out
              rw [HB'.out, scanAt_zero] at this
              simp only [if_pos hlast] at this
              rw [this]; rfl
            · have hlast' : ¬ ((j : Int) + 1 < (t.length : Int)) := by omega
              go_wp2_with fail
              go_roundg (t.length - j)
              case measure => have := hg.out; omega
              case rel => exact ⟨0, j + 1, by have := hg.out; show _ = _; omega, by go_num, by go_num, by omega, rfl, HB'.out, fun _ => by omega, by show _ ≤ _; omega⟩
          · have hq : ((k : Int) + (an : Int) == 0) = false := beq_eq_false_iff_ne.2 (by omega)
            go_wp2_with fail
            go_roundg (t.length - j)
            case measure => have := hg.out; omega
            case rel => exact ⟨k + an, j + 1, by have := hg.out; show _ = _; omega, by go_num, by go_num, by omega, rfl, HB'.out, (fun h => absurd h hk0), by show _ ≤ _; omega⟩
      · have hje : j = t.length := by omega
        have hq : ((j : Int) == (t.length : Int)) = true := beq_iff_eq.2 (by omega)
        have HS : Hid (scanAt l t 1 0 = .error 31) := Lib.hid (by rw [hS.out, scanAt_end l t k j (by omega)])
        clear hje
        go_wp2_with fail
        go_ret
        refine ⟨?_, rfl⟩
        have := HR.out
        rw [HS.out] at this
        rw [this]; rfl
set_option maxRecDepth 100000 in
theorem refcheck_any (A B : Option Addr) (l : List Sy) (t : List Int) (len cap len' cap' : Nat) (hlen : l.length = len) (hlen' : t.length = len') (w : World) (hl : Sigs w A l) (ht : Ints w B t) :
    Calls Tryd.prog 15 #[.slice A len cap, .slice B len' cap'] w fun e w' => e = .returned (.int .i64 (termErr l t)) ∧ Below w.heap.size w w' := by
  have cS := refsig_any A l len cap hlen w hl
  have hGood := good_of (l := l)
  unfold termErr
  by_cases h : sigErr l = 0
  · rw [if_neg (by simp [h])]
    rw [h] at cS
    have hG := hGood h
    clear hGood h
    go_enter Tryd.func15, Tryd.ntmps15
    go_wp2_with (first
      | (go_at_call 6; refine cS.mono ?_; rintro e w' ⟨rfl, hb⟩; have hl' := hl.kept hb; have ht' := ht.kept hb)
      | (go_at_call 28; refine (refterm_any A B l t len cap len' cap' hlen hlen' _ hl' ht' hG).mono ?_; rintro e w' ⟨rfl, rfl⟩))
    go_ret
    exact ⟨rfl, hb⟩
  · rw [if_pos h]
    have hb : (sigErr l != 0) = true := bne_iff_ne.2 h
    have hb' : (sigErr l == 0) = false := beq_eq_false_iff_ne.2 h
    clear hGood
    go_enter Tryd.func15, Tryd.ntmps15
    go_wp2_with (go_at_call 6; refine cS.mono ?_; rintro e w' ⟨rfl, hb⟩)
    go_ret
    exact ⟨rfl, hb⟩
end Go.Proofs.YtfelhlffiiephaaDoor
