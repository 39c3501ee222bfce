/- Signatures: what memory holds of one, what is wrong with one, and the walks of both tests. Conditions: utf8's tables as laid. -/
import Derived.Test.YtfelhlffiiephaaDoorNames
set_option linter.unusedVariables false
set_option linter.unusedSimpArgs false
namespace Go.Proofs.YtfelhlffiiephaaDoor
open Go.RowKit Go.Lib

abbrev Sy := ByteArray × Int
abbrev sy0 : Sy := (⟨#[]⟩, 0)
/-- A signature that is read. -/
def Sigs (w : World) (A : Option Addr) (l : List Sy) : Prop :=
  (∀ x ∈ l, x.1.size ≤ 9223372036854775807) ∧ l.length ≤ 9223372036854775807 ∧ (0 < l.length → ∃ b off, A = some ⟨b, off, none⟩ ∧ ∀ k, k < l.length →
    w.cell? ⟨b, off + k * 2, none⟩ = some (.string (l.getD k sy0).1) ∧ w.cell? ⟨b, off + k * 2 + 1, none⟩ = some (.int .i64 (l.getD k sy0).2))
theorem Sigs.kept {w w' : World} {A : Option Addr} {l : List Sy} (h : Sigs w A l) (hb : Below w.heap.size w w') : Sigs w' A l :=
  ⟨h.1, h.2.1, fun h0 => by
    obtain ⟨b, off, rfl, hc⟩ := h.2.2 h0
    exact ⟨b, off, rfl, fun k hk => ⟨cell_kept hb (hc k hk).1, cell_kept hb (hc k hk).2⟩⟩⟩
theorem Sigs.at_ {w : World} {A : Option Addr} {l : List Sy} (h : Sigs w A l) {k : Nat} (hk : k < l.length) :
    ∃ b off s a, A = some ⟨b, off, none⟩ ∧ l.getD k sy0 = (s, a) ∧ s.size ≤ 9223372036854775807 ∧ w.cell? ⟨b, off + k * 2, none⟩ = some (.string s) ∧ w.cell? ⟨b, off + k * 2 + 1, none⟩ = some (.int .i64 a) := by
  obtain ⟨b, off, rfl, hc⟩ := h.2.2 (by omega)
  exact ⟨b, off, _, _, rfl, rfl, h.1 _ (getD_mem hk rfl), (hc k hk).1, (hc k hk).2⟩
theorem Sigs.take {w : World} {A : Option Addr} {l : List Sy} (h : Sigs w A l) (k : Nat) : Sigs w A (l.take k) := by
  refine ⟨fun x hx => h.1 x (List.mem_of_mem_take hx), by have := h.2.1; simp; omega, fun h0 => ?_⟩
  obtain ⟨b, off, hA, hc⟩ := h.2.2 (by simp at h0; omega)
  refine ⟨b, off, hA, fun j hj => ?_⟩
  have e : (l.take k).getD j sy0 = l.getD j sy0 := by
    simp only [List.getD_eq_getElem?_getD]
    rw [List.getElem?_take_of_lt (by simp at hj; omega)]
  rw [e]
  exact hc j (by simp at hj; omega)

/-- What is wrong with one symbol, behind those that were seen. -/
def oneErr (seen : List Sy) (x : Sy) : Int :=
  if (isName x.1 || isMarked x.1) = false then 34 else if x.2 < 0 ∨ 8 < x.2 then 35 else if (seen.any fun y => y.1.toList == x.1.toList) = true then 36 else 0
def sigFrom (l : List Sy) : Nat → Nat → Int
  | 0, _ => 0
  | f + 1, i => if i < l.length then (if oneErr (l.take i) (l.getD i sy0) = 0 then sigFrom l f (i + 1) else oneErr (l.take i) (l.getD i sy0)) else 0
/-- What is wrong with a signature. -/
def sigErr (l : List Sy) : Int := if 128 < l.length then 37 else sigFrom l l.length 0
theorem sigFrom_end (l : List Sy) (f i : Nat) (h : ¬ i < l.length) : sigFrom l f i = 0 := by cases f <;> simp [sigFrom, h]
theorem sigFrom_step (l : List Sy) (f i : Nat) (h : i < l.length) : sigFrom l (f + 1) i = if oneErr (l.take i) (l.getD i sy0) = 0 then sigFrom l f (i + 1) else oneErr (l.take i) (l.getD i sy0) := by simp [sigFrom, h]

theorem Tabs.kept' {w w' : World} (h : Tabs w) (hb : Below w.heap.size w w') : Tabs w' := h.kept hb
/-! ### the search for a name -/
set_option maxRecDepth 100000 in
theorem twin_any (s t : ByteArray) (a : Int) (b : Nat) (w : World) (hc : w.cell? ⟨b, 0, none⟩ = some (.string t)) :
    Calls Tryd.prog 21 #[.agg #[.string s, .int .i64 a], .pointer (some ⟨b, 0, none⟩)] w fun e w' => e = .returned (.bool (s.toList == t.toList)) ∧ Below w.heap.size w w' := by
  have hb : b < w.heap.size := World.block_lt_of_cell? w _ hc
  go_enter Tryd.func21, Tryd.ntmps21
  go_wp2_with fail
  go_ret
  exact ⟨rfl, below_alloc0 _ _⟩

theorem any_take_succ (l : List Sy) (t : ByteArray) (k : Nat) (hk : k < l.length) : ((l.take (k + 1)).any fun y => y.1.toList == t.toList) = (((l.take k).any fun y => y.1.toList == t.toList) || ((l.getD k sy0).1.toList == t.toList)) := by
  rw [take_succ' l sy0 hk, List.any_append]; simp
set_option maxRecDepth 100000 in
set_option maxHeartbeats 1000000 in
theorem index_any (A : Option Addr) (l : List Sy) (len cap : Nat) (hlen : l.length = len) (t : ByteArray) (b : Nat) (w : World) (hl : Sigs w A l) (hc : w.cell? ⟨b, 0, none⟩ = some (.string t)) :
    Calls Tryd.prog 35 #[.slice A len cap, .func (.func 21) #[] #[.pointer (some ⟨b, 0, none⟩)]] w
      fun e w' => (∃ r : Int, e = .returned (.int .i64 r) ∧ decide (0 ≤ r) = l.any (fun y => y.1.toList == t.toList)) ∧ Below w.heap.size w w' := by
  subst hlen
  have hmax := hl.2.1
  go_enter Tryd.func35, Tryd.ntmps35
  go_wp2_with fail
  go_loopg [8] l.length (fun gk v wx => ∃ j : Nat, Aside (gk + j = l.length) ∧ v = .int .i64 j ∧ Below w.heap.size w wx ∧ Aside (((l.take j).any fun y => y.1.toList == t.toList) = false))
  case atStart => exact ⟨0, (rfl : l.length + 0 = _), rfl, Below.refl _ _, rfl⟩
  case round =>
    obtain ⟨j, hg, rfl, hB, hN⟩ := hrel
    by_cases hj : j < l.length
    · obtain ⟨bb, off, s, a, rfl, hga, hs, h1, h2⟩ := (hl.kept hB).at_ hj
      have HA := Lib.hid hga
      clear hga
      cases hst : (s.toList == t.toList) with
      | true =>
        go_wp2_with (go_at_call 21; refine (twin_any _ _ _ b _ (cell_kept hB hc)).mono ?_; rintro e w' ⟨rfl, hb⟩)
        go_ret
        refine ⟨⟨_, rfl, ?_⟩, below_then hB hB.size hb⟩
        rw [List.any_eq_true.2 ⟨(s, a), getD_mem hj HA.out, hst⟩]
        simp
      | false =>
        go_wp2_with (go_at_call 21; refine (twin_any _ _ _ b _ (cell_kept hB hc)).mono ?_; rintro e w' ⟨rfl, hb⟩)
        go_roundg (l.length - (j + 1))
        case measure => have := hg.out; omega
        case rel => exact ⟨j + 1, by have := hg.out; show _ = _; omega, by go_num, below_then hB hB.size hb, (any_take_succ l t j hj).trans (by rw [hN.out, HA.out, hst]; rfl)⟩
    · go_wp2_with fail
      go_ret
      refine ⟨⟨_, rfl, ?_⟩, hB⟩
      have h := hN.out
      rw [List.take_of_length_le (by omega)] at h
      rw [h]; rfl
set_option maxRecDepth 100000 in
theorem contains_any (A : Option Addr) (l : List Sy) (len cap : Nat) (hlen : l.length = len) (t : ByteArray) (b : Nat) (w : World) (hl : Sigs w A l) (hc : w.cell? ⟨b, 0, none⟩ = some (.string t)) :
    Calls Tryd.prog 20 #[.slice A len cap, .func (.func 21) #[] #[.pointer (some ⟨b, 0, none⟩)]] w
      fun e w' => e = .returned (.bool (l.any fun y => y.1.toList == t.toList)) ∧ Below w.heap.size w w' := by
  have cI := index_any A l len cap hlen t b w hl hc
  generalize (l.any fun y => y.1.toList == t.toList) = X at cI ⊢
  go_enter Tryd.func20, Tryd.ntmps20
  go_wp2_with (go_at_call 35; refine cI.mono ?_; rintro e w' ⟨⟨r, rfl, hr⟩, hb⟩)
  go_ret
  exact ⟨by rw [← hr]; rfl, hb⟩

set_option maxRecDepth 100000 in
set_option maxHeartbeats 2000000 in
theorem sig_any (A : Option Addr) (l : List Sy) (len cap : Nat) (hlen : l.length = len) (hcap : len ≤ cap) (w : World) (hl : Sigs w A l) (hT : Tabs w) :
    Calls Tryd.prog 10 #[.slice A len cap] w fun e w' => e = .returned (.int .i64 (sigErr l)) ∧ Below w.heap.size w w' := by
  subst hlen
  have hmf : ∀ (fn : Fn) (first cap : Array Value) (w : World), (Instr.makeFunc fn first cap).run Tryd.prog w = .ok (.func fn first cap) w := fun _ _ _ _ => rfl
  unfold sigErr
  by_cases hmany : 128 < l.length
  · rw [if_pos hmany]
    go_enter Tryd.func10, Tryd.ntmps10
    go_wp2_with fail
    go_ret
    exact ⟨rfl, Below.refl _ _⟩
  rw [if_neg hmany]
  go_enter Tryd.func10, Tryd.ntmps10
  go_wp2_with fail
  go_loopg [11] l.length (fun gk v wx => ∃ j : Nat, Aside (gk + j = l.length) ∧ v = .int .i64 j ∧ Below w.heap.size w wx ∧ Aside (sigFrom l l.length 0 = sigFrom l gk j))
  case atStart => exact ⟨0, (rfl : l.length + 0 = _), rfl, Below.refl _ _, rfl⟩
  case round =>
    obtain ⟨j, hg, rfl, hB, hN⟩ := hrel
    by_cases hj : j < l.length
    · cases gk with
      | zero => have := hg.out; omega
      | succ g =>
        obtain ⟨bb, off, s, a, rfl, hga, hs, h1, h2⟩ := (hl.kept hB).at_ hj
        have HST := Lib.hid (hN.out.trans (sigFrom_step l g j hj))
        have HA := Lib.hid hga
        have hTr := hT.kept hB
        have hlr := hl.kept hB
        clear hga hN
        have hclose : ∀ v, oneErr (l.take j) (l.getD j sy0) = v → v ≠ 0 → sigFrom l l.length 0 = v := fun v hv h0 => by
          rw [HST.out, hv, if_neg h0]
        have hgo : oneErr (l.take j) (l.getD j sy0) = 0 → sigFrom l l.length 0 = sigFrom l g (j + 1) := fun hv => by
          rw [HST.out, if_pos hv]
        have hB1 := below_alloc hB hB.size (.cells #[.string s, .int .i64 a] 53)
        have hT1 := hT.kept' hB1
        have hl1 := hlr.kept (below_alloc0 wr (.cells #[.string s, .int .i64 a] 53))
        have hc0 : (wr.alloc (.cells #[.string s, .int .i64 a] 53)).cell? ⟨wr.heap.size, 0, none⟩ = some (.string s) := by rw [World.cell?_alloc_new]; rfl
        have hc1 : (wr.alloc (.cells #[.string s, .int .i64 a] 53)).cell? ⟨wr.heap.size, 1, none⟩ = some (.int .i64 a) := by rw [World.cell?_alloc_new]; rfl
        have HG := Lib.hid hgo
        have HC := Lib.hid hclose
        clear hgo hclose
        have hgo := HG.out
        have hclose := HC.out
        have hjc : j ≤ cap := by omega
        cases hn : isName s with
        | true =>
          have hnm : (isName s || isMarked s) = true := by rw [hn]; rfl
          by_cases ha : a < 0
          · have HV : Hid (oneErr (l.take j) (l.getD j sy0) = 35) := Lib.hid (by rw [HA.out, oneErr, if_neg (by simp [hnm]), if_pos (.inl ha)])
            go_wp2_with (first
            | (go_at_call 19; refine (named_any _ _ (by assumption)).mono ?_; rintro e w' ⟨rfl, hb⟩; have hTr' := Tabs.kept (by assumption) hb; have hlr' := Sigs.kept (A := some ⟨bb, off, none⟩) (l := l) (by assumption) hb; have hc0' := cell_kept hb (a := ⟨wr.heap.size, 0, none⟩) (v := .string s) (by assumption); have hc1' := cell_kept hb (a := ⟨wr.heap.size, 1, none⟩) (v := .int .i64 a) (by assumption); have hB' := below_then (B := w.heap.size) (w := w) (by assumption) (Below.size (B := w.heap.size) (w := w) (by assumption)) hb)
            | (go_at_call 20; refine (contains_any (some ⟨bb, off, none⟩) (l.take j) j cap (by simp; omega) s _ _ (Sigs.take (l := l) (by assumption) j) (by assumption)).mono ?_; rintro e w' ⟨rfl, hb⟩; have hTr' := Tabs.kept (by assumption) hb; have hlr' := Sigs.kept (A := some ⟨bb, off, none⟩) (l := l) (by assumption) hb; have hc0' := cell_kept hb (a := ⟨wr.heap.size, 0, none⟩) (v := .string s) (by assumption); have hc1' := cell_kept hb (a := ⟨wr.heap.size, 1, none⟩) (v := .int .i64 a) (by assumption); have hB' := below_then (B := w.heap.size) (w := w) (by assumption) (Below.size (B := w.heap.size) (w := w) (by assumption)) hb))
            go_ret
            exact ⟨by rw [hclose 35 HV.out (by decide)]; rfl, by assumption⟩
          by_cases ha8 : 8 < a
          · have HV : Hid (oneErr (l.take j) (l.getD j sy0) = 35) := Lib.hid (by rw [HA.out, oneErr, if_neg (by simp [hnm]), if_pos (.inr ha8)])
            go_wp2_with (first
            | (go_at_call 19; refine (named_any _ _ (by assumption)).mono ?_; rintro e w' ⟨rfl, hb⟩; have hTr' := Tabs.kept (by assumption) hb; have hlr' := Sigs.kept (A := some ⟨bb, off, none⟩) (l := l) (by assumption) hb; have hc0' := cell_kept hb (a := ⟨wr.heap.size, 0, none⟩) (v := .string s) (by assumption); have hc1' := cell_kept hb (a := ⟨wr.heap.size, 1, none⟩) (v := .int .i64 a) (by assumption); have hB' := below_then (B := w.heap.size) (w := w) (by assumption) (Below.size (B := w.heap.size) (w := w) (by assumption)) hb)
            | (go_at_call 20; refine (contains_any (some ⟨bb, off, none⟩) (l.take j) j cap (by simp; omega) s _ _ (Sigs.take (l := l) (by assumption) j) (by assumption)).mono ?_; rintro e w' ⟨rfl, hb⟩; have hTr' := Tabs.kept (by assumption) hb; have hlr' := Sigs.kept (A := some ⟨bb, off, none⟩) (l := l) (by assumption) hb; have hc0' := cell_kept hb (a := ⟨wr.heap.size, 0, none⟩) (v := .string s) (by assumption); have hc1' := cell_kept hb (a := ⟨wr.heap.size, 1, none⟩) (v := .int .i64 a) (by assumption); have hB' := below_then (B := w.heap.size) (w := w) (by assumption) (Below.size (B := w.heap.size) (w := w) (by assumption)) hb))
            go_ret
            exact ⟨by rw [hclose 35 HV.out (by decide)]; rfl, by assumption⟩
          cases hd : (l.take j).any (fun y => y.1.toList == s.toList) with
          | true =>
            have HV : Hid (oneErr (l.take j) (l.getD j sy0) = 36) := Lib.hid (by rw [HA.out, oneErr, if_neg (by simp [hnm]), if_neg (by omega), if_pos hd])
            go_wp2_with (first
            | (go_at_call 19; refine (named_any _ _ (by assumption)).mono ?_; rintro e w' ⟨rfl, hb⟩; have hTr' := Tabs.kept (by assumption) hb; have hlr' := Sigs.kept (A := some ⟨bb, off, none⟩) (l := l) (by assumption) hb; have hc0' := cell_kept hb (a := ⟨wr.heap.size, 0, none⟩) (v := .string s) (by assumption); have hc1' := cell_kept hb (a := ⟨wr.heap.size, 1, none⟩) (v := .int .i64 a) (by assumption); have hB' := below_then (B := w.heap.size) (w := w) (by assumption) (Below.size (B := w.heap.size) (w := w) (by assumption)) hb)
            | (go_at_call 20; refine (contains_any (some ⟨bb, off, none⟩) (l.take j) j cap (by simp; omega) s _ _ (Sigs.take (l := l) (by assumption) j) (by assumption)).mono ?_; rintro e w' ⟨rfl, hb⟩; have hTr' := Tabs.kept (by assumption) hb; have hlr' := Sigs.kept (A := some ⟨bb, off, none⟩) (l := l) (by assumption) hb; have hc0' := cell_kept hb (a := ⟨wr.heap.size, 0, none⟩) (v := .string s) (by assumption); have hc1' := cell_kept hb (a := ⟨wr.heap.size, 1, none⟩) (v := .int .i64 a) (by assumption); have hB' := below_then (B := w.heap.size) (w := w) (by assumption) (Below.size (B := w.heap.size) (w := w) (by assumption)) hb))
            go_ret
            exact ⟨by rw [hclose 36 HV.out (by decide)]; rfl, by assumption⟩
          | false =>
            have HV : Hid (oneErr (l.take j) (l.getD j sy0) = 0) := Lib.hid (by rw [HA.out, oneErr, if_neg (by simp [hnm]), if_neg (by omega), if_neg (by simp [hd])])
            go_wp2_with (first
            | (go_at_call 19; refine (named_any _ _ (by assumption)).mono ?_; rintro e w' ⟨rfl, hb⟩; have hTr' := Tabs.kept (by assumption) hb; have hlr' := Sigs.kept (A := some ⟨bb, off, none⟩) (l := l) (by assumption) hb; have hc0' := cell_kept hb (a := ⟨wr.heap.size, 0, none⟩) (v := .string s) (by assumption); have hc1' := cell_kept hb (a := ⟨wr.heap.size, 1, none⟩) (v := .int .i64 a) (by assumption); have hB' := below_then (B := w.heap.size) (w := w) (by assumption) (Below.size (B := w.heap.size) (w := w) (by assumption)) hb)
            | (go_at_call 20; refine (contains_any (some ⟨bb, off, none⟩) (l.take j) j cap (by simp; omega) s _ _ (Sigs.take (l := l) (by assumption) j) (by assumption)).mono ?_; rintro e w' ⟨rfl, hb⟩; have hTr' := Tabs.kept (by assumption) hb; have hlr' := Sigs.kept (A := some ⟨bb, off, none⟩) (l := l) (by assumption) hb; have hc0' := cell_kept hb (a := ⟨wr.heap.size, 0, none⟩) (v := .string s) (by assumption); have hc1' := cell_kept hb (a := ⟨wr.heap.size, 1, none⟩) (v := .int .i64 a) (by assumption); have hB' := below_then (B := w.heap.size) (w := w) (by assumption) (Below.size (B := w.heap.size) (w := w) (by assumption)) hb))
            go_roundg g
            case measure => omega
            case rel => exact ⟨j + 1, by have := hg.out; show _ = _; omega, by go_num, by assumption, hgo HV.out⟩
        | false =>
          have bad : isMarked s = false → Hid (oneErr (l.take j) (l.getD j sy0) = 34) := fun h => Lib.hid (by rw [HA.out, oneErr, if_pos (by rw [hn, h]; rfl)])
          by_cases h0 : s.size = 0
          · have HV := bad (by unfold isMarked; rw [dif_neg (by omega)])
            go_wp2_with (first
            | (go_at_call 19; refine (named_any _ _ (by assumption)).mono ?_; rintro e w' ⟨rfl, hb⟩; have hTr' := Tabs.kept (by assumption) hb; have hlr' := Sigs.kept (A := some ⟨bb, off, none⟩) (l := l) (by assumption) hb; have hc0' := cell_kept hb (a := ⟨wr.heap.size, 0, none⟩) (v := .string s) (by assumption); have hc1' := cell_kept hb (a := ⟨wr.heap.size, 1, none⟩) (v := .int .i64 a) (by assumption); have hB' := below_then (B := w.heap.size) (w := w) (by assumption) (Below.size (B := w.heap.size) (w := w) (by assumption)) hb)
            | (go_at_call 20; refine (contains_any (some ⟨bb, off, none⟩) (l.take j) j cap (by simp; omega) s _ _ (Sigs.take (l := l) (by assumption) j) (by assumption)).mono ?_; rintro e w' ⟨rfl, hb⟩; have hTr' := Tabs.kept (by assumption) hb; have hlr' := Sigs.kept (A := some ⟨bb, off, none⟩) (l := l) (by assumption) hb; have hc0' := cell_kept hb (a := ⟨wr.heap.size, 0, none⟩) (v := .string s) (by assumption); have hc1' := cell_kept hb (a := ⟨wr.heap.size, 1, none⟩) (v := .int .i64 a) (by assumption); have hB' := below_then (B := w.heap.size) (w := w) (by assumption) (Below.size (B := w.heap.size) (w := w) (by assumption)) hb))
            go_ret
            exact ⟨by rw [hclose 34 HV.out (by decide)]; rfl, by assumption⟩
          have hsz : (0 : Int) < (s.size : Int) := by omega
          have hz0 : ((s.size : Int) == 0) = false := beq_eq_false_iff_ne.2 (by omega)
          have hz1 : (0 : Int) ≤ (s.size : Int) - 1 := by omega
          have hz2 : (s.size : Int) - 1 < (s.size : Int) := by omega
          have hz3 : (s.size : Int) - 1 ≤ 9223372036854775807 := by omega
          by_cases h35 : (s[s.size - 1]'(by omega)).toNat = 35
          · have hb35 : (((s[s.size - 1]'(by omega)).toNat : Int) == 35) = true := beq_iff_eq.2 (by omega)
            have hb35' : (((s[s.size - 1]'(by omega)).toNat : Int) != 35) = false := by simp [bne, hb35]
            have hmk : isMarked s = isName (s.extract 0 (s.size - 1)) := by unfold isMarked; rw [dif_pos (by omega), decide_eq_true h35, Bool.true_and]
            cases hx : isName (s.extract 0 (s.size - 1)) with
            | true =>
              have hnm : (isName s || isMarked s) = true := by rw [hn, hmk, hx]; rfl
              clear hmk bad
              by_cases ha : a < 0
              · have HV : Hid (oneErr (l.take j) (l.getD j sy0) = 35) := Lib.hid (by rw [HA.out, oneErr, if_neg (by simp [hnm]), if_pos (.inl ha)])
                go_wp2_with (first
                | (go_at_call 19; refine (named_any _ _ (by assumption)).mono ?_; rintro e w' ⟨rfl, hb⟩; have hTr' := Tabs.kept (by assumption) hb; have hlr' := Sigs.kept (A := some ⟨bb, off, none⟩) (l := l) (by assumption) hb; have hc0' := cell_kept hb (a := ⟨wr.heap.size, 0, none⟩) (v := .string s) (by assumption); have hc1' := cell_kept hb (a := ⟨wr.heap.size, 1, none⟩) (v := .int .i64 a) (by assumption); have hB' := below_then (B := w.heap.size) (w := w) (by assumption) (Below.size (B := w.heap.size) (w := w) (by assumption)) hb)
                | (go_at_call 20; refine (contains_any (some ⟨bb, off, none⟩) (l.take j) j cap (by simp; omega) s _ _ (Sigs.take (l := l) (by assumption) j) (by assumption)).mono ?_; rintro e w' ⟨rfl, hb⟩; have hTr' := Tabs.kept (by assumption) hb; have hlr' := Sigs.kept (A := some ⟨bb, off, none⟩) (l := l) (by assumption) hb; have hc0' := cell_kept hb (a := ⟨wr.heap.size, 0, none⟩) (v := .string s) (by assumption); have hc1' := cell_kept hb (a := ⟨wr.heap.size, 1, none⟩) (v := .int .i64 a) (by assumption); have hB' := below_then (B := w.heap.size) (w := w) (by assumption) (Below.size (B := w.heap.size) (w := w) (by assumption)) hb))
                go_ret
                exact ⟨by rw [hclose 35 HV.out (by decide)]; rfl, by assumption⟩
              by_cases ha8 : 8 < a
              · have HV : Hid (oneErr (l.take j) (l.getD j sy0) = 35) := Lib.hid (by rw [HA.out, oneErr, if_neg (by simp [hnm]), if_pos (.inr ha8)])
                go_wp2_with (first
                | (go_at_call 19; refine (named_any _ _ (by assumption)).mono ?_; rintro e w' ⟨rfl, hb⟩; have hTr' := Tabs.kept (by assumption) hb; have hlr' := Sigs.kept (A := some ⟨bb, off, none⟩) (l := l) (by assumption) hb; have hc0' := cell_kept hb (a := ⟨wr.heap.size, 0, none⟩) (v := .string s) (by assumption); have hc1' := cell_kept hb (a := ⟨wr.heap.size, 1, none⟩) (v := .int .i64 a) (by assumption); have hB' := below_then (B := w.heap.size) (w := w) (by assumption) (Below.size (B := w.heap.size) (w := w) (by assumption)) hb)
                | (go_at_call 20; refine (contains_any (some ⟨bb, off, none⟩) (l.take j) j cap (by simp; omega) s _ _ (Sigs.take (l := l) (by assumption) j) (by assumption)).mono ?_; rintro e w' ⟨rfl, hb⟩; have hTr' := Tabs.kept (by assumption) hb; have hlr' := Sigs.kept (A := some ⟨bb, off, none⟩) (l := l) (by assumption) hb; have hc0' := cell_kept hb (a := ⟨wr.heap.size, 0, none⟩) (v := .string s) (by assumption); have hc1' := cell_kept hb (a := ⟨wr.heap.size, 1, none⟩) (v := .int .i64 a) (by assumption); have hB' := below_then (B := w.heap.size) (w := w) (by assumption) (Below.size (B := w.heap.size) (w := w) (by assumption)) hb))
                go_ret
                exact ⟨by rw [hclose 35 HV.out (by decide)]; rfl, by assumption⟩
              cases hd : (l.take j).any (fun y => y.1.toList == s.toList) with
              | true =>
                have HV : Hid (oneErr (l.take j) (l.getD j sy0) = 36) := Lib.hid (by rw [HA.out, oneErr, if_neg (by simp [hnm]), if_neg (by omega), if_pos hd])
                go_wp2_with (first
                | (go_at_call 19; refine (named_any _ _ (by assumption)).mono ?_; rintro e w' ⟨rfl, hb⟩; have hTr' := Tabs.kept (by assumption) hb; have hlr' := Sigs.kept (A := some ⟨bb, off, none⟩) (l := l) (by assumption) hb; have hc0' := cell_kept hb (a := ⟨wr.heap.size, 0, none⟩) (v := .string s) (by assumption); have hc1' := cell_kept hb (a := ⟨wr.heap.size, 1, none⟩) (v := .int .i64 a) (by assumption); have hB' := below_then (B := w.heap.size) (w := w) (by assumption) (Below.size (B := w.heap.size) (w := w) (by assumption)) hb)
                | (go_at_call 20; refine (contains_any (some ⟨bb, off, none⟩) (l.take j) j cap (by simp; omega) s _ _ (Sigs.take (l := l) (by assumption) j) (by assumption)).mono ?_; rintro e w' ⟨rfl, hb⟩; have hTr' := Tabs.kept (by assumption) hb; have hlr' := Sigs.kept (A := some ⟨bb, off, none⟩) (l := l) (by assumption) hb; have hc0' := cell_kept hb (a := ⟨wr.heap.size, 0, none⟩) (v := .string s) (by assumption); have hc1' := cell_kept hb (a := ⟨wr.heap.size, 1, none⟩) (v := .int .i64 a) (by assumption); have hB' := below_then (B := w.heap.size) (w := w) (by assumption) (Below.size (B := w.heap.size) (w := w) (by assumption)) hb))
                go_ret
                exact ⟨by rw [hclose 36 HV.out (by decide)]; rfl, by assumption⟩
              | false =>
                have HV : Hid (oneErr (l.take j) (l.getD j sy0) = 0) := Lib.hid (by rw [HA.out, oneErr, if_neg (by simp [hnm]), if_neg (by omega), if_neg (by simp [hd])])
                go_wp2_with (first
                | (go_at_call 19; refine (named_any _ _ (by assumption)).mono ?_; rintro e w' ⟨rfl, hb⟩; have hTr' := Tabs.kept (by assumption) hb; have hlr' := Sigs.kept (A := some ⟨bb, off, none⟩) (l := l) (by assumption) hb; have hc0' := cell_kept hb (a := ⟨wr.heap.size, 0, none⟩) (v := .string s) (by assumption); have hc1' := cell_kept hb (a := ⟨wr.heap.size, 1, none⟩) (v := .int .i64 a) (by assumption); have hB' := below_then (B := w.heap.size) (w := w) (by assumption) (Below.size (B := w.heap.size) (w := w) (by assumption)) hb)
                | (go_at_call 20; refine (contains_any (some ⟨bb, off, none⟩) (l.take j) j cap (by simp; omega) s _ _ (Sigs.take (l := l) (by assumption) j) (by assumption)).mono ?_; rintro e w' ⟨rfl, hb⟩; have hTr' := Tabs.kept (by assumption) hb; have hlr' := Sigs.kept (A := some ⟨bb, off, none⟩) (l := l) (by assumption) hb; have hc0' := cell_kept hb (a := ⟨wr.heap.size, 0, none⟩) (v := .string s) (by assumption); have hc1' := cell_kept hb (a := ⟨wr.heap.size, 1, none⟩) (v := .int .i64 a) (by assumption); have hB' := below_then (B := w.heap.size) (w := w) (by assumption) (Below.size (B := w.heap.size) (w := w) (by assumption)) hb))
                go_roundg g
                case measure => omega
                case rel => exact ⟨j + 1, by have := hg.out; show _ = _; omega, by go_num, by assumption, hgo HV.out⟩
            | false =>
              have HV := bad (hmk.trans hx)
              clear hmk bad
              go_wp2_with (first
              | (go_at_call 19; refine (named_any _ _ (by assumption)).mono ?_; rintro e w' ⟨rfl, hb⟩; have hTr' := Tabs.kept (by assumption) hb; have hlr' := Sigs.kept (A := some ⟨bb, off, none⟩) (l := l) (by assumption) hb; have hc0' := cell_kept hb (a := ⟨wr.heap.size, 0, none⟩) (v := .string s) (by assumption); have hc1' := cell_kept hb (a := ⟨wr.heap.size, 1, none⟩) (v := .int .i64 a) (by assumption); have hB' := below_then (B := w.heap.size) (w := w) (by assumption) (Below.size (B := w.heap.size) (w := w) (by assumption)) hb)
              | (go_at_call 20; refine (contains_any (some ⟨bb, off, none⟩) (l.take j) j cap (by simp; omega) s _ _ (Sigs.take (l := l) (by assumption) j) (by assumption)).mono ?_; rintro e w' ⟨rfl, hb⟩; have hTr' := Tabs.kept (by assumption) hb; have hlr' := Sigs.kept (A := some ⟨bb, off, none⟩) (l := l) (by assumption) hb; have hc0' := cell_kept hb (a := ⟨wr.heap.size, 0, none⟩) (v := .string s) (by assumption); have hc1' := cell_kept hb (a := ⟨wr.heap.size, 1, none⟩) (v := .int .i64 a) (by assumption); have hB' := below_then (B := w.heap.size) (w := w) (by assumption) (Below.size (B := w.heap.size) (w := w) (by assumption)) hb))
              go_ret
              exact ⟨by rw [hclose 34 HV.out (by decide)]; rfl, by assumption⟩
          · have hb35 : (((s[s.size - 1]'(by omega)).toNat : Int) == 35) = false := beq_eq_false_iff_ne.2 (by omega)
            have hb35' : (((s[s.size - 1]'(by omega)).toNat : Int) != 35) = true := by simp [bne, hb35]
            have HV := bad (by unfold isMarked; rw [dif_pos (by omega), decide_eq_false h35, Bool.false_and])
            clear bad
            go_wp2_with (first
            | (go_at_call 19; refine (named_any _ _ (by assumption)).mono ?_; rintro e w' ⟨rfl, hb⟩; have hTr' := Tabs.kept (by assumption) hb; have hlr' := Sigs.kept (A := some ⟨bb, off, none⟩) (l := l) (by assumption) hb; have hc0' := cell_kept hb (a := ⟨wr.heap.size, 0, none⟩) (v := .string s) (by assumption); have hc1' := cell_kept hb (a := ⟨wr.heap.size, 1, none⟩) (v := .int .i64 a) (by assumption); have hB' := below_then (B := w.heap.size) (w := w) (by assumption) (Below.size (B := w.heap.size) (w := w) (by assumption)) hb)
            | (go_at_call 20; refine (contains_any (some ⟨bb, off, none⟩) (l.take j) j cap (by simp; omega) s _ _ (Sigs.take (l := l) (by assumption) j) (by assumption)).mono ?_; rintro e w' ⟨rfl, hb⟩; have hTr' := Tabs.kept (by assumption) hb; have hlr' := Sigs.kept (A := some ⟨bb, off, none⟩) (l := l) (by assumption) hb; have hc0' := cell_kept hb (a := ⟨wr.heap.size, 0, none⟩) (v := .string s) (by assumption); have hc1' := cell_kept hb (a := ⟨wr.heap.size, 1, none⟩) (v := .int .i64 a) (by assumption); have hB' := below_then (B := w.heap.size) (w := w) (by assumption) (Below.size (B := w.heap.size) (w := w) (by assumption)) hb))
            go_ret
            exact ⟨by rw [hclose 34 HV.out (by decide)]; rfl, by assumption⟩
    · go_wp2_with fail
      go_ret
      exact ⟨by rw [hN.out, sigFrom_end l _ _ hj]; rfl, hB⟩
set_option maxRecDepth 100000 in
set_option maxHeartbeats 2000000 in
theorem refsig_any (A : Option Addr) (l : List Sy) (len cap : Nat) (hlen : l.length = len) (w : World) (hl : Sigs w A l) :
    Calls Tryd.prog 6 #[.slice A len cap] w fun e w' => e = .returned (.int .i64 (sigErr l)) ∧ Below w.heap.size w w' := by
  subst hlen
  unfold sigErr
  by_cases hmany : 128 < l.length
  · rw [if_pos hmany]
    go_enter Tryd.func6, Tryd.ntmps6
    go_wp2_with fail
    go_ret
    exact ⟨rfl, Below.refl _ _⟩
  rw [if_neg hmany]
  go_enter Tryd.func6, Tryd.ntmps6
  go_wp2_with fail
  go_loopg [3] l.length (fun gk v wx => ∃ j : Nat, Aside (gk + j = l.length) ∧ v = .int .i64 j ∧ Below w.heap.size w wx ∧ Aside (sigFrom l l.length 0 = sigFrom l gk j))
  case atStart => exact ⟨0, (rfl : l.length + 0 = _), rfl, Below.refl _ _, rfl⟩
  case round =>
    obtain ⟨j, hg, rfl, hB, hN⟩ := hrel
    by_cases hj : j < l.length
    · cases gk with
      | zero => have := hg.out; omega
      | succ g =>
        obtain ⟨bb, off, s, a, rfl, hga, hs, h1, h2⟩ := (hl.kept hB).at_ hj
        have HST := Lib.hid (hN.out.trans (sigFrom_step l g j hj))
        have HA := Lib.hid hga
        have hlr := hl.kept hB
        clear hga hN
        have HC : Hid (∀ v, oneErr (l.take j) (l.getD j sy0) = v → v ≠ 0 → sigFrom l l.length 0 = v) := Lib.hid fun v hv h0 => by
          rw [HST.out, hv, if_neg h0]
        have HG : Hid (oneErr (l.take j) (l.getD j sy0) = 0 → sigFrom l l.length 0 = sigFrom l g (j + 1)) := Lib.hid fun hv => by
          rw [HST.out, if_pos hv]
        cases hn : isName s with
        | true =>
          have hnm : (isName s || isMarked s) = true := by rw [hn]; rfl
          by_cases ha : a < 0
          · have HV : Hid (oneErr (l.take j) (l.getD j sy0) = 35) := Lib.hid (by rw [HA.out, oneErr, if_neg (by simp [hnm]), if_pos (.inl ha)])
            go_wp2_with (first
            | (go_at_call 13; refine (name_any _ _).mono ?_; rintro e w' ⟨rfl, hb⟩; have hlr' := Sigs.kept (A := some ⟨bb, off, none⟩) (l := l) (by assumption) hb; have h1' := cell_kept hb (a := ⟨bb, off + j * 2, none⟩) (v := .string s) (by assumption); have h2' := cell_kept hb (a := ⟨bb, off + j * 2 + 1, none⟩) (v := .int .i64 a) (by assumption); have hB' := below_then (B := w.heap.size) (w := w) (by assumption) (Below.size (B := w.heap.size) (w := w) (by assumption)) hb)
            | (go_at_call 14; refine (marked_any _ _ (by assumption)).mono ?_; rintro e w' ⟨rfl, hb⟩; have hlr' := Sigs.kept (A := some ⟨bb, off, none⟩) (l := l) (by assumption) hb; have h1' := cell_kept hb (a := ⟨bb, off + j * 2, none⟩) (v := .string s) (by assumption); have h2' := cell_kept hb (a := ⟨bb, off + j * 2 + 1, none⟩) (v := .int .i64 a) (by assumption); have hB' := below_then (B := w.heap.size) (w := w) (by assumption) (Below.size (B := w.heap.size) (w := w) (by assumption)) hb))
            go_ret
            exact ⟨by rw [HC.out 35 HV.out (by decide)]; rfl, by assumption⟩
          by_cases ha8 : 8 < a
          · have HV : Hid (oneErr (l.take j) (l.getD j sy0) = 35) := Lib.hid (by rw [HA.out, oneErr, if_neg (by simp [hnm]), if_pos (.inr ha8)])
            go_wp2_with (first
            | (go_at_call 13; refine (name_any _ _).mono ?_; rintro e w' ⟨rfl, hb⟩; have hlr' := Sigs.kept (A := some ⟨bb, off, none⟩) (l := l) (by assumption) hb; have h1' := cell_kept hb (a := ⟨bb, off + j * 2, none⟩) (v := .string s) (by assumption); have h2' := cell_kept hb (a := ⟨bb, off + j * 2 + 1, none⟩) (v := .int .i64 a) (by assumption); have hB' := below_then (B := w.heap.size) (w := w) (by assumption) (Below.size (B := w.heap.size) (w := w) (by assumption)) hb)
            | (go_at_call 14; refine (marked_any _ _ (by assumption)).mono ?_; rintro e w' ⟨rfl, hb⟩; have hlr' := Sigs.kept (A := some ⟨bb, off, none⟩) (l := l) (by assumption) hb; have h1' := cell_kept hb (a := ⟨bb, off + j * 2, none⟩) (v := .string s) (by assumption); have h2' := cell_kept hb (a := ⟨bb, off + j * 2 + 1, none⟩) (v := .int .i64 a) (by assumption); have hB' := below_then (B := w.heap.size) (w := w) (by assumption) (Below.size (B := w.heap.size) (w := w) (by assumption)) hb))
            go_ret
            exact ⟨by rw [HC.out 35 HV.out (by decide)]; rfl, by assumption⟩
          have HD : Hid (oneErr (l.take j) (l.getD j sy0) = if ((l.take j).any fun y => y.1.toList == s.toList) = true then 36 else 0) := Lib.hid (by rw [HA.out, oneErr, if_neg (by simp [hnm]), if_neg (by omega)])
          go_wp2_with (first
          | (go_at_call 13; refine (name_any _ _).mono ?_; rintro e w' ⟨rfl, hb⟩; have hlr' := Sigs.kept (A := some ⟨bb, off, none⟩) (l := l) (by assumption) hb; have h1' := cell_kept hb (a := ⟨bb, off + j * 2, none⟩) (v := .string s) (by assumption); have h2' := cell_kept hb (a := ⟨bb, off + j * 2 + 1, none⟩) (v := .int .i64 a) (by assumption); have hB' := below_then (B := w.heap.size) (w := w) (by assumption) (Below.size (B := w.heap.size) (w := w) (by assumption)) hb)
          | (go_at_call 14; refine (marked_any _ _ (by assumption)).mono ?_; rintro e w' ⟨rfl, hb⟩; have hlr' := Sigs.kept (A := some ⟨bb, off, none⟩) (l := l) (by assumption) hb; have h1' := cell_kept hb (a := ⟨bb, off + j * 2, none⟩) (v := .string s) (by assumption); have h2' := cell_kept hb (a := ⟨bb, off + j * 2 + 1, none⟩) (v := .int .i64 a) (by assumption); have hB' := below_then (B := w.heap.size) (w := w) (by assumption) (Below.size (B := w.heap.size) (w := w) (by assumption)) hb))
          obtain ⟨w5, rfl⟩ : ∃ w5 : World, w5 = w' := ⟨_, rfl⟩
          go_loopg [4] j (fun gi v wx => ∃ k : Nat, Aside (gi + k = j) ∧ v = .int .i64 k ∧ Below w.heap.size w wx ∧ Sigs wx (some ⟨bb, off, none⟩) l ∧ wx.cell? ⟨bb, off + j * 2, none⟩ = some (.string s) ∧ Aside (((l.take k).any fun y => y.1.toList == s.toList) = false))
          case atStart => exact ⟨0, (rfl : j + 0 = j), rfl, hB', hlr', h1', rfl⟩
          case round =>
            clear hB' hlr' h1' h2' hb hB hlr h1 h2
            obtain ⟨k, hgk, rfl, hB, hlr, h1, hNk⟩ := hrel
            by_cases hk : k < j
            · obtain ⟨bb', off', s', a', he, hga', hs', e1, e2⟩ := hlr.at_ (show k < l.length by omega)
              have HA' := Lib.hid hga'
              clear hga'
              cases he
              cases hst : (s'.toList == s.toList) with
              | true =>
                have HV : Hid (oneErr (l.take j) (l.getD j sy0) = 36) := Lib.hid (by
                  rw [HD.out, if_pos]
                  exact List.any_eq_true.2 ⟨(s', a'), getD_mem (d := sy0) (l := l.take j) (k := k) (by simp; omega) (by rw [List.getD_eq_getElem?_getD, List.getElem?_take_of_lt hk, ← List.getD_eq_getElem?_getD]; exact HA'.out), hst⟩)
                go_wp2_with fail
                go_quiet (fail)
                go_wp2_with fail
                go_ret
                exact ⟨by rw [HC.out 36 HV.out (by decide)]; rfl, below_drawN hB _⟩
              | false =>
                go_wp2_with fail
                go_quiet (fail)
                go_wp2_with fail
                go_roundg (j - (k + 1))
                case measure => have := hgk.out; omega
                case rel => exact ⟨k + 1, by have := hgk.out; show _ = _; omega, by go_num, below_drawN hB _, hlr.kept (below_drawN (Below.refl _ _) _), cell_kept (below_drawN (Below.refl _ _) _) h1, (any_take_succ l s k (by omega)).trans (by rw [hNk.out, HA'.out, hst]; rfl)⟩
            · have hkj : k = j := by have := hgk.out; omega
              have HV : Hid (oneErr (l.take j) (l.getD j sy0) = 0) := Lib.hid (by rw [HD.out, if_neg]; rw [← hkj, hNk.out]; simp)
              clear hkj
              go_wp2_with fail
              go_roundg g
              case measure => omega
              case rel => exact ⟨j + 1, by have := hg.out; show _ = _; omega, by go_num, hB, HG.out HV.out⟩
        | false =>
          cases hx : isMarked s with
          | true =>
            have hnm : (isName s || isMarked s) = true := by rw [hn, hx]; rfl
            by_cases ha : a < 0
            · have HV : Hid (oneErr (l.take j) (l.getD j sy0) = 35) := Lib.hid (by rw [HA.out, oneErr, if_neg (by simp [hnm]), if_pos (.inl ha)])
              go_wp2_with (first
              | (go_at_call 13; refine (name_any _ _).mono ?_; rintro e w' ⟨rfl, hb⟩; have hlr' := Sigs.kept (A := some ⟨bb, off, none⟩) (l := l) (by assumption) hb; have h1' := cell_kept hb (a := ⟨bb, off + j * 2, none⟩) (v := .string s) (by assumption); have h2' := cell_kept hb (a := ⟨bb, off + j * 2 + 1, none⟩) (v := .int .i64 a) (by assumption); have hB' := below_then (B := w.heap.size) (w := w) (by assumption) (Below.size (B := w.heap.size) (w := w) (by assumption)) hb)
              | (go_at_call 14; refine (marked_any _ _ (by assumption)).mono ?_; rintro e w' ⟨rfl, hb⟩; have hlr' := Sigs.kept (A := some ⟨bb, off, none⟩) (l := l) (by assumption) hb; have h1' := cell_kept hb (a := ⟨bb, off + j * 2, none⟩) (v := .string s) (by assumption); have h2' := cell_kept hb (a := ⟨bb, off + j * 2 + 1, none⟩) (v := .int .i64 a) (by assumption); have hB' := below_then (B := w.heap.size) (w := w) (by assumption) (Below.size (B := w.heap.size) (w := w) (by assumption)) hb))
              go_ret
              exact ⟨by rw [HC.out 35 HV.out (by decide)]; rfl, by assumption⟩
            by_cases ha8 : 8 < a
            · have HV : Hid (oneErr (l.take j) (l.getD j sy0) = 35) := Lib.hid (by rw [HA.out, oneErr, if_neg (by simp [hnm]), if_pos (.inr ha8)])
              go_wp2_with (first
              | (go_at_call 13; refine (name_any _ _).mono ?_; rintro e w' ⟨rfl, hb⟩; have hlr' := Sigs.kept (A := some ⟨bb, off, none⟩) (l := l) (by assumption) hb; have h1' := cell_kept hb (a := ⟨bb, off + j * 2, none⟩) (v := .string s) (by assumption); have h2' := cell_kept hb (a := ⟨bb, off + j * 2 + 1, none⟩) (v := .int .i64 a) (by assumption); have hB' := below_then (B := w.heap.size) (w := w) (by assumption) (Below.size (B := w.heap.size) (w := w) (by assumption)) hb)
              | (go_at_call 14; refine (marked_any _ _ (by assumption)).mono ?_; rintro e w' ⟨rfl, hb⟩; have hlr' := Sigs.kept (A := some ⟨bb, off, none⟩) (l := l) (by assumption) hb; have h1' := cell_kept hb (a := ⟨bb, off + j * 2, none⟩) (v := .string s) (by assumption); have h2' := cell_kept hb (a := ⟨bb, off + j * 2 + 1, none⟩) (v := .int .i64 a) (by assumption); have hB' := below_then (B := w.heap.size) (w := w) (by assumption) (Below.size (B := w.heap.size) (w := w) (by assumption)) hb))
              go_ret
              exact ⟨by rw [HC.out 35 HV.out (by decide)]; rfl, by assumption⟩
            have HD : Hid (oneErr (l.take j) (l.getD j sy0) = if ((l.take j).any fun y => y.1.toList == s.toList) = true then 36 else 0) := Lib.hid (by rw [HA.out, oneErr, if_neg (by simp [hnm]), if_neg (by omega)])
            go_wp2_with (first
            | (go_at_call 13; refine (name_any _ _).mono ?_; rintro e w' ⟨rfl, hb⟩; have hlr' := Sigs.kept (A := some ⟨bb, off, none⟩) (l := l) (by assumption) hb; have h1' := cell_kept hb (a := ⟨bb, off + j * 2, none⟩) (v := .string s) (by assumption); have h2' := cell_kept hb (a := ⟨bb, off + j * 2 + 1, none⟩) (v := .int .i64 a) (by assumption); have hB' := below_then (B := w.heap.size) (w := w) (by assumption) (Below.size (B := w.heap.size) (w := w) (by assumption)) hb)
            | (go_at_call 14; refine (marked_any _ _ (by assumption)).mono ?_; rintro e w' ⟨rfl, hb⟩; have hlr' := Sigs.kept (A := some ⟨bb, off, none⟩) (l := l) (by assumption) hb; have h1' := cell_kept hb (a := ⟨bb, off + j * 2, none⟩) (v := .string s) (by assumption); have h2' := cell_kept hb (a := ⟨bb, off + j * 2 + 1, none⟩) (v := .int .i64 a) (by assumption); have hB' := below_then (B := w.heap.size) (w := w) (by assumption) (Below.size (B := w.heap.size) (w := w) (by assumption)) hb))
            obtain ⟨w5, rfl⟩ : ∃ w5 : World, w5 = w' := ⟨_, rfl⟩
            go_loopg [4] j (fun gi v wx => ∃ k : Nat, Aside (gi + k = j) ∧ v = .int .i64 k ∧ Below w.heap.size w wx ∧ Sigs wx (some ⟨bb, off, none⟩) l ∧ wx.cell? ⟨bb, off + j * 2, none⟩ = some (.string s) ∧ Aside (((l.take k).any fun y => y.1.toList == s.toList) = false))
            case atStart => exact ⟨0, (rfl : j + 0 = j), rfl, hB', hlr', h1', rfl⟩
            case round =>
              clear hB' hlr' h1' h2' hb hB hlr h1 h2
              obtain ⟨k, hgk, rfl, hB, hlr, h1, hNk⟩ := hrel
              by_cases hk : k < j
              · obtain ⟨bb', off', s', a', he, hga', hs', e1, e2⟩ := hlr.at_ (show k < l.length by omega)
                have HA' := Lib.hid hga'
                clear hga'
                cases he
                cases hst : (s'.toList == s.toList) with
                | true =>
                  have HV : Hid (oneErr (l.take j) (l.getD j sy0) = 36) := Lib.hid (by
                    rw [HD.out, if_pos]
                    exact List.any_eq_true.2 ⟨(s', a'), getD_mem (d := sy0) (l := l.take j) (k := k) (by simp; omega) (by rw [List.getD_eq_getElem?_getD, List.getElem?_take_of_lt hk, ← List.getD_eq_getElem?_getD]; exact HA'.out), hst⟩)
                  go_wp2_with fail
                  go_quiet (fail)
                  go_wp2_with fail
                  go_ret
                  exact ⟨by rw [HC.out 36 HV.out (by decide)]; rfl, below_drawN hB _⟩
                | false =>
                  go_wp2_with fail
                  go_quiet (fail)
                  go_wp2_with fail
                  go_roundg (j - (k + 1))
                  case measure => have := hgk.out; omega
                  case rel => exact ⟨k + 1, by have := hgk.out; show _ = _; omega, by go_num, below_drawN hB _, hlr.kept (below_drawN (Below.refl _ _) _), cell_kept (below_drawN (Below.refl _ _) _) h1, (any_take_succ l s k (by omega)).trans (by rw [hNk.out, HA'.out, hst]; rfl)⟩
              · have hkj : k = j := by have := hgk.out; omega
                have HV : Hid (oneErr (l.take j) (l.getD j sy0) = 0) := Lib.hid (by rw [HD.out, if_neg]; rw [← hkj, hNk.out]; simp)
                clear hkj
                go_wp2_with fail
                go_roundg g
                case measure => omega
                case rel => exact ⟨j + 1, by have := hg.out; show _ = _; omega, by go_num, hB, HG.out HV.out⟩
          | false =>
            have HV : Hid (oneErr (l.take j) (l.getD j sy0) = 34) := Lib.hid (by rw [HA.out, oneErr, if_pos (by rw [hn, hx]; rfl)])
            go_wp2_with (first
            | (go_at_call 13; refine (name_any _ _).mono ?_; rintro e w' ⟨rfl, hb⟩; have hlr' := Sigs.kept (A := some ⟨bb, off, none⟩) (l := l) (by assumption) hb; have h1' := cell_kept hb (a := ⟨bb, off + j * 2, none⟩) (v := .string s) (by assumption); have h2' := cell_kept hb (a := ⟨bb, off + j * 2 + 1, none⟩) (v := .int .i64 a) (by assumption); have hB' := below_then (B := w.heap.size) (w := w) (by assumption) (Below.size (B := w.heap.size) (w := w) (by assumption)) hb)
            | (go_at_call 14; refine (marked_any _ _ (by assumption)).mono ?_; rintro e w' ⟨rfl, hb⟩; have hlr' := Sigs.kept (A := some ⟨bb, off, none⟩) (l := l) (by assumption) hb; have h1' := cell_kept hb (a := ⟨bb, off + j * 2, none⟩) (v := .string s) (by assumption); have h2' := cell_kept hb (a := ⟨bb, off + j * 2 + 1, none⟩) (v := .int .i64 a) (by assumption); have hB' := below_then (B := w.heap.size) (w := w) (by assumption) (Below.size (B := w.heap.size) (w := w) (by assumption)) hb))
            go_ret
            exact ⟨by rw [HC.out 34 HV.out (by decide)]; rfl, by assumption⟩
    · go_wp2_with fail
      go_ret
      exact ⟨by rw [hN.out, sigFrom_end l _ _ hj]; rfl, hB⟩
end Go.Proofs.YtfelhlffiiephaaDoor
