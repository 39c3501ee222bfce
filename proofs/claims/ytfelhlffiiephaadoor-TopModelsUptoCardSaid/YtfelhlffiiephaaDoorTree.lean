/- A row as a tree: what the program's reader grows of a row, and the program's test of a row. Conditions: utf8's tables as laid. -/
import Derived.Test.YtfelhlffiiephaaDoorReadA
set_option linter.unusedVariables false
set_option linter.unusedSimpArgs false
namespace Go.Proofs.YtfelhlffiiephaaDoor
open Go.RowKit Go.Lib

theorem Sigs.blocks {w : World} {A : Option Addr} {l : List Sy} (h : Sigs w A l) : 0 < l.length → ∀ a, A = some a → a.block < w.heap.size := fun h0 a ha => by
  obtain ⟨b, off, rfl, hc⟩ := h.2.2 h0
  cases ha
  exact World.block_lt_of_cell? w _ (hc 0 h0).1

theorem Ints.blocks {w : World} {A : Option Addr} {t : List Int} (h : Ints w A t) : 0 < t.length → ∀ a, A = some a → a.block < w.heap.size := fun h0 a ha => by
  obtain ⟨b, off, rfl, hc⟩ := h.2.2 h0
  cases ha
  exact World.block_lt_of_cell? w _ (hc 0 h0)
set_option maxRecDepth 100000 in
set_option maxHeartbeats 2000000 in
theorem grown_any (A B : Option Addr) (l : List Sy) (t : List Int) (len sc len' tc : Nat) (hlen : l.length = len) (hlen' : t.length = len') (w : World) (hG : Good l) (hl : Sigs w A l) (ht : Ints w B t) :
    Calls Tryd.prog 36 #[.slice A len sc, .slice B len' tc] w fun e w' => ∃ v, e = .returned (.tuple #[v, .int .i64 (rowErr l t)]) ∧ Below w.heap.size w w' ∧ (rowErr l t = 0 → Node w' (From w.heap.size) l t t.length v 0 t.length) := by
  subst hlen hlen'
  have hR := rowErr_at l t
  have hmax := ht.2.1
  generalize rowErr l t = R at hR ⊢
  have HR := Lib.hid hR
  clear hR
  have hal := below_alloc0 w (.cells #[.slice A l.length sc, .slice B t.length tc, .int .i64 0, .int .i64 0] 102)
  have hr : Reader (w.alloc (.cells #[.slice A l.length sc, .slice B t.length tc, .int .i64 0, .int .i64 0] 102)) w.heap.size A l.length sc B t.length tc 0 0 :=
    ⟨World.cell?_alloc_new _ _ _ 0, World.cell?_alloc_new _ _ _ 1, World.cell?_alloc_new _ _ _ 2, World.cell?_alloc_new _ _ _ 3, fun j => World.frozen?_alloc_new _ _ _ j⟩
  have cR := read_any A B l t sc tc hG t.length w.heap.size 0 _ (by omega) (Nat.zero_le _) (hl.kept hal) (ht.kept hal) (fun h0 a ha => by have := hl.blocks h0 a ha; omega) (fun h0 a ha => by have := ht.blocks h0 a ha; omega) hr
  have hsz : (w.alloc (.cells #[.slice A l.length sc, .slice B t.length tc, .int .i64 0, .int .i64 0] 102)).heap.size = w.heap.size + 1 := by simp
  go_enter Tryd.func36, Tryd.ntmps36
  go_wp2_with fail
  refine cR.mono ?_
  rintro e w2 ⟨v, j, bad, rfl, hg, hR, hs, hp⟩
  have hb2 : Below w.heap.size w w2 := hal.grown hg (by simp) (fun k hk => by cases hk; exact Nat.le_refl _)
  have hp := Lib.hid hp.out
  have HR2 := Lib.hid hR
  obtain ⟨c0, c1, c2, c3, fz⟩ := hR
  have fz3 := fz 3
  have hws : w.heap.size ≤ w2.heap.size := hb2.size
  rw [hsz] at hp
  clear hal hr cR hs hg hl
  obtain ⟨rb, hrb⟩ : ∃ x, x = w.heap.size := ⟨_, rfl⟩
  rw [← hrb] at c0 c1 c2 c3 fz fz3 HR2 hws hb2 hp ⊢
  have HRB := Lib.hid hrb
  clear hrb hsz
  cases hs : scanAt l t 1 0 with
  | error er =>
    have h1 := HR.out
    have h2 := hp.out
    rw [hs] at h1 h2
    have hb : bad = R := by rw [h1, h2]
    have h0 := scanAt_err hs
    subst hb
    have hq : (bad == 0) = false := beq_eq_false_iff_ne.2 (by rw [h2]; rcases h0 with h | h <;> omega)
    have HN := Lib.hid (show bad ≠ 0 by rw [h2]; rcases h0 with h | h <;> omega)
    clear hs h1 h2 h0 hp HR
    go_wp2_with fail
    go_quiet (fail)
    go_wp2_with fail
    go_ret2
    exact ⟨v, rfl, by rw [← HRB.out]; exact below_drawN hb2 _, fun h => absurd h HN.out⟩
  | ok m =>
    have h1 := HR.out
    have h2 := hp.out
    rw [hs] at h1 h2
    obtain ⟨rfl, rfl, hN⟩ := h2
    have hm := (scanAt_ok hs).2 (Nat.zero_le _)
    have HH := Lib.hid h1
    clear hs h1 hp HR
    by_cases hlt : m < t.length
    · go_wp2_with fail
      go_quiet (fail)
      go_wp2_with fail
      go_ret2
      have h := HH.out
      simp only [if_pos hlt] at h
      subst h
      exact ⟨v, rfl, by rw [← HRB.out]; exact below_drawN (below_set hb2 (Nat.le_refl _) _) _, fun h => by cases h⟩
    · go_wp2_with fail
      go_quiet (fail)
      go_wp2_with fail
      go_ret2
      have h := HH.out
      simp only [if_neg hlt] at h
      subst h
      obtain rfl : m = t.length := by omega
      exact ⟨v, rfl, by rw [← HRB.out]; exact below_drawN hb2 _, fun _ => Node.keep (w := w2) (w' := w2.drewN _) (S := From (rb + 1)) (T := From w.heap.size) ⟨Nat.le_refl _, fun b hb _ => ⟨by rw [← HRB.out]; have : rb + 1 ≤ b := hb; show rb ≤ b; omega, rfl⟩⟩ hN⟩

theorem Node.from {w : World} {n m : Nat} (h : n ≤ m) {l : List Sy} {t : List Int} {f : Nat} {v : Value} {i e : Nat} (k : Node w (From m) l t f v i e) : Node w (From n) l t f v i e :=
  Node.keep (S := From m) (T := From n) ⟨Nat.le_refl _, fun b hb _ => ⟨Nat.le_trans h hb, rfl⟩⟩ k

set_option maxRecDepth 100000 in
theorem tree_any (A B : Option Addr) (l : List Sy) (t : List Int) (len sc len' tc : Nat) (hlen : l.length = len) (hlen' : t.length = len') (hcap : len ≤ sc) (w : World) (hl : Sigs w A l) (ht : Ints w B t) (hT : Tabs w) :
    Calls Tryd.prog 22 #[.slice A len sc, .slice B len' tc] w fun e w' => ∃ v, e = .returned (.tuple #[v, .int .i64 (termErr l t)]) ∧ Below w.heap.size w w' ∧ (termErr l t = 0 → Node w' (From w.heap.size) l t t.length v 0 t.length) := by
  have cS := sig_any A l len sc hlen hcap w hl hT
  have hGood := good_of (l := l)
  unfold termErr
  by_cases h : sigErr l = 0
  · rw [if_neg (by simp [h])]
    rw [h] at cS
    have hG := hGood h
    clear hGood h
    go_enter Tryd.func22, Tryd.ntmps22
    go_wp2_with (first
      | (go_at_call 10; refine cS.mono ?_; rintro e w' ⟨rfl, hb⟩; have hl' := hl.kept hb; have ht' := ht.kept hb)
      | (go_at_call 36; refine (grown_any A B l t len sc len' tc hlen hlen' _ hG hl' ht').mono ?_; rintro e w2 ⟨v, rfl, hb2, hN⟩))
    go_ret2
    exact ⟨v, rfl, below_then hb hb.size hb2, fun h => (hN h).from hb.size⟩
  · rw [if_pos h]
    have hb : (sigErr l != 0) = true := bne_iff_ne.2 h
    have hb' : (sigErr l == 0) = false := beq_eq_false_iff_ne.2 h
    have HH := Lib.hid h
    clear hGood h
    go_enter Tryd.func22, Tryd.ntmps22
    go_wp2_with (go_at_call 10; refine cS.mono ?_; rintro e w' ⟨rfl, hb⟩)
    go_ret2
    exact ⟨_, rfl, hb, fun h => absurd h HH.out⟩

set_option maxRecDepth 100000 in
theorem check_any (A B : Option Addr) (l : List Sy) (t : List Int) (len sc len' tc : Nat) (hlen : l.length = len) (hlen' : t.length = len') (hcap : len ≤ sc) (w : World) (hl : Sigs w A l) (ht : Ints w B t) (hT : Tabs w) :
    Calls Tryd.prog 11 #[.slice A len sc, .slice B len' tc] w fun e w' => e = .returned (.int .i64 (termErr l t)) ∧ Below w.heap.size w w' := by
  have cT := tree_any A B l t len sc len' tc hlen hlen' hcap w hl ht hT
  generalize termErr l t = r at cT ⊢
  go_enter Tryd.func11, Tryd.ntmps11
  go_wp2_with (go_at_call 22; refine cT.mono ?_; rintro e w' ⟨v, rfl, hb, _⟩)
  go_ret
  exact ⟨rfl, hb⟩
end Go.Proofs.YtfelhlffiiephaaDoor
