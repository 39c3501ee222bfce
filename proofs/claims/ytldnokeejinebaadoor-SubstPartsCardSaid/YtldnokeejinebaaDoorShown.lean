/- The examples at the head of the statements on binds: they answer as they should. Conditions: utf8's tables as laid. -/
import Derived.Test.YtldnokeejinebaaDoorApplyB
import Derived.Test.YtldnokeejinebaaDoorCanonB
set_option linter.unusedVariables false
set_option linter.unusedSimpArgs false
namespace Go.Proofs.YtldnokeejinebaaDoor
open Go.RowKit Go.Lib

def sumL : List Sy := [(⟨#[122, 101, 114, 111]⟩, 0), (⟨#[115]⟩, 1), (⟨#[112, 108, 117, 115]⟩, 2)]
set_option maxRecDepth 100000 in
theorem sum_any (w : World) : Calls Tryd.prog 27 #[] w fun e w' => ∃ A, e = .returned (.slice A 3 3) ∧ Below w.heap.size w w' ∧ Sigs w' A sumL := by
  go_enter Tryd.func27, Tryd.ntmps27
  go_wp2_with fail
  go_ret
  refine ⟨_, rfl, below_alloc0 _ _, ?_, by decide, fun _ => ⟨w.heap.size, 0, rfl, fun k hk => ?_⟩⟩
  · intro x hx
    simp [sumL] at hx
    rcases hx with rfl | rfl | rfl <;> decide
  · have hk' : k < 3 := hk
    rw [World.cell?_alloc_new, World.cell?_alloc_new]
    match k, hk' with
    | 0, _ => exact ⟨rfl, rfl⟩
    | 1, _ => exact ⟨rfl, rfl⟩
    | 2, _ => exact ⟨rfl, rfl⟩
theorem sig_sum : sigErr sumL = 0 := by kernel_rfl
theorem app_err : applyErr sumL [(0, [1, -2]), (1, [0])] [2, -1, -2] = 0 := by kernel_rfl
theorem app_is : applied sumL [(0, [1, -2]), (1, [0])] [2, -1, -2] = [2, 1, -2, 0] := by kernel_rfl
theorem sub_one : substErr sumL [(2, [0]), (2, [0])] = 41 := by kernel_rfl
theorem sub_two : substErr sumL [(0, [1])] = 31 := by kernel_rfl
theorem shift_one : shiftOn 3 [] [2, -1, -2] = some [2, -4, -5] := by decide
theorem shift_two : shiftOn (-3) [] [-3] = none := by decide
theorem canon_one : canon [[2, -7, -3], [-3, -9]] = [[2, -1, -2], [-2, -3]] := by decide

theorem Ints.fresh {w : World} {n : Nat} (t : List Int) (T : TypeId) (hn : n = w.heap.size) (h8 : t.length * 8 ≤ 140737488355328) (hr : ∀ x ∈ t, -9223372036854775808 ≤ x ∧ x ≤ 9223372036854775807) :
    Ints (w.alloc (.cells (icells t).toArray T)) (some ⟨n, 0, none⟩) t := by
  obtain ⟨A, c, h1, _, _, _, h2⟩ := RowV.fresh (w := w) t T hn h8 hr
  injection h1 with h1 _ _
  rw [h1]; exact h2
theorem Binds.fresh {w : World} {n : Nat} (s : List Bd) (us : List Value) (T : TypeId) (hn : n = w.heap.size) (hl : us.length = s.length) (h32 : s.length ≤ 140737488355328) (hx : ∀ x ∈ s, -9223372036854775808 ≤ x.1 ∧ x.1 ≤ 9223372036854775807)
    (hr : ∀ k u, us[k]? = some u → RowV w u (s.getD k bd0).2) : Binds (w.alloc (.cells (bcells s us).toArray T)) (some ⟨n, 0, none⟩) s := by
  subst hn
  refine ⟨h32, fun h0 => ⟨_, 0, rfl, fun k hk => ?_⟩⟩
  have hu := List.getElem?_eq_getElem (show k < us.length by omega)
  have hc := bcells_at s us hl k _ hu
  rw [World.cell?_alloc_new, World.cell?_alloc_new, Nat.zero_add]
  refine ⟨by simpa using hc.1, hx _ (getD_mem hk rfl), us[k]'(by omega), by simpa using hc.2, (hr k _ hu).kept (below_alloc0 _ _)⟩
theorem RowsIn.fresh {w : World} {n : Nat} (l : List (List Int)) (us : List Value) (T : TypeId) (hn : n = w.heap.size) (hl : us.length = l.length) (h32 : l.length ≤ 140737488355328)
    (hr : ∀ k u, us[k]? = some u → RowV w u (l.getD k [])) : RowsIn (w.alloc (.cells us.toArray T)) (some ⟨n, 0, none⟩) l := by
  subst hn
  refine ⟨h32, fun h0 => ⟨_, 0, rfl, fun k hk => ?_⟩⟩
  have hu := List.getElem?_eq_getElem (show k < us.length by omega)
  rw [World.cell?_alloc_new, Nat.zero_add]
  exact ⟨us[k]'(by omega), by simp, (hr k _ hu).kept (below_alloc0 _ _)⟩
theorem RowO.ints {w : World} {base : Nat} {v : Value} {t : List Int} (h : RowO w base v t) : ∃ A c, v = .slice A t.length c ∧ Ints w A t := by
  obtain ⟨A, c, h1, _, _, _, h2⟩ := h.reads
  exact ⟨A, c, h1, h2⟩
abbrev row3 (w : World) (t : List Int) : World := w.alloc (.cells (icells t).toArray 3)
abbrev bind2 (w : World) (x y : Int) (a b : List Int) : World :=
  (row3 (row3 w a) b).alloc (.cells #[.int .i64 x, .slice (some ⟨w.heap.size, 0, none⟩) a.length a.length, .int .i64 y, .slice (some ⟨w.heap.size + 1, 0, none⟩) b.length b.length] 43)
theorem below_row3 (w : World) (t : List Int) : Below w.heap.size w (row3 w t) := below_alloc0 _ _
theorem below_bind2 (w : World) (x y : Int) (a b : List Int) : Below w.heap.size w (bind2 w x y a b) := below_alloc (below_alloc (below_row3 w a) (by simp) _) (by simp; omega) _
abbrev small (t : List Int) : Prop := t.length * 8 ≤ 140737488355328 ∧ ∀ x ∈ t, -9223372036854775808 ≤ x ∧ x ≤ 9223372036854775807
theorem binds2 (w : World) (x y : Int) (a b : List Int) (ha : small a) (hb : small b) (hx : -9223372036854775808 ≤ x ∧ x ≤ 9223372036854775807) (hy : -9223372036854775808 ≤ y ∧ y ≤ 9223372036854775807) :
    Binds (bind2 w x y a b) (some ⟨w.heap.size + 2, 0, none⟩) [(x, a), (y, b)] := by
  have h := Binds.fresh (w := row3 (row3 w a) b) (n := w.heap.size + 2) [(x, a), (y, b)] [.slice (some ⟨w.heap.size, 0, none⟩) a.length a.length, .slice (some ⟨w.heap.size + 1, 0, none⟩) b.length b.length] 43 (by simp) rfl (by simp) (by
    intro z hz; simp at hz; rcases hz with rfl | rfl; exact hx; exact hy) (fun k u hu => by
      match k with
      | 0 => simp at hu; subst hu; exact (RowV.fresh (w := w) a 3 rfl ha.1 ha.2).kept (below_row3 _ _)
      | 1 => simp at hu; subst hu; exact RowV.fresh (w := row3 w a) b 3 (by simp) hb.1 hb.2
      | k + 2 => simp at hu)
  exact h
theorem shown_apply (w : World) (A : Option Addr) (hS : Sigs w A sumL) (hT : Tabs w) :
    Calls Tryd.prog 15 #[.slice A 3 3, .slice (some ⟨w.heap.size + 2, 0, none⟩) 2 2, .slice (some ⟨w.heap.size + 3, 0, none⟩) 3 3] (row3 (bind2 w 0 1 [1, -2] [0]) [2, -1, -2]) fun e w' =>
      ∃ A' c, e = .returned (.tuple #[.slice A' 4 c, .int .i64 0]) ∧ Below w.heap.size w w' ∧ Ints w' A' [2, 1, -2, 0] := by
  have hb0 := below_bind2 w 0 1 [1, -2] [0]
  have hb := below_alloc hb0 hb0.size (.cells (icells [2, -1, -2]).toArray 3)
  have h := apply_any A (some ⟨w.heap.size + 2, 0, none⟩) (some ⟨w.heap.size + 3, 0, none⟩) sumL [(0, [1, -2]), (1, [0])] [2, -1, -2] 3 2 3 (by decide) (row3 (bind2 w 0 1 [1, -2] [0]) [2, -1, -2])
    (hS.kept hb) ((binds2 w 0 1 [1, -2] [0] (by decide) (by decide) (by decide) (by decide)).kept (below_row3 _ _)) (Ints.fresh [2, -1, -2] _ (by simp) (by decide) (by decide)) (hT.kept hb)
  rw [app_err, app_is] at h
  refine h.mono ?_
  rintro e w' ⟨v, rfl, hb', hO⟩
  obtain ⟨A', c, rfl, hI⟩ := hO.ints
  exact ⟨A', c, rfl, below_then hb hb.size hb', hI⟩
theorem shown_shift1 (w : World) : Calls Tryd.prog 18 #[.slice (some ⟨w.heap.size, 0, none⟩) 3 3, .int .i64 3] (row3 w [2, -1, -2]) fun e w' =>
      ∃ A' c, e = .returned (.tuple #[.slice A' 3 c, .int .i64 0]) ∧ Below w.heap.size w w' ∧ Ints w' A' [2, -4, -5] := by
  have hb := below_row3 w [2, -1, -2]
  have h := shift_any (some ⟨w.heap.size, 0, none⟩) [2, -1, -2] 3 3 (by decide) (row3 w [2, -1, -2]) (Ints.fresh [2, -1, -2] _ rfl (by decide) (by decide)) (fun h => by cases h) (by decide)
  rw [shift_one] at h
  refine h.mono ?_
  rintro e w' ⟨v, rfl, hb', hO⟩
  obtain ⟨A', c, rfl, hI⟩ := hO.ints
  exact ⟨A', c, rfl, below_then hb hb.size hb', hI⟩
theorem shown_shift2 (w : World) : Calls Tryd.prog 18 #[.slice (some ⟨w.heap.size, 0, none⟩) 1 1, .int .i64 (-3)] (row3 w [-3]) fun e w' =>
      ∃ v, e = .returned (.tuple #[v, .int .i64 40]) ∧ Below w.heap.size w w' := by
  have hb := below_row3 w [-3]
  have h := shift_any (some ⟨w.heap.size, 0, none⟩) [-3] 1 (-3) (by decide) (row3 w [-3]) (Ints.fresh [-3] _ rfl (by decide) (by decide)) (fun h => by cases h) (by decide)
  rw [shift_two] at h
  refine h.mono ?_
  rintro e w' ⟨v, rfl, hb', hO⟩
  exact ⟨v, rfl, below_then hb hb.size hb'⟩
abbrev rows2 (w : World) (a b : List Int) : World := (row3 (row3 w a) b).alloc (.cells #[.slice (some ⟨w.heap.size, 0, none⟩) a.length a.length, .slice (some ⟨w.heap.size + 1, 0, none⟩) b.length b.length] 30)
theorem shown_canon (w : World) : Calls Tryd.prog 20 #[.slice (some ⟨w.heap.size + 2, 0, none⟩) 2 2] (rows2 w [2, -7, -3] [-3, -9]) fun e w' =>
      ∃ b off c B0 c0 B1 c1, e = .returned (.slice (some ⟨b, off, none⟩) 2 c) ∧ Below w.heap.size w w' ∧ w'.cell? ⟨b, off, none⟩ = some (.slice B0 3 c0) ∧ w'.cell? ⟨b, off + 1, none⟩ = some (.slice B1 2 c1) ∧ Ints w' B0 [2, -1, -2] ∧ Ints w' B1 [-2, -3] := by
  have hb0 : Below w.heap.size w (row3 (row3 w [2, -7, -3]) [-3, -9]) := below_alloc (below_row3 _ _) (by simp) _
  have hb := below_alloc hb0 hb0.size (.cells #[.slice (some ⟨w.heap.size, 0, none⟩) 3 3, .slice (some ⟨w.heap.size + 1, 0, none⟩) 2 2] 30)
  have hR := RowsIn.fresh (w := row3 (row3 w [2, -7, -3]) [-3, -9]) (n := w.heap.size + 2) [[2, -7, -3], [-3, -9]] [.slice (some ⟨w.heap.size, 0, none⟩) 3 3, .slice (some ⟨w.heap.size + 1, 0, none⟩) 2 2] 30 (by simp) rfl (by simp) (fun k u hu => by
      match k with
      | 0 => simp at hu; subst hu; exact (RowV.fresh (w := w) [2, -7, -3] 3 rfl (by decide) (by decide)).kept (below_row3 _ _)
      | 1 => simp at hu; subst hu; exact RowV.fresh (w := row3 w [2, -7, -3]) [-3, -9] 3 (by simp) (by decide) (by decide)
      | k + 2 => simp at hu)
  have h := canon_any (some ⟨w.heap.size + 2, 0, none⟩) [[2, -7, -3], [-3, -9]] 2 _ hR (by decide) (by decide)
  rw [canon_one] at h
  refine h.mono ?_
  rintro e w' ⟨v, us, rfl, hb', hO, _⟩
  obtain ⟨A', c, rfl, _, _, hI⟩ := hO.reads
  obtain ⟨b, off, t, B0, c0, rfl, rfl, h1, _, _, _, h2⟩ := hI.at_ (show 0 < 2 by decide)
  obtain ⟨b', off', t, B1, c1, e1, rfl, h3, _, _, _, h4⟩ := hI.at_ (show 1 < 2 by decide)
  injection e1 with e1
  injection e1 with e1 e2 _
  subst e1 e2
  exact ⟨b, off, c, B0, c0, B1, c1, rfl, below_then hb hb.size hb', h1, h3, h2, h4⟩
theorem shown_check1 (w : World) (A : Option Addr) (hS : Sigs w A sumL) (hT : Tabs w) :
    Calls Tryd.prog 12 #[.slice A 3 3, .slice (some ⟨w.heap.size + 2, 0, none⟩) 2 2] (bind2 w 2 2 [0] [0]) fun e w' => e = .returned (.int .i64 41) ∧ Below w.heap.size w w' := by
  have hb := below_bind2 w 2 2 [0] [0]
  have h := subst_check_any A (some ⟨w.heap.size + 2, 0, none⟩) sumL [(2, [0]), (2, [0])] 3 2 (by decide) (bind2 w 2 2 [0] [0]) (hS.kept hb) (binds2 w 2 2 [0] [0] (by decide) (by decide) (by decide) (by decide)) (hT.kept hb)
  rw [sub_one] at h
  exact h.mono fun e w' h => ⟨h.1, below_then hb hb.size h.2⟩
abbrev bind1 (w : World) (x : Int) (a : List Int) : World := (row3 w a).alloc (.cells #[.int .i64 x, .slice (some ⟨w.heap.size, 0, none⟩) a.length a.length] 43)
theorem shown_check2 (w : World) (A : Option Addr) (hS : Sigs w A sumL) (hT : Tabs w) :
    Calls Tryd.prog 12 #[.slice A 3 3, .slice (some ⟨w.heap.size + 1, 0, none⟩) 1 1] (bind1 w 0 [1]) fun e w' => e = .returned (.int .i64 31) ∧ Below w.heap.size w w' := by
  have hb : Below w.heap.size w (bind1 w 0 [1]) := below_alloc (below_row3 w [1]) (by simp) _
  have hBd := Binds.fresh (w := row3 w [1]) (n := w.heap.size + 1) [(0, [1])] [.slice (some ⟨w.heap.size, 0, none⟩) 1 1] 43 (by simp) rfl (by simp) (by decide) (fun k u hu => by
      match k with
      | 0 => simp at hu; subst hu; exact RowV.fresh (w := w) [1] 3 rfl (by decide) (by decide)
      | k + 1 => simp at hu)
  have h := subst_check_any A (some ⟨w.heap.size + 1, 0, none⟩) sumL [(0, [1])] 3 1 (by decide) (bind1 w 0 [1]) (hS.kept hb) hBd (hT.kept hb)
  rw [sub_two] at h
  exact h.mono fun e w' h => ⟨h.1, below_then hb hb.size h.2⟩
theorem same_new (w : World) (A : Option Addr) (t : List Int) (c : Nat) (hI : Ints w A t) (hs : small t) :
    Calls Tryd.prog 17 #[.slice A t.length c, .slice (some ⟨w.heap.size, 0, none⟩) t.length t.length] (row3 w t) fun e w' => e = .returned (.bool true) ∧ Below w.heap.size w w' := by
  have hb := below_row3 w t
  have h := same_any A (some ⟨w.heap.size, 0, none⟩) t t c t.length (row3 w t) (hI.kept hb) (Ints.fresh t _ rfl hs.1 hs.2)
  rw [decide_eq_true rfl] at h
  exact h.mono fun e w' h => ⟨h.1, below_then hb hb.size h.2⟩

set_option maxRecDepth 100000 in
set_option maxHeartbeats 4000000 in
theorem shown_any (w : World) (hT : Tabs w) : Calls Tryd.prog 10 #[] w fun e w' => e = .returned (.bool true) ∧ Below w.heap.size w w' := by
  go_enter Tryd.func10, Tryd.ntmps10
  go_wp2_with fail
  refine (sum_any w).mono ?_
  rintro e w1 ⟨A1, rfl, hb1, hS1⟩
  go_wp2_with fail
  refine (shown_apply w1 A1 hS1 (hT.kept hb1)).mono ?_
  rintro e w2 ⟨Aa, ca, rfl, hb2, hIa⟩
  have hB2 := below_then hb1 hb1.size hb2
  go_wp2_with fail
  refine (shown_shift1 w2).mono ?_
  rintro e w3 ⟨Ab, cb, rfl, hb3, hIb⟩
  have hB3 := below_then hB2 hB2.size hb3
  go_wp2_with fail
  refine (shown_shift2 w3).mono ?_
  rintro e w4 ⟨vb, rfl, hb4⟩
  have hB4 := below_then hB3 hB3.size hb4
  go_wp2_with fail
  refine (shown_canon w4).mono ?_
  rintro e w5 ⟨cbk, coff, cc, B0, c0, B1, c1, rfl, hb5, hx0, hx1, hIc, hId⟩
  have hB5 := below_then hB4 hB4.size hb5
  go_wp2_with fail
  refine (sum_any w5).mono ?_
  rintro e w6 ⟨A6, rfl, hb6, hS6⟩
  have hB6 := below_then hB5 hB5.size hb6
  go_wp2_with fail
  refine (shown_check1 w6 A6 hS6 (hT.kept hB6)).mono ?_
  rintro e w7 ⟨rfl, hb7⟩
  have hB7 := below_then hB6 hB6.size hb7
  go_wp2_with fail
  refine (sum_any w7).mono ?_
  rintro e w8 ⟨A8, rfl, hb8, hS8⟩
  have hB8 := below_then hB7 hB7.size hb8
  go_wp2_with fail
  refine (shown_check2 w8 A8 hS8 (hT.kept hB8)).mono ?_
  rintro e w9 ⟨rfl, hb9⟩
  have hB9 := below_then hB8 hB8.size hb9
  have hb59 := below_then hb6 hb6.size (below_then hb7 hb7.size (below_then hb8 hb8.size hb9))
  have hb49 := below_then hb4 hb4.size (below_then hb5 hb5.size hb59)
  have hIa9 := (hIa.kept hb3).kept hb49
  have hIb9 := hIb.kept hb49
  have hIc9 := hIc.kept hb59
  have hId9 := hId.kept hb59
  have hx0 := cell_kept hb59 hx0
  have hx1 := cell_kept hb59 hx1
  clear hIa hIb hIc hId hb1 hb2 hb3 hb4 hb5 hb6 hb7 hb8 hb9 hB2 hB3 hB4 hB5 hB6 hB7 hB8 hb59 hb49 hS1 hS6 hS8
  go_wp2_with fail
  refine (same_new w9 Aa [2, 1, -2, 0] ca hIa9 (by decide)).mono ?_
  rintro e w10 ⟨rfl, hb10⟩
  have hB10 := below_then hB9 hB9.size hb10
  have hx0 := cell_kept hb10 hx0
  have hx1 := cell_kept hb10 hx1
  go_wp2_with fail
  refine (same_new w10 Ab [2, -4, -5] cb (hIb9.kept hb10) (by decide)).mono ?_
  rintro e w11 ⟨rfl, hb11⟩
  have hB11 := below_then hB10 hB10.size hb11
  have hx0 := cell_kept hb11 hx0
  have hx1 := cell_kept hb11 hx1
  go_wp2_with fail
  refine (same_new w11 B0 [2, -1, -2] c0 ((hIc9.kept hb10).kept hb11) (by decide)).mono ?_
  rintro e w12 ⟨rfl, hb12⟩
  have hB12 := below_then hB11 hB11.size hb12
  have hx1 := cell_kept hb12 hx1
  go_wp2_with fail
  refine (same_new w12 B1 [-2, -3] c1 (((hId9.kept hb10).kept hb11).kept hb12) (by decide)).mono ?_
  rintro e w13 ⟨rfl, hb13⟩
  have hB13 := below_then hB12 hB12.size hb13
  go_wp2_with fail
  go_ret
  exact ⟨rfl, hB13⟩
end Go.Proofs.YtldnokeejinebaaDoor
