/- The walk of SubstApplies: over every signature, for all binds and every row it answers true. Conditions: utf8's tables as laid. -/
import Derived.Test.YtldnokeejinebaaDoorMore
set_option linter.unusedVariables false
set_option linter.unusedSimpArgs false
namespace Go.Proofs.YtldnokeejinebaaDoor
open Go.RowKit Go.Lib

theorem apply_len {l : List Sy} {s : List Bd} {t : List Int} : (applied l s t).length ≤ 512 := by
  have h : ∀ (t acc : List Int), acc.length ≤ 512 → ∀ r, laidOn s acc t = some r → r.length ≤ 512 := by
    intro t
    induction t with
    | nil => intro acc ha r hr; simp [laidOn] at hr; subst hr; exact ha
    | cons c t ih =>
      intro acc ha r hr
      unfold laidOn at hr
      split at hr
      · cases hr
      · exact ih _ (by rw [List.length_append]; omega) r hr
  unfold applied
  split
  · cases hr : laidOn s [] t with
    | none => simp
    | some r => exact h t [] (by simp) r hr
  · simp

set_option maxRecDepth 100000 in
set_option maxHeartbeats 1000000 in
theorem substApplies_walk (A : Option Addr) (l : List Sy) (sc : Nat) (B : Option Addr) (s : List Bd) (c : Nat) (C : Option Addr) (t : List Int) (tc : Nat) (w : World) (hT : Tabs w) (hcap : l.length ≤ sc) (hl : Sigs w A l)
    (hc : s.length ≤ c) (hn : B = none → s.length = 0 ∧ c = 0) (h32 : s.length * 32 ≤ 140737488351232) (hs : Binds w B s) (htc : t.length ≤ tc) (hnt : C = none → t.length = 0 ∧ tc = 0) (h8 : t.length * 8 ≤ 140737488351232) (ht : Ints w C t) :
    Calls Tryd.prog 4 #[.slice A l.length sc, .slice B s.length c, .slice C t.length tc] w fun e w' => e = .returned (.bool true) ∧ Below w.heap.size w w' := by
  go_enter Tryd.func4, Tryd.ntmps4
  go_wp2_with fail
  refine (shown_any w hT).mono ?_
  rintro e w1 ⟨rfl, hb1⟩
  go_wp2_with fail
  refine (copied_any B s c w1 (hs.kept hb1) (by omega)).mono ?_
  rintro e w2 ⟨v, rfl, hb2, hC⟩
  obtain ⟨CA, cd, rfl, hcd1, hcd2, hs2⟩ := hC.reads
  have hB2 := below_then hb1 hb1.size hb2
  -- the row, and one number more
  obtain ⟨rb, hrb⟩ : ∃ x, x = w2.heap.size := ⟨_, rfl⟩
  have hown0 := own_empty w2 3 1 rb hrb
  have hB3 := below_alloc hB2 hB2.size (.cells #[] 3)
  have ht3 := ht.kept hB3
  rw [hrb] at hown0
  have hrng := ht.1
  go_wp2_with (first
    | (at_builtin; refine push_all (.tmp 23) (.tmp 24) 30 3 (.int .i64 0) 1 8 rfl rfl Tryd.underlying30 infoInt rfl (by decide) (by decide) w2.heap.size _ 0 [] (icells t) rfl hown0 C t.length tc rfl hnt (icells_length _) ht3.cells (icells_one _) (by omega) (by simp) ?_; intro v3 w3 ho3 hg3 ha3; simp only [Nat.zero_add, List.nil_append] at ho3)
    | (at_builtin; refine push_all (.tmp 25) (.tmp 26) 30 3 (.int .i64 0) 1 8 rfl rfl Tryd.underlying30 infoInt rfl (by decide) (by decide) w2.heap.size v3 t.length (icells t) (icells [77]) rfl (ho3.alloc _) _ 1 1 rfl (fun h => by cases h) (icells_length _) (one_cells (by rw [World.cell?_alloc_new]; rfl)) (icells_one _) (by omega) (by have := hg3.size; simp at this; simp; omega) ?_; intro v4 w4 ho4 hg4 ha4; obtain ⟨g4, cap4, rfl, hg4b, hg4l⟩ := ho4.form (by omega); have hc4 : t.length + 1 ≤ cap4 := (by obtain ⟨_, _, e4, hle4, _⟩ := own_le ho4; cases e4; exact hle4)))
  have hB3' : Below w.heap.size w w3 := hB3.grown hg3 (by have := hB2.size; simp; omega) (fun j hj => by have := (hown0.lt j hj).1; have := hB2.size; omega)
  have h23 : Below w2.heap.size w2 w3 := (below_alloc0 _ _).grown hg3 (by simp) (fun j hj => (hown0.lt j hj).1)
  have h24 : Below w2.heap.size w2 w4 := (below_alloc h23 h23.size _).grown hg4 (by have := h23.size; simp; omega) (fun j hj => (ho3.lt j hj).1)
  have hB4 := below_then hB2 hB2.size h24
  have hO4 : RowO w4 w2.heap.size (.slice (some ⟨g4, 0, none⟩) (t.length + 1) cap4) (t ++ [77]) := RowO.pushed (piece := [77]) ho4 (by simp only [List.length_cons, List.length_nil]; omega) hrng (by decide)
  have hI4 := hO4.take rfl
  have h77 := hO4.last rfl rfl
  have cA := fun W h1 h2 h3 h4 => apply_any A CA (some ⟨g4, 0, none⟩) l s t sc cd cap4 hcap W h1 h2 h3 h4
  have cR := fun W h1 h2 h3 => apply_ref_any A B C l s t sc c tc htc W h1 h2 h3
  have hRl := apply_len (l := l) (s := s) (t := t)
  generalize applied l s t = R at cA cR hRl
  generalize applyErr l s t = er at cA cR
  clear hown0 ho3 hg3 ha3 ho4 hg4 ha4 hB3 ht3 hrb hB3' h23 hC hO4
  refine (cA w4 (hl.kept hB4) (hs2.kept h24) hI4 (hT.kept hB4)).mono ?_
  rintro e w5 ⟨va, rfl, hb5, hOa⟩
  have hB5 := below_then hB4 hB4.size hb5
  go_wp2_with fail
  refine (cR w5 (hl.kept hB5) (hs.kept hB5) (ht.kept hB5)).mono ?_
  rintro e w6 ⟨vb, rfl, hb6, hOb⟩
  have hB6 := below_then hB5 hB5.size hb6
  obtain ⟨Aa, ca, rfl, hIa⟩ := hOa.ints
  obtain ⟨Ab, cb, rfl, hIb⟩ := hOb.ints
  have hq1 : (er == er) = true := beq_self_eq_true _
  have hq2 : (er != er) = false := by simp
  go_wp2_with fail
  refine (same_self Aa Ab R ca cb w6 (hIa.kept hb6) hIb).mono ?_
  rintro e w7 ⟨rfl, hb7⟩
  have hOa7 := (hOa.below hb6).below hb7
  have hOb7 := hOb.below hb7
  have h47 := below_then hb5 hb5.size (below_then hb6 hb6.size hb7)
  have hAa : ∀ b, (Value.slice Aa R.length ca).ownBlock = some b → b < w5.heap.size := fun b hb => (hOa.1.lt b hb).2
  clear hIa hIb hOa hOb hb7
  go_wp2_with fail
  go_loopg [14] R.length (fun gk i wr => ∃ (k : Nat) (r : List Int), Aside (gk + k = R.length) ∧ i = .int .i64 k ∧ Below w4.heap.size w4 wr ∧ RowO wr w4.heap.size (.slice Aa R.length ca) r ∧ RowO wr w5.heap.size (.slice Ab R.length cb) R ∧ Aside (r.length = R.length))
  case atStart => exact ⟨0, R, (rfl : R.length + 0 = _), rfl, h47, hOa7, hOb7, rfl⟩
  case round =>
    clear h47 hOa7 hOb7 hB5 hB6
    obtain ⟨k, r, hg, rfl, hB, hO, hOb, hr⟩ := hrel
    have hk : k ≤ R.length := by have := hg.out; omega
    by_cases hlt : k < R.length
    · have hO2 := hO.1
      rw [hr.out] at hO2
      obtain ⟨g, cap, hv, hgb, hgl⟩ := hO2.form (by omega)
      injection hv with hv1 hv2 hv3
      subst hv1 hv3
      have hcell := hO2.cellAt k (by omega)
      rw [icells_at _ k (by have := hr.out; omega)] at hcell
      have hfz := hO2.frozenAt k
      have hgw := hAa g rfl
      have HR := Lib.hid hr.out
      clear hO2 hr
      go_wp2_with fail
      go_roundg (R.length - (k + 1))
      case measure => have := hg.out; omega
      case rel => exact ⟨k + 1, r.set k 99, by have := hg.out; show _ = _; omega, by go_num, below_set hB hgb _, hO.stored HR.out.symm (by decide), hOb.kept (turned_set wr g k _) (hOb.far hgw), by have := HR.out; rw [List.length_set]; exact this⟩
    · have hkn : k = R.length := by omega
      subst hkn
      have hO2 := hO.1
      rw [hr.out] at hO2
      have HR := Lib.hid hr.out
      clear hr
      have hws : w4.heap.size ≤ wr.heap.size := hB.size
      have hN2 : w4.heap.size ≤ (wr.alloc (.cells #[.int .i64 98] 3)).heap.size := by simp; omega
      have hnew := (one_cells (w := wr.alloc (.cells #[.int .i64 98] 3)) (b := wr.heap.size) (o := 0) (x := 98) (by rw [World.cell?_alloc_new]; rfl))
      go_wp2_with (at_builtin; refine push_all (.tmp 63) (.tmp 64) 30 3 (.int .i64 0) 1 8 rfl rfl Tryd.underlying30 infoInt rfl (by decide) (by decide) w4.heap.size _ R.length (icells r) (icells [98]) rfl (hO2.alloc _) (some ⟨wr.heap.size, 0, none⟩) 1 1 rfl (fun h => by cases h) (icells_length _) hnew (icells_one _) (by omega) hN2 ?_; intro v8 w8 ho8 hg8 ha8; obtain ⟨g8, cap8, rfl, hg8b, hg8l⟩ := ho8.form (by omega); have hc8 : R.length + 1 ≤ cap8 := (by obtain ⟨_, _, e8, hle8, _⟩ := own_le ho8; cases e8; exact hle8))
      have h48 : Below w4.heap.size w4 w8 := (below_alloc hB hB.size _).grown hg8 hN2 (fun j hj => (hO2.lt j hj).1)
      have hB8 := below_then hB4 hB4.size h48
      have hOb8 : RowO w8 w5.heap.size (.slice Ab R.length cb) R := (hOb.below (below_alloc0 _ _)).kept hg8 (by
        cases hq : (Value.slice Ab R.length cb).ownBlock with
        | none => exact .inl rfl
        | some x =>
          refine .inr fun e => ?_
          have h1 := (hOb.1.lt x hq).1
          have h2 := hAa x e.symm
          omega)
      have ho8' : w8.ownsRow w4.heap.size 3 1 (.slice (some ⟨g8, 0, none⟩) (R.length + 1) cap8) (r.length + [(98 : Int)].length) (icells r ++ icells [98]) := by rw [HR.out]; exact ho8
      have hO8 := RowO.pushed (piece := [98]) ho8' (by rw [HR.out]; simp only [List.length_cons, List.length_nil]; omega) hO.2.2 (by decide)
      have h98 := hO8.last (k := R.length) (by rw [HR.out]) HR.out.symm
      clear ho8 ho8' hg8 ha8 hO hO2 hOb hO8 hB hN2 hnew
      refine (cA w8 (hl.kept hB8) ((hs2.kept h24).kept h48) (hI4.kept h48) (hT.kept hB8)).mono ?_
      rintro e w9 ⟨vc, rfl, hb9, hOc⟩
      obtain ⟨Ac, cc, rfl, hIc⟩ := hOc.ints
      have hB9 := below_then hB8 hB8.size hb9
      have h49 := below_then h48 h48.size hb9
      go_wp2_with fail
      refine (same_self Ac Ab R cc cb w9 hIc (hOb8.ints'.kept hb9)).mono ?_
      rintro e w10 ⟨rfl, hb10⟩
      have hB10 := below_then hB9 hB9.size hb10
      have h410 := below_then h49 h49.size hb10
      go_wp2_with fail
      refine (sameBinds_self CA B s cd c w10 ((hs2.kept h24).kept h410) (hs.kept hB10)).mono ?_
      rintro e w11 ⟨rfl, hb11⟩
      have hB11 := below_then hB10 hB10.size hb11
      have h411 := below_then h410 h410.size hb11
      go_wp2_with fail
      refine (same_self (some ⟨g4, 0, none⟩) C t cap4 tc w11 (hI4.kept h411) (ht.kept hB11)).mono ?_
      rintro e w12 ⟨rfl, hb12⟩
      have hB12 := below_then hB11 hB11.size hb12
      have h412 := below_then h411 h411.size hb12
      have h77' := cell_kept h412 h77
      have h98' := cell_kept (below_then hb9 hb9.size (below_then hb10 hb10.size (below_then hb11 hb11.size hb12))) h98
      clear hB8 hB9 hB10 hB11 h48 h49 h410 h411 h412
      go_wp2_with fail
      go_ret
      exact ⟨rfl, hB12⟩
end Go.Proofs.YtldnokeejinebaaDoor
