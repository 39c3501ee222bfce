/- The walk of PrecMore: for every number of symbols, all pairs and any two numbers it answers true. Conditions: the pairs take no more than the form's own reach. -/
import Derived.Test.YtgodkmenemlccaaPrecD
import Derived.Deep.RegionWith
set_option linter.unusedVariables false
set_option linter.unusedSimpArgs false
namespace Go.Proofs.Ytgodkmenemlccaa
open Go.RowKit

theorem infoPair : (Try.prog.info? 31).map (fun i => (i.zero, i.size, i.bytes)) = some (some (.agg #[.int .i64 0, .int .i64 0]), 2, 16) := by kernel_rfl
theorem pair_one (x y : Int) : ∀ u ∈ [Value.int .i64 x, Value.int .i64 y], u.oneCell' = true := by intro u hu; simp at hu; rcases hu with rfl | rfl <;> rfl
theorem pair_cells (w : World) (x y : Int) (T : TypeId) (n : Nat) (hn : n = w.heap.size) : ∀ j u, [Value.int .i64 x, Value.int .i64 y][j]? = some u → (w.alloc (.cells #[.int .i64 x, .int .i64 y] T)).cell? ⟨n, 0 + j, none⟩ = some u := by
  intro j u hj
  subst hn
  rw [World.cell?_alloc_new]
  cases j with
  | zero => simpa using hj
  | succ j => cases j with
    | zero => simpa using hj
    | succ j => simp at hj

set_option maxRecDepth 100000 in
set_option maxHeartbeats 8000000 in
theorem precMore_walk (n : Int) (A : Option Addr) (l : List (Int × Int)) (cap : Nat) (f g : Int) (w : World) (hl : Pairs w A l) (hn : A = none → l.length = 0 ∧ cap = 0) (hr : l.length * 16 ≤ 140737488351232) :
    Calls Try.prog 6 #[.int .i64 n, .slice A l.length cap, .int .i64 f, .int .i64 g] w fun e w' => e = .returned (.bool true) ∧ Below w.heap.size w w' := by
  have hll := hl.1
  go_enter Try.func6, Try.ntmps6
  go_wp2_with (go_at_call 8; refine (shown_any _).mono ?_; rintro e w1 ⟨rfl, hB⟩)
  by_cases hp : perr n l = 0
  · refine (close_ok n A l _ cap w1 rfl (hl.kept hB) hp).mono ?_
    rintro e w2 ⟨rfl, hb2, hP⟩
    obtain ⟨p, hpb⟩ : ∃ p, p = w1.heap.size := ⟨_, rfl⟩
    rw [← hpb] at hP ⊢
    clear hpb
    have hB2 := below_then hB hB.size hb2
    have hl2 := hl.kept hB2
    clear hB hb2
    have HP := Lib.hid hp
    clear hp
    obtain ⟨b0, hb0⟩ : ∃ b, b = w2.heap.size := ⟨_, rfl⟩
    have hown0 := own_empty w2 31 2 b0 hb0
    have hBe := below_alloc0 w2 (.cells #[] 31)
    rw [hb0] at hown0
    go_wp2_with (first
      | (at_builtin; refine push_all (.tmp 28) (.tmp 29) 22 31 (.agg #[.int .i64 0, .int .i64 0]) 2 16 rfl rfl Try.underlying22 infoPair rfl (by decide) (by decide) w2.heap.size _ 0 [] (pcells l) rfl hown0 A l.length cap rfl hn (pcells_length l) (hl2.kept hBe).cells (pcells_one l) (by omega) (by simp) ?_; intro v1 w3 ho1 hg1 ha1; simp only [Nat.zero_add, List.nil_append] at ho1)
      | (at_builtin; refine push (.tmp 30) (.tmp 34) 22 31 (.agg #[.int .i64 0, .int .i64 0]) 2 16 rfl rfl Try.underlying22 infoPair rfl (by decide) (by decide) w2.heap.size v1 l.length (pcells l) [.int .i64 f, .int .i64 g] rfl (ho1.alloc _) _ 0 1 rfl rfl (pair_cells _ _ _ _ _ rfl) (pair_one _ _) (by omega) (by have := hg1.size; simp at this; simp; omega) ?_; intro g2 cap2 w4 ho2 hg2 ha2 hlt2))
    have hB3 : Below w2.heap.size w2 w3 := hBe.grown hg1 (by simp) (fun k hk => own_base hown0 k hk)
    have hB4 : Below w2.heap.size w2 w4 := (below_alloc hB3 hB3.size _).grown hg2 (by have := hB3.size; simp; omega) (fun k hk => own_base ho1 k hk)
    have ho3 : w4.ownsRow w2.heap.size 31 2 (.slice (some ⟨g2, 0, none⟩) (l.length + 1) cap2) (l ++ [(f, g)]).length (pcells (l ++ [(f, g)])) := by rw [List.length_append, pcells_append]; exact ho2
    obtain ⟨A', c', he, _, hPs⟩ := own_pairs ho3
    injection he with he1 he2 he3
    rw [← he1] at hPs
    have hlen : (l ++ [(f, g)]).length = l.length + 1 := by simp
    have hP4 := hP.kept hB4
    have hB5 := below_then hB2 hB2.size hB4
    have HL := Lib.hid hlen
    clear hB3 hg1 hg2 ha1 ha2 ho1 ho2 ho3 hBe hown0 he1 he2 he3 hP hB4 hlen hl hl2
    by_cases hin : 0 ≤ f ∧ f < n ∧ 0 ≤ g ∧ g < n
    · obtain ⟨a1, a2, a3, a4⟩ := hin
      by_cases hfg : f = g
      · have hpe := perr_snoc_cyc HP.out ⟨a1, a2, a3, a4⟩ (.inl hfg)
        refine (close_err n _ (l ++ [(f, g)]) _ cap2 w4 HL.out hPs 101 hpe (by decide)).mono ?_
        rintro e w5 ⟨rfl, hb5⟩
        have hB6 := below_then hB5 hB5.size hb5
        have hq : (f == g) = true := beq_iff_eq.2 hfg
        clear hpe hfg
        go_wp2_with fail
        go_ret
        exact ⟨rfl, hB6⟩
      · have hq : (f == g) = false := beq_eq_false_iff_ne.2 hfg
        cases hgf : up l g f with
        | true =>
          have hpe := perr_snoc_cyc HP.out ⟨a1, a2, a3, a4⟩ (.inr hgf)
          refine (close_err n _ (l ++ [(f, g)]) _ cap2 w4 HL.out hPs 101 hpe (by decide)).mono ?_
          rintro e w5 ⟨rfl, hb5⟩
          have hB6 := below_then hB5 hB5.size hb5
          have hP6 := hP4.kept hb5
          clear hpe hfg
          go_wp2_with (go_at_call 11; refine (above_any p n l _ _ _ hP6).mono ?_; rintro e w' ⟨rfl, hb⟩)
          go_ret
          exact ⟨rfl, below_then hB6 hB6.size hb⟩
        | false =>
          have hpe := perr_snoc_ok HP.out ⟨a1, a2, a3, a4⟩ hfg hgf
          refine (close_ok n _ (l ++ [(f, g)]) _ cap2 w4 HL.out hPs hpe).mono ?_
          rintro e w5 ⟨rfl, hb5, hQ⟩
          obtain ⟨q, hqb⟩ : ∃ p, p = w4.heap.size := ⟨_, rfl⟩
          rw [← hqb] at hQ ⊢
          have hB6 := below_then hB5 hB5.size hb5
          have hP6 := hP4.kept hb5
          clear hqb hb5 hP4 hB5 hPs
          go_wp2_with (go_at_call 11; refine (above_any p n l _ _ _ hP6).mono ?_; rintro e w' ⟨rfl, hb⟩)
          have hB7 := below_then hB6 hB6.size hb
          have hP7 := hP6.kept hb
          have hQ7 := hQ.kept hb
          have hsn := fun a b => up_snoc (l := l) (f := f) (g := g) (a := a) (b := b)
          have HSN := Lib.hid hsn
          clear hb hB6 hP6 hQ hpe hfg hsn
          obtain ⟨N, rfl⟩ := Int.eq_ofNat_of_zero_le (perr_zero.1 HP.out).1.1
          have hN : (N : Int) ≤ 128 := (perr_zero.1 HP.out).1.2
          go_loopg [14] N (fun gk i wx => ∃ c : Nat, Aside (gk + c = N) ∧ i = .int .i64 c ∧ Below w.heap.size w wx ∧ IsPrec wx p N l ∧ IsPrec wx q N (l ++ [(f, g)]))
          case atStart => exact ⟨0, (rfl : N + 0 = N), rfl, hB7, hP7, hQ7⟩
          case round =>
            clear hB7 hP7 hQ7
            obtain ⟨c, hgc, rfl, hB, hP, hQ⟩ := hrel
            have hc : c ≤ N := by have := hgc.out; omega
            by_cases hcN : c < N
            · go_wp2_with fail
              obtain ⟨wo, rfl⟩ : ∃ wo : World, wo = wr := ⟨_, rfl⟩
              go_loopg [15] N (fun gk i wx => ∃ d : Nat, Aside (gk + d = N) ∧ i = .int .i64 d ∧ Below w.heap.size w wx ∧ IsPrec wx p N l ∧ IsPrec wx q N (l ++ [(f, g)]))
              case atStart => exact ⟨0, (rfl : N + 0 = N), rfl, hB, hP, hQ⟩
              case round =>
                clear hB hP hQ
                obtain ⟨d, hgd, rfl, hB, hP, hQ⟩ := hrel
                have hd : d ≤ N := by have := hgd.out; omega
                by_cases hdN : d < N
                · have hs := HSN.out c d
                  have fin : ∀ w2, Below w.heap.size w w2 ∧ IsPrec w2 p N l ∧ IsPrec w2 q N (l ++ [(f, g)]) → ∃ k : Nat, Aside ((N - (d + 1)) + k = N) ∧ Value.int .i64 ((d : Int) + 1) = .int .i64 k ∧ Below w.heap.size w w2 ∧ IsPrec w2 p N l ∧ IsPrec w2 q N (l ++ [(f, g)]) :=
                    fun w2 h => ⟨d + 1, by have := hgd.out; show _ = _; omega, by go_num, h⟩
                  have HF := Lib.hid fin
                  clear fin
                  by_cases e1 : (c : Int) = f
                  · have t1 : ((c : Int) == f) = true := beq_iff_eq.2 e1
                    have t1' : decide ((c : Int) = f) = true := decide_eq_true e1
                    clear e1
                    by_cases e2 : (d : Int) = g
                    · have t2 : ((d : Int) == g) = true := beq_iff_eq.2 e2
                      have t2' : decide ((d : Int) = g) = true := decide_eq_true e2
                      clear e2
                      cases h3 : up l c d with
                      | false =>
                        have hs' : up (l ++ [(f, g)]) c d = true := by rw [hs, h3]; simp [t1', t2']
                        have HS := Lib.hid hs
                        clear hs
                        go_wp2_with (first | (go_at_call_of 11 q; refine (above_any q N (l ++ [(f, g)]) _ _ _ (by assumption)).mono ?_; rintro e w' ⟨rfl, hb⟩; have hP' := IsPrec.kept (b := p) (n := N) (l := l) (by assumption) hb; have hQ' := IsPrec.kept (b := q) (n := N) (l := l ++ [(f, g)]) (by assumption) hb; have hB' := below_then (B := w.heap.size) (w := w) (by assumption) (Below.size (B := w.heap.size) (w := w) (by assumption)) hb) | (go_at_call_of 11 p; refine (above_any p N l _ _ _ (by assumption)).mono ?_; rintro e w' ⟨rfl, hb⟩; have hP' := IsPrec.kept (b := p) (n := N) (l := l) (by assumption) hb; have hQ' := IsPrec.kept (b := q) (n := N) (l := l ++ [(f, g)]) (by assumption) hb; have hB' := below_then (B := w.heap.size) (w := w) (by assumption) (Below.size (B := w.heap.size) (w := w) (by assumption)) hb))
                        go_roundg (N - (d + 1))
                        case measure => have := hgd.out; omega
                        case rel => exact HF.out _ ⟨by assumption, by assumption, by assumption⟩
                      | true =>
                        have hs' : up (l ++ [(f, g)]) c d = true := by rw [hs, h3]; simp [t1', t2']
                        have HS := Lib.hid hs
                        clear hs
                        go_wp2_with (first | (go_at_call_of 11 q; refine (above_any q N (l ++ [(f, g)]) _ _ _ (by assumption)).mono ?_; rintro e w' ⟨rfl, hb⟩; have hP' := IsPrec.kept (b := p) (n := N) (l := l) (by assumption) hb; have hQ' := IsPrec.kept (b := q) (n := N) (l := l ++ [(f, g)]) (by assumption) hb; have hB' := below_then (B := w.heap.size) (w := w) (by assumption) (Below.size (B := w.heap.size) (w := w) (by assumption)) hb) | (go_at_call_of 11 p; refine (above_any p N l _ _ _ (by assumption)).mono ?_; rintro e w' ⟨rfl, hb⟩; have hP' := IsPrec.kept (b := p) (n := N) (l := l) (by assumption) hb; have hQ' := IsPrec.kept (b := q) (n := N) (l := l ++ [(f, g)]) (by assumption) hb; have hB' := below_then (B := w.heap.size) (w := w) (by assumption) (Below.size (B := w.heap.size) (w := w) (by assumption)) hb))
                        go_roundg (N - (d + 1))
                        case measure => have := hgd.out; omega
                        case rel => exact HF.out _ ⟨by assumption, by assumption, by assumption⟩
                    · have t2 : ((d : Int) == g) = false := beq_eq_false_iff_ne.2 e2
                      have t2' : decide ((d : Int) = g) = false := decide_eq_false e2
                      clear e2
                      cases h2 : up l g d with
                      | false =>
                        cases h3 : up l c d with
                        | false =>
                          have hs' : up (l ++ [(f, g)]) c d = false := by rw [hs, h3]; simp [t1', t2', h2]
                          have HS := Lib.hid hs
                          clear hs
                          go_wp2_with (first | (go_at_call_of 11 q; refine (above_any q N (l ++ [(f, g)]) _ _ _ (by assumption)).mono ?_; rintro e w' ⟨rfl, hb⟩; have hP' := IsPrec.kept (b := p) (n := N) (l := l) (by assumption) hb; have hQ' := IsPrec.kept (b := q) (n := N) (l := l ++ [(f, g)]) (by assumption) hb; have hB' := below_then (B := w.heap.size) (w := w) (by assumption) (Below.size (B := w.heap.size) (w := w) (by assumption)) hb) | (go_at_call_of 11 p; refine (above_any p N l _ _ _ (by assumption)).mono ?_; rintro e w' ⟨rfl, hb⟩; have hP' := IsPrec.kept (b := p) (n := N) (l := l) (by assumption) hb; have hQ' := IsPrec.kept (b := q) (n := N) (l := l ++ [(f, g)]) (by assumption) hb; have hB' := below_then (B := w.heap.size) (w := w) (by assumption) (Below.size (B := w.heap.size) (w := w) (by assumption)) hb))
                          go_roundg (N - (d + 1))
                          case measure => have := hgd.out; omega
                          case rel => exact HF.out _ ⟨by assumption, by assumption, by assumption⟩
                        | true =>
                          have hs' : up (l ++ [(f, g)]) c d = true := by rw [hs, h3]; simp [t1', t2', h2]
                          have HS := Lib.hid hs
                          clear hs
                          go_wp2_with (first | (go_at_call_of 11 q; refine (above_any q N (l ++ [(f, g)]) _ _ _ (by assumption)).mono ?_; rintro e w' ⟨rfl, hb⟩; have hP' := IsPrec.kept (b := p) (n := N) (l := l) (by assumption) hb; have hQ' := IsPrec.kept (b := q) (n := N) (l := l ++ [(f, g)]) (by assumption) hb; have hB' := below_then (B := w.heap.size) (w := w) (by assumption) (Below.size (B := w.heap.size) (w := w) (by assumption)) hb) | (go_at_call_of 11 p; refine (above_any p N l _ _ _ (by assumption)).mono ?_; rintro e w' ⟨rfl, hb⟩; have hP' := IsPrec.kept (b := p) (n := N) (l := l) (by assumption) hb; have hQ' := IsPrec.kept (b := q) (n := N) (l := l ++ [(f, g)]) (by assumption) hb; have hB' := below_then (B := w.heap.size) (w := w) (by assumption) (Below.size (B := w.heap.size) (w := w) (by assumption)) hb))
                          go_roundg (N - (d + 1))
                          case measure => have := hgd.out; omega
                          case rel => exact HF.out _ ⟨by assumption, by assumption, by assumption⟩
                      | true =>
                        cases h3 : up l c d with
                        | false =>
                          have hs' : up (l ++ [(f, g)]) c d = true := by rw [hs, h3]; simp [t1', t2', h2]
                          have HS := Lib.hid hs
                          clear hs
                          go_wp2_with (first | (go_at_call_of 11 q; refine (above_any q N (l ++ [(f, g)]) _ _ _ (by assumption)).mono ?_; rintro e w' ⟨rfl, hb⟩; have hP' := IsPrec.kept (b := p) (n := N) (l := l) (by assumption) hb; have hQ' := IsPrec.kept (b := q) (n := N) (l := l ++ [(f, g)]) (by assumption) hb; have hB' := below_then (B := w.heap.size) (w := w) (by assumption) (Below.size (B := w.heap.size) (w := w) (by assumption)) hb) | (go_at_call_of 11 p; refine (above_any p N l _ _ _ (by assumption)).mono ?_; rintro e w' ⟨rfl, hb⟩; have hP' := IsPrec.kept (b := p) (n := N) (l := l) (by assumption) hb; have hQ' := IsPrec.kept (b := q) (n := N) (l := l ++ [(f, g)]) (by assumption) hb; have hB' := below_then (B := w.heap.size) (w := w) (by assumption) (Below.size (B := w.heap.size) (w := w) (by assumption)) hb))
                          go_roundg (N - (d + 1))
                          case measure => have := hgd.out; omega
                          case rel => exact HF.out _ ⟨by assumption, by assumption, by assumption⟩
                        | true =>
                          have hs' : up (l ++ [(f, g)]) c d = true := by rw [hs, h3]; simp [t1', t2', h2]
                          have HS := Lib.hid hs
                          clear hs
                          go_wp2_with (first | (go_at_call_of 11 q; refine (above_any q N (l ++ [(f, g)]) _ _ _ (by assumption)).mono ?_; rintro e w' ⟨rfl, hb⟩; have hP' := IsPrec.kept (b := p) (n := N) (l := l) (by assumption) hb; have hQ' := IsPrec.kept (b := q) (n := N) (l := l ++ [(f, g)]) (by assumption) hb; have hB' := below_then (B := w.heap.size) (w := w) (by assumption) (Below.size (B := w.heap.size) (w := w) (by assumption)) hb) | (go_at_call_of 11 p; refine (above_any p N l _ _ _ (by assumption)).mono ?_; rintro e w' ⟨rfl, hb⟩; have hP' := IsPrec.kept (b := p) (n := N) (l := l) (by assumption) hb; have hQ' := IsPrec.kept (b := q) (n := N) (l := l ++ [(f, g)]) (by assumption) hb; have hB' := below_then (B := w.heap.size) (w := w) (by assumption) (Below.size (B := w.heap.size) (w := w) (by assumption)) hb))
                          go_roundg (N - (d + 1))
                          case measure => have := hgd.out; omega
                          case rel => exact HF.out _ ⟨by assumption, by assumption, by assumption⟩
                  · have t1 : ((c : Int) == f) = false := beq_eq_false_iff_ne.2 e1
                    have t1' : decide ((c : Int) = f) = false := decide_eq_false e1
                    clear e1
                    cases h1 : up l c f with
                    | false =>
                      cases h3 : up l c d with
                      | false =>
                        have hs' : up (l ++ [(f, g)]) c d = false := by rw [hs, h3]; simp [t1', h1]
                        have HS := Lib.hid hs
                        clear hs
                        go_wp2_with (first | (go_at_call_of 11 q; refine (above_any q N (l ++ [(f, g)]) _ _ _ (by assumption)).mono ?_; rintro e w' ⟨rfl, hb⟩; have hP' := IsPrec.kept (b := p) (n := N) (l := l) (by assumption) hb; have hQ' := IsPrec.kept (b := q) (n := N) (l := l ++ [(f, g)]) (by assumption) hb; have hB' := below_then (B := w.heap.size) (w := w) (by assumption) (Below.size (B := w.heap.size) (w := w) (by assumption)) hb) | (go_at_call_of 11 p; refine (above_any p N l _ _ _ (by assumption)).mono ?_; rintro e w' ⟨rfl, hb⟩; have hP' := IsPrec.kept (b := p) (n := N) (l := l) (by assumption) hb; have hQ' := IsPrec.kept (b := q) (n := N) (l := l ++ [(f, g)]) (by assumption) hb; have hB' := below_then (B := w.heap.size) (w := w) (by assumption) (Below.size (B := w.heap.size) (w := w) (by assumption)) hb))
                        go_roundg (N - (d + 1))
                        case measure => have := hgd.out; omega
                        case rel => exact HF.out _ ⟨by assumption, by assumption, by assumption⟩
                      | true =>
                        have hs' : up (l ++ [(f, g)]) c d = true := by rw [hs, h3]; simp [t1', h1]
                        have HS := Lib.hid hs
                        clear hs
                        go_wp2_with (first | (go_at_call_of 11 q; refine (above_any q N (l ++ [(f, g)]) _ _ _ (by assumption)).mono ?_; rintro e w' ⟨rfl, hb⟩; have hP' := IsPrec.kept (b := p) (n := N) (l := l) (by assumption) hb; have hQ' := IsPrec.kept (b := q) (n := N) (l := l ++ [(f, g)]) (by assumption) hb; have hB' := below_then (B := w.heap.size) (w := w) (by assumption) (Below.size (B := w.heap.size) (w := w) (by assumption)) hb) | (go_at_call_of 11 p; refine (above_any p N l _ _ _ (by assumption)).mono ?_; rintro e w' ⟨rfl, hb⟩; have hP' := IsPrec.kept (b := p) (n := N) (l := l) (by assumption) hb; have hQ' := IsPrec.kept (b := q) (n := N) (l := l ++ [(f, g)]) (by assumption) hb; have hB' := below_then (B := w.heap.size) (w := w) (by assumption) (Below.size (B := w.heap.size) (w := w) (by assumption)) hb))
                        go_roundg (N - (d + 1))
                        case measure => have := hgd.out; omega
                        case rel => exact HF.out _ ⟨by assumption, by assumption, by assumption⟩
                    | true =>
                      by_cases e2 : (d : Int) = g
                      · have t2 : ((d : Int) == g) = true := beq_iff_eq.2 e2
                        have t2' : decide ((d : Int) = g) = true := decide_eq_true e2
                        clear e2
                        cases h3 : up l c d with
                        | false =>
                          have hs' : up (l ++ [(f, g)]) c d = true := by rw [hs, h3]; simp [t1', h1, t2']
                          have HS := Lib.hid hs
                          clear hs
                          go_wp2_with (first | (go_at_call_of 11 q; refine (above_any q N (l ++ [(f, g)]) _ _ _ (by assumption)).mono ?_; rintro e w' ⟨rfl, hb⟩; have hP' := IsPrec.kept (b := p) (n := N) (l := l) (by assumption) hb; have hQ' := IsPrec.kept (b := q) (n := N) (l := l ++ [(f, g)]) (by assumption) hb; have hB' := below_then (B := w.heap.size) (w := w) (by assumption) (Below.size (B := w.heap.size) (w := w) (by assumption)) hb) | (go_at_call_of 11 p; refine (above_any p N l _ _ _ (by assumption)).mono ?_; rintro e w' ⟨rfl, hb⟩; have hP' := IsPrec.kept (b := p) (n := N) (l := l) (by assumption) hb; have hQ' := IsPrec.kept (b := q) (n := N) (l := l ++ [(f, g)]) (by assumption) hb; have hB' := below_then (B := w.heap.size) (w := w) (by assumption) (Below.size (B := w.heap.size) (w := w) (by assumption)) hb))
                          go_roundg (N - (d + 1))
                          case measure => have := hgd.out; omega
                          case rel => exact HF.out _ ⟨by assumption, by assumption, by assumption⟩
                        | true =>
                          have hs' : up (l ++ [(f, g)]) c d = true := by rw [hs, h3]; simp [t1', h1, t2']
                          have HS := Lib.hid hs
                          clear hs
                          go_wp2_with (first | (go_at_call_of 11 q; refine (above_any q N (l ++ [(f, g)]) _ _ _ (by assumption)).mono ?_; rintro e w' ⟨rfl, hb⟩; have hP' := IsPrec.kept (b := p) (n := N) (l := l) (by assumption) hb; have hQ' := IsPrec.kept (b := q) (n := N) (l := l ++ [(f, g)]) (by assumption) hb; have hB' := below_then (B := w.heap.size) (w := w) (by assumption) (Below.size (B := w.heap.size) (w := w) (by assumption)) hb) | (go_at_call_of 11 p; refine (above_any p N l _ _ _ (by assumption)).mono ?_; rintro e w' ⟨rfl, hb⟩; have hP' := IsPrec.kept (b := p) (n := N) (l := l) (by assumption) hb; have hQ' := IsPrec.kept (b := q) (n := N) (l := l ++ [(f, g)]) (by assumption) hb; have hB' := below_then (B := w.heap.size) (w := w) (by assumption) (Below.size (B := w.heap.size) (w := w) (by assumption)) hb))
                          go_roundg (N - (d + 1))
                          case measure => have := hgd.out; omega
                          case rel => exact HF.out _ ⟨by assumption, by assumption, by assumption⟩
                      · have t2 : ((d : Int) == g) = false := beq_eq_false_iff_ne.2 e2
                        have t2' : decide ((d : Int) = g) = false := decide_eq_false e2
                        clear e2
                        cases h2 : up l g d with
                        | false =>
                          cases h3 : up l c d with
                          | false =>
                            have hs' : up (l ++ [(f, g)]) c d = false := by rw [hs, h3]; simp [t1', h1, t2', h2]
                            have HS := Lib.hid hs
                            clear hs
                            go_wp2_with (first | (go_at_call_of 11 q; refine (above_any q N (l ++ [(f, g)]) _ _ _ (by assumption)).mono ?_; rintro e w' ⟨rfl, hb⟩; have hP' := IsPrec.kept (b := p) (n := N) (l := l) (by assumption) hb; have hQ' := IsPrec.kept (b := q) (n := N) (l := l ++ [(f, g)]) (by assumption) hb; have hB' := below_then (B := w.heap.size) (w := w) (by assumption) (Below.size (B := w.heap.size) (w := w) (by assumption)) hb) | (go_at_call_of 11 p; refine (above_any p N l _ _ _ (by assumption)).mono ?_; rintro e w' ⟨rfl, hb⟩; have hP' := IsPrec.kept (b := p) (n := N) (l := l) (by assumption) hb; have hQ' := IsPrec.kept (b := q) (n := N) (l := l ++ [(f, g)]) (by assumption) hb; have hB' := below_then (B := w.heap.size) (w := w) (by assumption) (Below.size (B := w.heap.size) (w := w) (by assumption)) hb))
                            go_roundg (N - (d + 1))
                            case measure => have := hgd.out; omega
                            case rel => exact HF.out _ ⟨by assumption, by assumption, by assumption⟩
                          | true =>
                            have hs' : up (l ++ [(f, g)]) c d = true := by rw [hs, h3]; simp [t1', h1, t2', h2]
                            have HS := Lib.hid hs
                            clear hs
                            go_wp2_with (first | (go_at_call_of 11 q; refine (above_any q N (l ++ [(f, g)]) _ _ _ (by assumption)).mono ?_; rintro e w' ⟨rfl, hb⟩; have hP' := IsPrec.kept (b := p) (n := N) (l := l) (by assumption) hb; have hQ' := IsPrec.kept (b := q) (n := N) (l := l ++ [(f, g)]) (by assumption) hb; have hB' := below_then (B := w.heap.size) (w := w) (by assumption) (Below.size (B := w.heap.size) (w := w) (by assumption)) hb) | (go_at_call_of 11 p; refine (above_any p N l _ _ _ (by assumption)).mono ?_; rintro e w' ⟨rfl, hb⟩; have hP' := IsPrec.kept (b := p) (n := N) (l := l) (by assumption) hb; have hQ' := IsPrec.kept (b := q) (n := N) (l := l ++ [(f, g)]) (by assumption) hb; have hB' := below_then (B := w.heap.size) (w := w) (by assumption) (Below.size (B := w.heap.size) (w := w) (by assumption)) hb))
                            go_roundg (N - (d + 1))
                            case measure => have := hgd.out; omega
                            case rel => exact HF.out _ ⟨by assumption, by assumption, by assumption⟩
                        | true =>
                          cases h3 : up l c d with
                          | false =>
                            have hs' : up (l ++ [(f, g)]) c d = true := by rw [hs, h3]; simp [t1', h1, t2', h2]
                            have HS := Lib.hid hs
                            clear hs
                            go_wp2_with (first | (go_at_call_of 11 q; refine (above_any q N (l ++ [(f, g)]) _ _ _ (by assumption)).mono ?_; rintro e w' ⟨rfl, hb⟩; have hP' := IsPrec.kept (b := p) (n := N) (l := l) (by assumption) hb; have hQ' := IsPrec.kept (b := q) (n := N) (l := l ++ [(f, g)]) (by assumption) hb; have hB' := below_then (B := w.heap.size) (w := w) (by assumption) (Below.size (B := w.heap.size) (w := w) (by assumption)) hb) | (go_at_call_of 11 p; refine (above_any p N l _ _ _ (by assumption)).mono ?_; rintro e w' ⟨rfl, hb⟩; have hP' := IsPrec.kept (b := p) (n := N) (l := l) (by assumption) hb; have hQ' := IsPrec.kept (b := q) (n := N) (l := l ++ [(f, g)]) (by assumption) hb; have hB' := below_then (B := w.heap.size) (w := w) (by assumption) (Below.size (B := w.heap.size) (w := w) (by assumption)) hb))
                            go_roundg (N - (d + 1))
                            case measure => have := hgd.out; omega
                            case rel => exact HF.out _ ⟨by assumption, by assumption, by assumption⟩
                          | true =>
                            have hs' : up (l ++ [(f, g)]) c d = true := by rw [hs, h3]; simp [t1', h1, t2', h2]
                            have HS := Lib.hid hs
                            clear hs
                            go_wp2_with (first | (go_at_call_of 11 q; refine (above_any q N (l ++ [(f, g)]) _ _ _ (by assumption)).mono ?_; rintro e w' ⟨rfl, hb⟩; have hP' := IsPrec.kept (b := p) (n := N) (l := l) (by assumption) hb; have hQ' := IsPrec.kept (b := q) (n := N) (l := l ++ [(f, g)]) (by assumption) hb; have hB' := below_then (B := w.heap.size) (w := w) (by assumption) (Below.size (B := w.heap.size) (w := w) (by assumption)) hb) | (go_at_call_of 11 p; refine (above_any p N l _ _ _ (by assumption)).mono ?_; rintro e w' ⟨rfl, hb⟩; have hP' := IsPrec.kept (b := p) (n := N) (l := l) (by assumption) hb; have hQ' := IsPrec.kept (b := q) (n := N) (l := l ++ [(f, g)]) (by assumption) hb; have hB' := below_then (B := w.heap.size) (w := w) (by assumption) (Below.size (B := w.heap.size) (w := w) (by assumption)) hb))
                            go_roundg (N - (d + 1))
                            case measure => have := hgd.out; omega
                            case rel => exact HF.out _ ⟨by assumption, by assumption, by assumption⟩
                · go_wp2_with fail
                  go_roundg (N - (c + 1))
                  case measure => have := hgc.out; omega
                  case rel => exact ⟨c + 1, by have := hgc.out; show _ = _; omega, by go_num, hB, hP, hQ⟩
            · go_wp2_with fail
              go_ret
              exact ⟨rfl, hB⟩
    · have hpe := perr_snoc_bad HP.out hin
      refine (close_err n _ (l ++ [(f, g)]) _ cap2 w4 HL.out hPs 100 hpe (by decide)).mono ?_
      rintro e w5 ⟨rfl, hb5⟩
      have hB6 := below_then hB5 hB5.size hb5
      clear hpe
      by_cases a1 : f < 0
      · clear hin
        go_wp2_with fail
        go_ret
        exact ⟨rfl, hB6⟩
      by_cases a2 : n ≤ f
      · clear hin
        go_wp2_with fail
        go_ret
        exact ⟨rfl, hB6⟩
      by_cases a3 : g < 0
      · clear hin
        go_wp2_with fail
        go_ret
        exact ⟨rfl, hB6⟩
      have a4 : n ≤ g := by omega
      clear hin
      go_wp2_with fail
      go_ret
      exact ⟨rfl, hB6⟩
  · have hpe := perr_snoc_err (f := f) (g := g) hp
    have HP := Lib.hid hp
    have HPE := Lib.hid hpe
    clear hp hpe
    refine (close_err n A l _ cap w1 rfl (hl.kept hB) _ rfl HP.out).mono ?_
    rintro e w2 ⟨rfl, hb2⟩
    have hB2 := below_then hB hB.size hb2
    have hl2 := hl.kept hB2
    generalize perr n l = x at *
    clear hB hb2
    obtain ⟨b0, hb0⟩ : ∃ b, b = w2.heap.size := ⟨_, rfl⟩
    have hown0 := own_empty w2 31 2 b0 hb0
    have hBe := below_alloc0 w2 (.cells #[] 31)
    rw [hb0] at hown0
    go_wp2_with (first
      | (at_builtin; refine push_all (.tmp 28) (.tmp 29) 22 31 (.agg #[.int .i64 0, .int .i64 0]) 2 16 rfl rfl Try.underlying22 infoPair rfl (by decide) (by decide) w2.heap.size _ 0 [] (pcells l) rfl hown0 A l.length cap rfl hn (pcells_length l) (hl2.kept hBe).cells (pcells_one l) (by omega) (by simp) ?_; intro v1 w3 ho1 hg1 ha1; simp only [Nat.zero_add, List.nil_append] at ho1)
      | (at_builtin; refine push (.tmp 30) (.tmp 34) 22 31 (.agg #[.int .i64 0, .int .i64 0]) 2 16 rfl rfl Try.underlying22 infoPair rfl (by decide) (by decide) w2.heap.size v1 l.length (pcells l) [.int .i64 f, .int .i64 g] rfl (ho1.alloc _) _ 0 1 rfl rfl (pair_cells _ _ _ _ _ rfl) (pair_one _ _) (by omega) (by have := hg1.size; simp at this; simp; omega) ?_; intro g2 cap2 w4 ho2 hg2 ha2 hlt2))
    have hB3 : Below w2.heap.size w2 w3 := hBe.grown hg1 (by simp) (fun k hk => own_base hown0 k hk)
    have hB4 : Below w2.heap.size w2 w4 := (below_alloc hB3 hB3.size _).grown hg2 (by have := hB3.size; simp; omega) (fun k hk => own_base ho1 k hk)
    have ho3 : w4.ownsRow w2.heap.size 31 2 (.slice (some ⟨g2, 0, none⟩) (l.length + 1) cap2) (l ++ [(f, g)]).length (pcells (l ++ [(f, g)])) := by rw [List.length_append, pcells_append]; exact ho2
    obtain ⟨A', c', he, _, hPs⟩ := own_pairs ho3
    injection he with he1 he2 he3
    rw [← he1] at hPs
    have hlen : (l ++ [(f, g)]).length = l.length + 1 := by simp
    have hB5 := below_then hB2 hB2.size hB4
    have HL := Lib.hid hlen
    clear hB3 hg1 hg2 ha1 ha2 ho1 ho2 ho3 hBe hown0 he1 he2 he3 hB4 hlen hl hl2
    refine (close_err n _ (l ++ [(f, g)]) _ cap2 w4 HL.out hPs _ rfl HPE.out).mono ?_
    rintro e w5 ⟨rfl, hb5⟩
    have hB6 := below_then hB5 hB5.size hb5
    generalize perr n (l ++ [(f, g)]) = y at *
    have hx : (x != 0) = true := bne_iff_ne.2 HP.out
    have hy : (y != 0) = true := bne_iff_ne.2 HPE.out
    go_wp2_with fail
    go_ret
    exact ⟨rfl, hB6⟩
end Go.Proofs.Ytgodkmenemlccaa
