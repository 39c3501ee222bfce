/- The walk of PrecCloses: for every number of symbols, all pairs and any two numbers it answers true. Conditions: the pairs take no more than the form's own reach. -/
import Derived.Test.YtgodkmenemlccaaPrecD
set_option linter.unusedVariables false
set_option linter.unusedSimpArgs false
namespace Go.Proofs.Ytgodkmenemlccaa
open Go.RowKit

theorem infoPair' : (Try.prog.info? 31).map (fun i => (i.zero, i.size, i.bytes)) = some (some (.agg #[.int .i64 0, .int .i64 0]), 2, 16) := by kernel_rfl

/-- A row of pairs that may be written. -/
def OwnP (w : World) (A : Option Addr) (lo hi : Nat) (L : List (Int × Int)) : Prop :=
  0 < L.length → ∃ g, A = some ⟨g, 0, none⟩ ∧ lo ≤ g ∧ g < hi ∧ ∀ k, k < L.length → w.cell? ⟨g, k * 2, none⟩ = some (.int .i64 (L.getD k (0, 0)).1) ∧ w.cell? ⟨g, k * 2 + 1, none⟩ = some (.int .i64 (L.getD k (0, 0)).2) ∧
    w.frozen? ⟨g, k * 2, none⟩ = false ∧ w.frozen? ⟨g, k * 2 + 1, none⟩ = false
theorem OwnP.kept {w w' : World} {A : Option Addr} {lo hi : Nat} {L : List (Int × Int)} (h : OwnP w A lo hi L) (hb : Below w.heap.size w w') : OwnP w' A lo hi L := fun h0 => by
  obtain ⟨g, hA, h1, h2, hc⟩ := h h0
  refine ⟨g, hA, h1, h2, fun k hk => ?_⟩
  obtain ⟨c1, c2, f1, f2⟩ := hc k hk
  exact ⟨cell_kept hb c1, cell_kept hb c2, (hb.frozen (p := ⟨g, k * 2, none⟩) (World.block_lt_of_cell? w _ c1)).trans f1, (hb.frozen (p := ⟨g, k * 2 + 1, none⟩) (World.block_lt_of_cell? w _ c2)).trans f2⟩
theorem OwnP.drew {w : World} {A : Option Addr} {lo hi : Nat} {L : List (Int × Int)} (h : OwnP w A lo hi L) (n : Nat) : OwnP (w.drewN n) A lo hi L := h
theorem OwnP.set {w : World} {g lo hi : Nat} {L : List (Int × Int)} (h : OwnP w (some ⟨g, 0, none⟩) lo hi L) {j : Nat} (hj : j < L.length) (x y : Int) :
    OwnP ((w.setCell ⟨g, j * 2, none⟩ (.int .i64 x)).setCell ⟨g, j * 2 + 1, none⟩ (.int .i64 y)) (some ⟨g, 0, none⟩) lo hi (L.set j (x, y)) := fun h0 => by
  rw [List.length_set] at h0
  obtain ⟨g', hA, h1, h2, hc⟩ := h h0
  injection hA with hA
  injection hA with hA
  subst hA
  refine ⟨g, rfl, h1, h2, fun k hk => ?_⟩
  rw [List.length_set] at hk
  obtain ⟨c1, c2, f1, f2⟩ := hc k hk
  rw [World.frozen?_setCell, World.frozen?_setCell, World.frozen?_setCell, World.frozen?_setCell]
  refine ⟨?_, ?_, f1, f2⟩
  · by_cases e : k = j
    · subst e
      rw [set_off (by omega), set_same c1]
      simp [List.getD_eq_getElem?_getD, hk]
    · rw [set_off (by omega), set_off (by omega), c1]
      simp [List.getD_eq_getElem?_getD, List.getElem?_set_ne (fun h => e h.symm)]
  · by_cases e : k = j
    · subst e
      rw [set_same (u := .int .i64 (L.getD k (0, 0)).2) (by rw [set_off (by omega)]; exact c2)]
      simp [List.getD_eq_getElem?_getD, hk]
    · rw [set_off (by omega), set_off (by omega), c2]
      simp [List.getD_eq_getElem?_getD, List.getElem?_set_ne (fun h => e h.symm)]
theorem own_ownP {w : World} {base : Nat} {e : TypeId} {v : Value} {l : List (Int × Int)} (h : w.ownsRow base e 2 v l.length (pcells l)) : ∃ A c, v = .slice A l.length c ∧ OwnP w A base w.heap.size l := by
  obtain ⟨A, c, hv, _⟩ := own_slice h
  refine ⟨A, c, hv, fun h0 => ?_⟩
  obtain ⟨g, cap, hv2, hb, hlt⟩ := h.form h0
  rw [hv2] at hv
  injection hv with e1 e2 e3
  subst hv2
  refine ⟨g, e1.symm, hb, hlt, fun k hk => ?_⟩
  have hp := pcells_at l k hk
  exact ⟨by rw [h.cellAt (k * 2) (by omega)]; exact hp.1, by rw [h.cellAt (k * 2 + 1) (by omega)]; exact hp.2, h.frozenAt _, h.frozenAt _⟩
theorem OwnP.pairs {w : World} {A : Option Addr} {lo hi : Nat} {L : List (Int × Int)} (h : OwnP w A lo hi L) (hl : L.length ≤ 9223372036854775807) : Pairs w A L :=
  ⟨hl, fun h0 => by
    obtain ⟨g, hA, _, _, hc⟩ := h h0
    refine ⟨g, 0, hA, fun k hk => ?_⟩
    rw [Nat.zero_add]
    exact ⟨(hc k hk).1, (hc k hk).2.1⟩⟩

set_option maxRecDepth 100000 in
set_option maxHeartbeats 4000000 in
theorem precCloses_walk (n : Int) (A : Option Addr) (l : List (Int × Int)) (cap : Nat) (f g : Int) (w : World) (hl : Pairs w A l) (hn : A = none → l.length = 0 ∧ cap = 0) (hr : l.length * 16 ≤ 140737488351232) :
    Calls Try.prog 3 #[.int .i64 n, .slice A l.length cap, .int .i64 f, .int .i64 g] w fun e w' => e = .returned (.bool true) ∧ Below w.heap.size w w' := by
  have hll := hl.1
  go_enter Try.func3, Try.ntmps3
  go_wp2_with fail
  refine (shown_any _).mono ?_
  rintro e w1 ⟨rfl, hB⟩
  obtain ⟨b0, hb0⟩ : ∃ b, b = w1.heap.size := ⟨_, rfl⟩
  have hown0 := own_empty w1 31 2 b0 hb0
  have hBe := below_alloc0 w1 (.cells #[] 31)
  rw [hb0] at hown0
  have hl1 := (hl.kept hB).kept hBe
  go_wp2_with (at_builtin; refine push_all (.tmp 21) (.tmp 22) 22 31 (.agg #[.int .i64 0, .int .i64 0]) 2 16 rfl rfl Try.underlying22 infoPair' rfl (by decide) (by decide) w1.heap.size _ 0 [] (pcells l) rfl hown0 A l.length cap rfl hn (pcells_length l) hl1.cells (pcells_one l) (by omega) (by simp) ?_; intro v1 w3 ho1 hg1 ha1; simp only [Nat.zero_add, List.nil_append] at ho1; obtain ⟨A', c', rfl, hO⟩ := own_ownP ho1; clear ho1 ha1)
  have hB3 : Below w1.heap.size w1 w3 := hBe.grown hg1 (by simp) (fun k hk => own_base hown0 k hk)
  have hBw3 := below_then hB hB.size hB3
  have hlo := hB.size
  clear hg1 hown0 hBe hl1 hb0 hB3
  have hl3 := hl.kept hBw3
  have hOP := hO.pairs hll
  by_cases hp : perr n l = 0
  · refine (close_ok n A' l _ c' w3 rfl hOP hp).mono ?_
    rintro e w4 ⟨rfl, hb4, hP⟩
    obtain ⟨p, hpb⟩ : ∃ p, p = w3.heap.size := ⟨_, rfl⟩
    have hO4 := hO.kept hb4
    have hB4 := below_then hBw3 hBw3.size hb4
    rw [← hpb] at hP hO4 ⊢
    clear hb4 hO hOP hl3 hBw3 hpb
    have HP := Lib.hid hp
    clear hp
    have hpq : p < w4.heap.size := by obtain ⟨D, hD, _⟩ := hP; exact hD.lt
    go_wp2_with fail
    refine (ref_ok n A l _ cap w4 rfl (hl.kept hB4) HP.out).mono ?_
    rintro e w5 ⟨rfl, hb5, hQ⟩
    obtain ⟨q, hqb⟩ : ∃ p, p = w4.heap.size := ⟨_, rfl⟩
    rw [← hqb] at hQ hpq ⊢
    have hO5 := hO4.kept hb5
    have hP5 := hP.kept hb5
    have hB5 := below_then hB4 hB4.size hb5
    clear hb5 hqb hB4 hP hO4
    go_wp2_with fail
    go_loopg [15] l.length (fun gk i wx => ∃ (k : Nat) (L : List (Int × Int)), Aside (gk + k = l.length) ∧ i = .int .i64 k ∧ Below w.heap.size w wx ∧ Aside (L.length = l.length ∧ ∀ j, k ≤ j → L.getD j (0, 0) = l.getD j (0, 0)) ∧ OwnP wx A' w1.heap.size p L ∧ IsPrec wx p n l ∧ IsRef wx q n l)
    case atStart => exact ⟨0, l, (rfl : l.length + 0 = l.length), rfl, hB5, ⟨rfl, fun _ _ => rfl⟩, hO5, hP5, hQ⟩
    case round =>
      clear hB5 hO5 hP5 hQ
      obtain ⟨k, L, hgk, rfl, hB, hL, hO, hP, hQ⟩ := hrel
      have hk : k ≤ l.length := by have := hgk.out; omega
      by_cases hlt : k < l.length
      · obtain ⟨b, off, x, y, rfl, hxy, hx, hy⟩ := (hl.kept hB).at_ hlt
        have hkL : k < L.length := by rw [hL.out.1]; exact hlt
        obtain ⟨gb, rfl, hg1, hg2, hc⟩ := hO (by omega)
        obtain ⟨c1, c2, f1, f2⟩ := hc k hkL
        rw [hL.out.2 k (Nat.le_refl _), hxy] at c1 c2
        have HX := Lib.hid hxy
        have hneq := neq_pair x y x y
        clear hc hxy
        go_wp2_with fail
        go_quiet (fail)
        clear hneq
        go_wp2_with fail
        go_roundg (l.length - (k + 1))
        case measure => have := hgk.out; omega
        case rel =>
          refine ⟨k + 1, L.set k (0, 1), by have := hgk.out; show _ = _; omega, by go_num, ?_, ?_, ?_, ?_, ?_⟩
          · exact below_set (below_set (below_drawN hB nq) (Nat.le_trans hlo hg1) _) (Nat.le_trans hlo hg1) _
          · refine ⟨by rw [List.length_set]; exact hL.out.1, fun j hj => ?_⟩
            rw [← hL.out.2 j (by omega)]
            simp [List.getD_eq_getElem?_getD, List.getElem?_set_ne (show k ≠ j by omega)]
          · exact (hO.drew nq).set hkL 0 1
          · exact hP.frame ((heap_set_far (by show p ≠ gb; omega)).trans (heap_set_far (w := wr.drewN nq) (by show p ≠ gb; omega)))
          · exact hQ.frame fun i hi => (heap_set_far (by show i ≠ gb; omega)).trans (heap_set_far (w := wr.drewN nq) (by show i ≠ gb; omega))
      · have hkl : k = l.length := by omega
        have hlen := hL.out.1
        have HKL := Lib.hid hkl
        have HLEN := Lib.hid hlen
        clear hkl hlen hL hO
        obtain ⟨N, rfl⟩ := Int.eq_ofNat_of_zero_le (perr_zero.1 HP.out).1.1
        have hN : (N : Int) ≤ 128 := (perr_zero.1 HP.out).1.2
        go_wp2_with fail
        go_loopg [16] (N + 2) (fun gk i wx => ∃ c : Nat, Aside (gk + c = N + 2) ∧ i = .int .i64 ((c : Int) - 1) ∧ Below w.heap.size w wx ∧ IsPrec wx p N l ∧ IsRef wx q N l)
        case atStart => exact ⟨0, (rfl : N + 2 + 0 = N + 2), rfl, hB, hP, hQ⟩
        case round =>
          clear hB hP hQ
          obtain ⟨c, hgc, rfl, hB, hP, hQ⟩ := hrel
          have hc : c ≤ N + 2 := by have := hgc.out; omega
          by_cases hcN : c < N + 2
          · have c1 : (c : Int) - 1 ≤ N := by omega
            go_wp2_with fail
            obtain ⟨wo, rfl⟩ : ∃ wo : World, wo = wr := ⟨_, rfl⟩
            go_loopg [17] (N + 2) (fun gk i wx => ∃ d : Nat, Aside (gk + d = N + 2) ∧ i = .int .i64 ((d : Int) - 1) ∧ Below w.heap.size w wx ∧ IsPrec wx p N l ∧ IsRef wx q N l)
            case atStart => exact ⟨0, (rfl : N + 2 + 0 = N + 2), rfl, hB, hP, hQ⟩
            case round =>
              clear hB hP hQ
              obtain ⟨d, hgd, rfl, hB, hP, hQ⟩ := hrel
              have hd : d ≤ N + 2 := by have := hgd.out; omega
              by_cases hdN : d < N + 2
              · have d1 : (d : Int) - 1 ≤ N := by omega
                go_wp2_with fail
                refine (above_any p N l _ _ wr hP).mono ?_
                rintro e w6 ⟨rfl, hb6⟩
                have hB6 := below_then hB hB.size hb6
                have hQ6 := hQ.kept hb6
                have hP6 := hP.kept hb6
                go_wp2_with fail
                refine (refabove_any q N l _ _ w6 hQ6).mono ?_
                rintro e w7 ⟨rfl, rfl⟩
                go_wp2_with fail
                go_roundg (N + 2 - (d + 1))
                case measure => have := hgd.out; omega
                case rel => exact ⟨d + 1, by have := hgd.out; show _ = _; omega, by go_num, hB6, hP6, hQ6⟩
              · have d1 : ¬ ((d : Int) - 1 ≤ N) := by omega
                go_wp2_with fail
                go_roundg (N + 2 - (c + 1))
                case measure => have := hgc.out; omega
                case rel => exact ⟨c + 1, by have := hgc.out; show _ = _; omega, by go_num, hB, hP, hQ⟩
          · have c1 : ¬ ((c : Int) - 1 ≤ N) := by omega
            go_wp2_with fail
            refine (above_any p N l f g wr hP).mono ?_
            rintro e w6 ⟨rfl, hb6⟩
            have hB6 := below_then hB hB.size hb6
            have hQ6 := hQ.kept hb6
            go_wp2_with fail
            refine (refabove_any q N l f g w6 hQ6).mono ?_
            rintro e w7 ⟨rfl, rfl⟩
            go_wp2_with fail
            go_ret
            exact ⟨by first | rfl | simp, hB6⟩
  · have HP := Lib.hid hp
    clear hp
    refine (close_err n A' l _ c' w3 rfl hOP _ rfl HP.out).mono ?_
    rintro e w4 ⟨rfl, hb4⟩
    have hB4 := below_then hBw3 hBw3.size hb4
    have hO4 := hO.kept hb4
    clear hb4 hO hOP hl3 hBw3
    go_wp2_with fail
    refine (ref_err n A l _ cap w4 rfl (hl.kept hB4) _ rfl HP.out).mono ?_
    rintro e w5 ⟨rfl, hb5⟩
    have hO5 := hO4.kept hb5
    have hB5 := below_then hB4 hB4.size hb5
    clear hb5 hB4 hO4 HP
    generalize perr n l = x at *
    generalize w3.heap.size = p at *
    go_wp2_with fail
    go_loopg [15] l.length (fun gk i wx => ∃ (k : Nat) (L : List (Int × Int)), Aside (gk + k = l.length) ∧ i = .int .i64 k ∧ Below w.heap.size w wx ∧ Aside (L.length = l.length ∧ ∀ j, k ≤ j → L.getD j (0, 0) = l.getD j (0, 0)) ∧ OwnP wx A' w1.heap.size p L)
    case atStart => exact ⟨0, l, (rfl : l.length + 0 = l.length), rfl, hB5, ⟨rfl, fun _ _ => rfl⟩, hO5⟩
    case round =>
      clear hB5 hO5
      obtain ⟨k, L, hgk, rfl, hB, hL, hO⟩ := hrel
      have hk : k ≤ l.length := by have := hgk.out; omega
      by_cases hlt : k < l.length
      · obtain ⟨b, off, x, y, rfl, hxy, hx, hy⟩ := (hl.kept hB).at_ hlt
        have hkL : k < L.length := by rw [hL.out.1]; exact hlt
        obtain ⟨gb, rfl, hg1, hg2, hc⟩ := hO (by omega)
        obtain ⟨c1, c2, f1, f2⟩ := hc k hkL
        rw [hL.out.2 k (Nat.le_refl _), hxy] at c1 c2
        have HX := Lib.hid hxy
        have hneq := neq_pair x y x y
        clear hc hxy
        go_wp2_with fail
        go_quiet (fail)
        clear hneq
        go_wp2_with fail
        go_roundg (l.length - (k + 1))
        case measure => have := hgk.out; omega
        case rel =>
          refine ⟨k + 1, L.set k (0, 1), by have := hgk.out; show _ = _; omega, by go_num, ?_, ?_, (hO.drew nq).set hkL 0 1⟩
          · exact below_set (below_set (below_drawN hB nq) (Nat.le_trans hlo hg1) _) (Nat.le_trans hlo hg1) _
          · refine ⟨by rw [List.length_set]; exact hL.out.1, fun j hj => ?_⟩
            rw [← hL.out.2 j (by omega)]
            simp [List.getD_eq_getElem?_getD, List.getElem?_set_ne (show k ≠ j by omega)]
      · have hkl : k = l.length := by omega
        have HKL := Lib.hid hkl
        clear hkl hL hO
        go_wp2_with fail
        go_ret
        exact ⟨rfl, hB⟩
end Go.Proofs.Ytgodkmenemlccaa
