/- The walk of PrecAlone: for every number of symbols, all pairs and any number it answers true. Conditions: at most 1048576 pairs. -/
import Derived.Test.YtgodkmenemlccaaPrecD
import Derived.Deep.RegionWith
set_option linter.unusedVariables false
set_option linter.unusedSimpArgs false
namespace Go.Proofs.Ytgodkmenemlccaa
open Go.RowKit

theorem infoPairA : (Try.prog.info? 31).map (fun i => (i.zero, i.size, i.bytes)) = some (some (.agg #[.int .i64 0, .int .i64 0]), 2, 16) := by kernel_rfl
theorem pair_oneA (x y : Int) : ∀ u ∈ [Value.int .i64 x, Value.int .i64 y], u.oneCell' = true := by intro u hu; simp at hu; rcases hu with rfl | rfl <;> rfl
theorem pair_cellsA (w : World) (x y : Int) (T : TypeId) (n : Nat) (hn : n = w.heap.size) : ∀ j u, [Value.int .i64 x, Value.int .i64 y][j]? = some u → (w.alloc (.cells #[.int .i64 x, .int .i64 y] T)).cell? ⟨n, 0 + j, none⟩ = some u := by
  intro j u hj
  subst hn
  rw [World.cell?_alloc_new]
  cases j with
  | zero => simpa using hj
  | succ j => cases j with
    | zero => simpa using hj
    | succ j => simp at hj

theorem up_congr {l m : List (Int × Int)} (h : ∀ p, p ∈ l ↔ p ∈ m) (a b : Int) : up l a b = up m a b := by
  rw [Bool.eq_iff_iff, up_iff, up_iff]
  exact ⟨fun k => k.sub fun p hp => (h p).1 hp, fun k => k.sub fun p hp => (h p).2 hp⟩
theorem perr_congr {n : Int} {l m : List (Int × Int)} (h : ∀ p, p ∈ l ↔ p ∈ m) : perr n l = perr n m := by
  have hg : allGood n l ↔ allGood n m := ⟨fun k p hp => k p ((h p).2 hp), fun k p hp => k p ((h p).1 hp)⟩
  have hc : Cyclic l ↔ Cyclic m := ⟨fun ⟨x, hx⟩ => ⟨x, hx.sub fun p hp => (h p).1 hp⟩, fun ⟨x, hx⟩ => ⟨x, hx.sub fun p hp => (h p).2 hp⟩⟩
  unfold perr
  rw [show allGood n l = allGood n m from propext hg, show Cyclic l = Cyclic m from propext hc]
theorem perr_less {n : Int} {l m : List (Int × Int)} (h : ∀ p ∈ m, p ∈ l) (h0 : perr n l = 0) : perr n m = 0 := by
  obtain ⟨h1, h2, h3⟩ := perr_zero.1 h0
  exact perr_zero.2 ⟨h1, fun p hp => h2 p (h p hp), fun ⟨x, hx⟩ => h3 ⟨x, hx.sub h⟩⟩
theorem up_less {l m : List (Int × Int)} (h : ∀ p ∈ m, p ∈ l) {a b : Int} (hu : up m a b = true) : up l a b = true := up_iff.2 ((up_iff.1 hu).sub h)
theorem perr_more {n : Int} {l m : List (Int × Int)} (h : ∀ p ∈ m, TC l p.1 p.2) (h0 : perr n l = 0) : perr n m = 0 := by
  obtain ⟨h1, h2, h3⟩ := perr_zero.1 h0
  refine perr_zero.2 ⟨h1, fun p hp => ?_, fun ⟨x, hx⟩ => h3 ⟨x, hx.mono h⟩⟩
  have := (h p hp).range h2
  unfold badPair; omega
theorem up_more {l m : List (Int × Int)} (h : ∀ p ∈ m, TC l p.1 p.2) (h' : ∀ p ∈ l, p ∈ m) (a b : Int) : up m a b = up l a b := by
  rw [Bool.eq_iff_iff, up_iff, up_iff]
  exact ⟨fun k => k.mono h, fun k => k.sub h'⟩

theorem IsPrec.same {w : World} {b : Nat} {n : Int} {l m : List (Int × Int)} (h : IsPrec w b n m) (h0 : perr n l = 0) (ht : ∀ a b, TC m a b ↔ TC l a b) : IsPrec w b n l := by
  obtain ⟨D, h1, h2, h3, h4, h5⟩ := h
  exact ⟨D, h1, (perr_zero.1 h0).2.1, h3, h4, fun f g => (h5 f g).trans (ht _ _)⟩
theorem Pairs.take {w : World} {A : Option Addr} {l : List (Int × Int)} (h : Pairs w A l) (k : Nat) : Pairs w A (l.take k) := by
  have hlen : (l.take k).length ≤ l.length := by simp; omega
  refine ⟨Nat.le_trans hlen h.1, fun h0 => ?_⟩
  obtain ⟨b, off, hA, hc⟩ := h.2 (by omega)
  refine ⟨b, off, hA, fun j hj => ?_⟩
  have e : (l.take k).getD j (0, 0) = l.getD j (0, 0) := by
    simp only [List.getD_eq_getElem?_getD]
    rw [List.getElem?_take_of_lt (by simp at hj; omega)]
  rw [e]
  exact hc j (by omega)
theorem rev_getD (l : List (Int × Int)) (j : Nat) (hj : j + 1 ≤ l.length) : l.reverse.getD (l.length - (j + 1)) (0, 0) = l.getD j (0, 0) := by
  simp only [List.getD_eq_getElem?_getD]
  rw [List.getElem?_reverse (by omega)]
  congr 2
  omega

theorem IsPrec.lt {w : World} {b : Nat} {n : Int} {l : List (Int × Int)} (h : IsPrec w b n l) : b < w.heap.size := by
  obtain ⟨D, h1, _⟩ := h
  exact h1.lt
theorem below_to {A B : Nat} {w w1 w2 : World} (h : Below A w w1) (k : Below B w1 w2) (hAB : A ≤ B) : Below A w w2 :=
  h.trans ⟨k.os, k.tape, k.output, k.size, fun i hi => k.block i (Nat.lt_of_lt_of_le hi hAB)⟩
theorem below_pushed {B : Nat} {w w9 : World} {o : Obj} {row : Option Nat} (hB : B ≤ w.heap.size) (hg : (w.alloc o).grownBy w9 row) (hr : ∀ k, row = some k → B ≤ k) : Below B w w9 :=
  (below_alloc (Below.refl B w) hB o).grown hg (by simp; omega) hr

set_option maxRecDepth 100000 in
set_option maxHeartbeats 8000000 in
theorem precAlone_walk (n : Int) (A : Option Addr) (l : List (Int × Int)) (cap : Nat) (at0 : Int) (w : World) (hl : Pairs w A l) (hn : A = none → l.length = 0 ∧ cap = 0) (hcap : l.length ≤ cap) (hr : l.length ≤ 1048576) (ha : -9223372036854775808 ≤ at0 ∧ at0 ≤ 9223372036854775807) :
    Calls Try.prog 5 #[.int .i64 n, .slice A l.length cap, .int .i64 at0] w fun e w' => e = .returned (.bool true) ∧ Below w.heap.size w w' := by
  obtain ⟨ha1, ha2⟩ := ha
  go_enter Try.func5, Try.ntmps5
  go_wp2_with fail
  refine (shown_any _).mono ?_
  rintro e w1 ⟨rfl, hB⟩
  go_wp2_with fail
  obtain ⟨w2, hw2⟩ : ∃ x, x = w1.alloc (.cells #[] 31) := ⟨_, rfl⟩
  have ho2 := own_empty w1 31 2 w1.heap.size rfl
  rw [← hw2] at ho2 ⊢
  have hB2 : Below w1.heap.size w1 w2 := by rw [hw2]; exact below_alloc0 _ _
  have hlo := hB.size
  clear hw2
  obtain ⟨b1, hb1⟩ : ∃ b, b = w1.heap.size := ⟨_, rfl⟩
  rw [← hb1] at ho2 hlo hB2 ⊢
  have hBw : Below w.heap.size w w2 := below_then hB (by rw [hb1] at hlo; exact hlo) (by rw [← hb1]; exact hB2)
  have hlb : b1 ≤ w2.heap.size := by rw [hb1]; exact (by rw [← hb1]; exact Nat.le_trans (Nat.le_of_eq hb1) hB2.size)
  clear hB hB2 hb1
  go_loopg [8, 9] l.length (fun gk v i wx => ∃ j : Nat, gk = j ∧ Aside (j ≤ l.length) ∧ i = .int .i64 ((j : Int) - 1) ∧ Below w.heap.size w wx ∧ b1 ≤ wx.heap.size ∧ wx.ownsRow b1 31 2 v (l.length - j) (pcells (l.reverse.take (l.length - j))))
  case atStart => exact ⟨l.length, rfl, Nat.le_refl _, rfl, hBw, hlb, by simpa [pcells] using ho2⟩
  case round =>
    clear hBw hlb ho2
    obtain ⟨j, hgk, hj, rfl, hB, hlb, hown⟩ := hrel
    subst hgk
    cases gk with
    | succ j =>
      have hj' : j + 1 ≤ l.length := hj
      have e : ((j + 1 : Nat) : Int) - 1 = (j : Int) := by omega
      rw [e]
      obtain ⟨b, off, x, y, rfl, hxy, hx, hy⟩ := (hl.kept hB).at_ (show j < l.length by omega)
      have HX := Lib.hid hxy
      clear e hxy
      go_wp2_with (at_builtin; refine push (.tmp 34) (.tmp 39) 22 31 (.agg #[.int .i64 0, .int .i64 0]) 2 16 rfl rfl Try.underlying22 infoPairA rfl (by decide) (by decide) b1 u8 _ _ [.int .i64 x, .int .i64 y] rfl (hown.alloc _) _ 0 1 rfl rfl (pair_cellsA _ _ _ _ _ rfl) (pair_oneA _ _) (by omega) (by simp; omega) ?_; intro g2 cap2 w4 ho4 hg4 ha4 hlt4)
      go_roundg j
      case measure => omega
      case rel =>
        have hB4 : Below w.heap.size w w4 := (below_alloc hB hB.size _).grown hg4 (by have := hB.size; simp; omega) (fun k hk => Nat.le_trans hlo (own_base hown k hk))
        refine ⟨j, rfl, by show j ≤ _; omega, by go_num, hB4, by have := hg4.size; simp at this; omega, ?_⟩
        have e1 : l.length - j = l.length - (j + 1) + 1 := by omega
        rw [e1, take_succ' l.reverse (0, 0) (by simp; omega), pcells_append, rev_getD l j hj', HX.out]
        exact ho4
    | zero =>
      have hownr : wr.ownsRow b1 31 2 u8 l.reverse.length (pcells l.reverse) := by
        rw [List.take_of_length_le (by simp)] at hown; rw [List.length_reverse]; exact hown
      obtain ⟨Ab, cb, rfl, hnb, hPb⟩ := own_pairs hownr
      rw [List.length_reverse] at hnb ⊢
      clear hown hownr hj hlb
      have HSAME : Hid (∀ p, p ∈ l ↔ p ∈ l.reverse ++ l) := Lib.hid (fun p => by simp)
      by_cases hp : perr n l = 0
      · have HP := Lib.hid hp
        clear hp
        go_wp2_with fail
        refine (close_ok n A l _ cap wr rfl (hl.kept hB) HP.out).mono ?_
        rintro e w2 ⟨rfl, hb2, hP⟩
        obtain ⟨p, hpb⟩ : ∃ p, p = wr.heap.size := ⟨_, rfl⟩
        rw [← hpb] at hP ⊢
        have hB2 := below_then hB hB.size hb2
        have hl2 := hl.kept hB2
        have hPb2 := hPb.kept hb2
        clear hb2 hpb hB hPb
        have ho0 := own_empty w2 31 2 w2.heap.size rfl
        have hBe := below_alloc0 w2 (.cells #[] 31)
        go_wp2_with (first
        | (at_builtin; refine push_all (.tmp 49) (.tmp 50) 22 31 (.agg #[.int .i64 0, .int .i64 0]) 2 16 rfl rfl Try.underlying22 infoPairA rfl (by decide) (by decide) w2.heap.size _ 0 [] (pcells l.reverse) rfl ho0 Ab l.length cb rfl hnb (by rw [pcells_length, List.length_reverse]) (by intro h0; exact (hPb2.kept hBe).cells (by rw [List.length_reverse]; exact h0)) (pcells_one _) (by omega) (by simp) ?_; intro v1 w3 ho1 hg1 ha1; simp only [Nat.zero_add, List.nil_append] at ho1)
        | (at_builtin; refine push_all (.tmp 51) (.tmp 52) 22 31 (.agg #[.int .i64 0, .int .i64 0]) 2 16 rfl rfl Try.underlying22 infoPairA rfl (by decide) (by decide) w2.heap.size v1 l.length (pcells l.reverse) (pcells l) rfl ho1 A l.length cap rfl hn (pcells_length l) (hl2.grown hBe hg1 ho0 (Nat.le_refl _)).cells (pcells_one l) (by omega) (by have := hg1.size; simp at this; omega) ?_; intro v2 w4 ho2 hg2 ha2))
        have hlenR : l.reverse.length = l.length := List.length_reverse
        have ho3 : w4.ownsRow w2.heap.size 31 2 v2 (l.reverse ++ l).length (pcells (l.reverse ++ l)) := by rw [List.length_append, hlenR, pcells_append]; exact ho2
        obtain ⟨A2, c2, rfl, _, hPs⟩ := own_pairs ho3
        have hlen2 : (l.reverse ++ l).length = l.length + l.length := by simp
        have hB3 : Below w2.heap.size w2 w3 := hBe.grown hg1 (by simp) (fun k hk => own_base ho0 k hk)
        have hB4 : Below w2.heap.size w2 w4 := hB3.grown hg2 hB3.size (fun k hk => own_base ho1 k hk)
        have hB5 := below_then hB2 hB2.size hB4
        have hP4 := hP.kept hB4
        have hl4 := hl2.kept hB4
        have HL2 := Lib.hid hlen2
        clear hlenR ho0 ho1 ho2 ho3 hg1 hg2 ha1 ha2 hB3 hB4 hB2 hP hl2 hPb2 hBe hlen2
        refine (close_ok n A2 (l.reverse ++ l) _ c2 w4 rfl hPs (by rw [← perr_congr HSAME.out]; exact HP.out)).mono ?_
        rintro e w5 ⟨rfl, hb5, hQ⟩
        obtain ⟨q, hqb⟩ : ∃ p, p = w4.heap.size := ⟨_, rfl⟩
        rw [← hqb] at hQ ⊢
        have hQ := hQ.same (l := l) HP.out (fun a b => ⟨fun k => k.sub fun p hp => (HSAME.out p).2 hp, fun k => k.sub fun p hp => (HSAME.out p).1 hp⟩)
        have hP5 := hP4.kept hb5
        have hB6 := below_then hB5 hB5.size hb5
        have hl5 := hl4.kept hb5
        clear hb5 hqb hP4 hB5 hPs hl4
        go_upto_if 78 with (fail)
        go_cut [2] (fun v wx => ∃ m : Nat, v = .int .i64 m ∧ Aside (m ≤ 9223372036854775807) ∧ w5 = wx)
        case first =>
          by_cases hneg : at0 < 0
          · go_wp2_with fail
            go_meet
            case rel => exact ⟨(-(at0 + 1)).toNat, by congr 1; omega, by show _ ≤ _; omega, rfl⟩
          · go_wp2_with fail
            go_meet
            case rel => exact ⟨at0.toNat, by congr 1; omega, by show _ ≤ _; omega, rfl⟩
        case rest =>
          obtain ⟨m, rfl, hm, rfl⟩ := hcut
          have hm' : m ≤ 9223372036854775807 := hm.out
          obtain ⟨K, hK⟩ : ∃ K : Nat, (m : Int) % ((l.length : Int) + 1) = (K : Int) := ⟨m % (l.length + 1), by rw [Int.natCast_emod]; simp⟩
          have hK1 : K ≤ l.length := by have := Int.emod_lt_of_pos (m : Int) (show (0 : Int) < (l.length : Int) + 1 by omega); omega
          have hK2 : K ≤ cap := by omega
          have hrem : ((m : Int) % ((l.length : Int) + 1)) = (K : Int) := hK
          go_wp2_with fail
          have hKL : (l.take K).length = K := by simp; omega
          refine (close_ok n A (l.take K) K cap w5 hKL (hl5.take K) (perr_less (fun p hp => List.mem_of_mem_take hp) HP.out)).mono ?_
          rintro e w6 ⟨rfl, hb6, hR⟩
          obtain ⟨rp, hrb⟩ : ∃ p, p = w5.heap.size := ⟨_, rfl⟩
          rw [← hrb] at hR ⊢
          have hP6 := hP5.kept hb6
          have hQ6 := hQ.kept hb6
          have hB7 := below_then hB6 hB6.size hb6
          have hl6 := hl5.kept hb6
          obtain ⟨b3, hb3⟩ : ∃ b, b = w6.heap.size := ⟨_, rfl⟩
          have ho0 := own_empty w6 31 2 b3 hb3
          have hBe := below_alloc0 w6 (.cells #[] 31)
          have hlo3 : w.heap.size ≤ b3 := by rw [hb3]; exact hB7.size
          have hpq : p < b3 ∧ q < b3 ∧ rp < b3 := ⟨by rw [hb3]; exact hP6.lt, by rw [hb3]; exact hQ6.lt, by rw [hb3]; exact hR.lt⟩
          have HPQ := Lib.hid hpq
          clear hpq
          have hb3' := Lib.hid hb3
          rw [hb3] at ho0
          clear hb6 hrb hP5 hB6 hl5 hQ hK hrem hKL hm hm' hb3
          go_wp2_with (at_builtin; refine push_all (.tmp 100) (.tmp 101) 22 31 (.agg #[.int .i64 0, .int .i64 0]) 2 16 rfl rfl Try.underlying22 infoPairA rfl (by decide) (by decide) w6.heap.size _ 0 [] (pcells l) rfl ho0 A l.length cap rfl hn (pcells_length l) (hl6.kept hBe).cells (pcells_one l) (by omega) (by simp) ?_; intro v16 w7 ho7 hg7 ha7; simp only [Nat.zero_add, List.nil_append] at ho7)
          have hB8 : Below w6.heap.size w6 w7 := hBe.grown hg7 (by simp) (fun k hk => own_base ho0 k hk)
          have hP7 := hP6.kept hB8
          have hQ7 := hQ6.kept hB8
          have hR7 := hR.kept hB8
          have hB9 := below_then hB7 hB7.size hB8
          have hsz7 : b3 ≤ w7.heap.size := by rw [hb3'.out]; exact hB8.size
          rw [← hb3'.out] at ho7
          clear hP6 hQ6 hR hB7 hB8 hg7 ha7 ho0 hBe hl6
          obtain ⟨N, rfl⟩ := Int.eq_ofNat_of_zero_le (perr_zero.1 HP.out).1.1
          have hN : (N : Int) ≤ 128 := (perr_zero.1 HP.out).1.2
          have HSUB : Hid (∀ a b, up (l.take K) a b = true → up l a b = true) := Lib.hid (fun a b h => up_less (fun p hp => List.mem_of_mem_take hp) h)
          go_loopg [16, 17] N (fun gk v i wx => ∃ (c : Nat) (M : List (Int × Int)), Aside (gk + c = N) ∧ i = .int .i64 c ∧ Below w.heap.size w wx ∧ IsPrec wx p N l ∧ IsPrec wx q N l ∧ IsPrec wx rp N (l.take K) ∧ b3 ≤ wx.heap.size ∧ wx.ownsRow b3 31 2 v M.length (pcells M) ∧ M.length ≤ l.length + c * 128 ∧ Aside ((∀ p ∈ l, p ∈ M) ∧ ∀ p ∈ M, TC l p.1 p.2))
          case atStart => exact ⟨0, l, (rfl : N + 0 = N), rfl, hB9, hP7, hQ7, hR7, hsz7, ho7, by omega, ⟨fun _ h => h, fun _ h => .one h⟩⟩
          case round =>
            clear hB9 hP7 hQ7 hR7 hsz7 ho7
            obtain ⟨c, M, hgc, rfl, hB, hP, hQ, hR, hsz, hM, hMl, hMM⟩ := hrel
            have hc : c ≤ N := by have := hgc.out; omega
            by_cases hcN : c < N
            · go_wp2_with fail
              obtain ⟨wo, rfl⟩ : ∃ wo : World, wo = wr := ⟨_, rfl⟩
              go_loopg [16, 18] N (fun gk v i wx => ∃ (d : Nat) (M : List (Int × Int)), Aside (gk + d = N) ∧ i = .int .i64 d ∧ Below w.heap.size w wx ∧ IsPrec wx p N l ∧ IsPrec wx q N l ∧ IsPrec wx rp N (l.take K) ∧ b3 ≤ wx.heap.size ∧ wx.ownsRow b3 31 2 v M.length (pcells M) ∧ M.length ≤ l.length + c * 128 + d ∧ Aside ((∀ p ∈ l, p ∈ M) ∧ ∀ p ∈ M, TC l p.1 p.2))
              case atStart => exact ⟨0, M, (rfl : N + 0 = N), rfl, hB, hP, hQ, hR, hsz, hM, by omega, hMM⟩
              case round =>
                clear hB hP hQ hR hsz hM hMl hMM M
                obtain ⟨d, M, hgd, rfl, hB, hP, hQ, hR, hsz, hM, hMl, hMM⟩ := hrel
                have hd : d ≤ N := by have := hgd.out; omega
                by_cases hdN : d < N
                · cases hu : up l c d with
                  | false =>
                    have hr0 : up (l.take K) c d = false := by
                      cases h : up (l.take K) c d with
                      | false => rfl
                      | true => rw [HSUB.out _ _ h] at hu; cases hu
                    go_wp2_with (first
              | (go_at_call_of 11 p; refine (above_any p N l _ _ _ (by assumption)).mono ?_; rintro e w' ⟨rfl, hb⟩; have hP' := IsPrec.kept (b := p) (n := N) (l := l) (by assumption) hb; have hQ' := IsPrec.kept (b := q) (n := N) (l := l) (by assumption) hb; have hR' := IsPrec.kept (b := rp) (n := N) (l := l.take K) (by assumption) hb; have hB' := below_then (B := w.heap.size) (w := w) (by assumption) (Below.size (B := w.heap.size) (w := w) (by assumption)) hb; have hM' := own_kept (base := b3) (v := u16) (xs := pcells M) (by assumption) hb; have hs' := Nat.le_trans (show b3 ≤ _ by assumption) hb.size)
              | (go_at_call_of 11 q; refine (above_any q N l _ _ _ (by assumption)).mono ?_; rintro e w' ⟨rfl, hb⟩; have hP' := IsPrec.kept (b := p) (n := N) (l := l) (by assumption) hb; have hQ' := IsPrec.kept (b := q) (n := N) (l := l) (by assumption) hb; have hR' := IsPrec.kept (b := rp) (n := N) (l := l.take K) (by assumption) hb; have hB' := below_then (B := w.heap.size) (w := w) (by assumption) (Below.size (B := w.heap.size) (w := w) (by assumption)) hb; have hM' := own_kept (base := b3) (v := u16) (xs := pcells M) (by assumption) hb; have hs' := Nat.le_trans (show b3 ≤ _ by assumption) hb.size)
              | (go_at_call_of 11 rp; refine (above_any rp N (l.take K) _ _ _ (by assumption)).mono ?_; rintro e w' ⟨rfl, hb⟩; have hP' := IsPrec.kept (b := p) (n := N) (l := l) (by assumption) hb; have hQ' := IsPrec.kept (b := q) (n := N) (l := l) (by assumption) hb; have hR' := IsPrec.kept (b := rp) (n := N) (l := l.take K) (by assumption) hb; have hB' := below_then (B := w.heap.size) (w := w) (by assumption) (Below.size (B := w.heap.size) (w := w) (by assumption)) hb; have hM' := own_kept (base := b3) (v := u16) (xs := pcells M) (by assumption) hb; have hs' := Nat.le_trans (show b3 ≤ _ by assumption) hb.size)
              )
                    go_roundg (N - (d + 1))
                    case measure => have := hgd.out; omega
                    case rel => exact ⟨d + 1, M, by have := hgd.out; show _ = _; omega, by go_num, by assumption, by assumption, by assumption, by assumption, by assumption, by assumption, by omega, hMM⟩
                  | true =>
                    have hTC := Lib.hid (up_iff.1 hu)
                    cases hr0 : up (l.take K) c d with
                    | false =>
                      go_wp2_with (first
              | (go_at_call_of 11 p; refine (above_any p N l _ _ _ (by assumption)).mono ?_; rintro e w' ⟨rfl, hb⟩; have hP' := IsPrec.kept (b := p) (n := N) (l := l) (by assumption) hb; have hQ' := IsPrec.kept (b := q) (n := N) (l := l) (by assumption) hb; have hR' := IsPrec.kept (b := rp) (n := N) (l := l.take K) (by assumption) hb; have hB' := below_then (B := w.heap.size) (w := w) (by assumption) (Below.size (B := w.heap.size) (w := w) (by assumption)) hb; have hM' := own_kept (base := b3) (v := u16) (xs := pcells M) (by assumption) hb; have hs' := Nat.le_trans (show b3 ≤ _ by assumption) hb.size)
              | (go_at_call_of 11 q; refine (above_any q N l _ _ _ (by assumption)).mono ?_; rintro e w' ⟨rfl, hb⟩; have hP' := IsPrec.kept (b := p) (n := N) (l := l) (by assumption) hb; have hQ' := IsPrec.kept (b := q) (n := N) (l := l) (by assumption) hb; have hR' := IsPrec.kept (b := rp) (n := N) (l := l.take K) (by assumption) hb; have hB' := below_then (B := w.heap.size) (w := w) (by assumption) (Below.size (B := w.heap.size) (w := w) (by assumption)) hb; have hM' := own_kept (base := b3) (v := u16) (xs := pcells M) (by assumption) hb; have hs' := Nat.le_trans (show b3 ≤ _ by assumption) hb.size)
              | (go_at_call_of 11 rp; refine (above_any rp N (l.take K) _ _ _ (by assumption)).mono ?_; rintro e w' ⟨rfl, hb⟩; have hP' := IsPrec.kept (b := p) (n := N) (l := l) (by assumption) hb; have hQ' := IsPrec.kept (b := q) (n := N) (l := l) (by assumption) hb; have hR' := IsPrec.kept (b := rp) (n := N) (l := l.take K) (by assumption) hb; have hB' := below_then (B := w.heap.size) (w := w) (by assumption) (Below.size (B := w.heap.size) (w := w) (by assumption)) hb; have hM' := own_kept (base := b3) (v := u16) (xs := pcells M) (by assumption) hb; have hs' := Nat.le_trans (show b3 ≤ _ by assumption) hb.size)
              | (at_builtin; refine push (.tmp 139) (.tmp 143) 22 31 (.agg #[.int .i64 0, .int .i64 0]) 2 16 rfl rfl Try.underlying22 infoPairA rfl (by decide) (by decide) b3 u16 M.length (pcells M) [.int .i64 (c : Int), .int .i64 (d : Int)] rfl (World.ownsRow.alloc (by assumption) _) _ 0 1 rfl rfl (pair_cellsA _ _ _ _ _ rfl) (pair_oneA _ _) (by omega) (by simp; exact Nat.le_succ_of_le (by assumption)) ?_; intro g9 cap9 w9 ho9 hg9 ha9 hlt9; have hk9 := below_pushed (B := b3) hs' hg9 (fun k hk => own_base hM' k hk); have hB9 : Below w.heap.size w w9 := below_to hB' hk9 hlo3; have hs9 : b3 ≤ w9.heap.size := Nat.le_trans hs' hk9.size; have hP9 := hP'.frame (hk9.block p HPQ.out.1); have hQ9 := hQ'.frame (hk9.block q HPQ.out.2.1); have hR9 := hR'.frame (hk9.block rp HPQ.out.2.2)))
                      go_roundg (N - (d + 1))
                      case measure => have := hgd.out; omega
                      case rel =>
                        exact ⟨d + 1, M ++ [((c : Int), (d : Int))], by have := hgd.out; show _ = _; omega, by go_num, hB9, hP9, hQ9, hR9, hs9, by rw [pcells_append, List.length_append]; exact ho9, by rw [List.length_append]; simp; omega, ⟨fun p hp => List.mem_append_left _ (hMM.out.1 p hp), fun p hp => by
                          rcases List.mem_append.1 hp with h | h
                          · exact hMM.out.2 p h
                          · simp at h; subst h; exact hTC.out⟩⟩
                    | true =>
                      go_wp2_with (first
              | (go_at_call_of 11 p; refine (above_any p N l _ _ _ (by assumption)).mono ?_; rintro e w' ⟨rfl, hb⟩; have hP' := IsPrec.kept (b := p) (n := N) (l := l) (by assumption) hb; have hQ' := IsPrec.kept (b := q) (n := N) (l := l) (by assumption) hb; have hR' := IsPrec.kept (b := rp) (n := N) (l := l.take K) (by assumption) hb; have hB' := below_then (B := w.heap.size) (w := w) (by assumption) (Below.size (B := w.heap.size) (w := w) (by assumption)) hb; have hM' := own_kept (base := b3) (v := u16) (xs := pcells M) (by assumption) hb; have hs' := Nat.le_trans (show b3 ≤ _ by assumption) hb.size)
              | (go_at_call_of 11 q; refine (above_any q N l _ _ _ (by assumption)).mono ?_; rintro e w' ⟨rfl, hb⟩; have hP' := IsPrec.kept (b := p) (n := N) (l := l) (by assumption) hb; have hQ' := IsPrec.kept (b := q) (n := N) (l := l) (by assumption) hb; have hR' := IsPrec.kept (b := rp) (n := N) (l := l.take K) (by assumption) hb; have hB' := below_then (B := w.heap.size) (w := w) (by assumption) (Below.size (B := w.heap.size) (w := w) (by assumption)) hb; have hM' := own_kept (base := b3) (v := u16) (xs := pcells M) (by assumption) hb; have hs' := Nat.le_trans (show b3 ≤ _ by assumption) hb.size)
              | (go_at_call_of 11 rp; refine (above_any rp N (l.take K) _ _ _ (by assumption)).mono ?_; rintro e w' ⟨rfl, hb⟩; have hP' := IsPrec.kept (b := p) (n := N) (l := l) (by assumption) hb; have hQ' := IsPrec.kept (b := q) (n := N) (l := l) (by assumption) hb; have hR' := IsPrec.kept (b := rp) (n := N) (l := l.take K) (by assumption) hb; have hB' := below_then (B := w.heap.size) (w := w) (by assumption) (Below.size (B := w.heap.size) (w := w) (by assumption)) hb; have hM' := own_kept (base := b3) (v := u16) (xs := pcells M) (by assumption) hb; have hs' := Nat.le_trans (show b3 ≤ _ by assumption) hb.size)
              | (at_builtin; refine push (.tmp 139) (.tmp 143) 22 31 (.agg #[.int .i64 0, .int .i64 0]) 2 16 rfl rfl Try.underlying22 infoPairA rfl (by decide) (by decide) b3 u16 M.length (pcells M) [.int .i64 (c : Int), .int .i64 (d : Int)] rfl (World.ownsRow.alloc (by assumption) _) _ 0 1 rfl rfl (pair_cellsA _ _ _ _ _ rfl) (pair_oneA _ _) (by omega) (by simp; exact Nat.le_succ_of_le (by assumption)) ?_; intro g9 cap9 w9 ho9 hg9 ha9 hlt9; have hk9 := below_pushed (B := b3) hs' hg9 (fun k hk => own_base hM' k hk); have hB9 : Below w.heap.size w w9 := below_to hB' hk9 hlo3; have hs9 : b3 ≤ w9.heap.size := Nat.le_trans hs' hk9.size; have hP9 := hP'.frame (hk9.block p HPQ.out.1); have hQ9 := hQ'.frame (hk9.block q HPQ.out.2.1); have hR9 := hR'.frame (hk9.block rp HPQ.out.2.2)))
                      go_roundg (N - (d + 1))
                      case measure => have := hgd.out; omega
                      case rel =>
                        exact ⟨d + 1, M ++ [((c : Int), (d : Int))], by have := hgd.out; show _ = _; omega, by go_num, hB9, hP9, hQ9, hR9, hs9, by rw [pcells_append, List.length_append]; exact ho9, by rw [List.length_append]; simp; omega, ⟨fun p hp => List.mem_append_left _ (hMM.out.1 p hp), fun p hp => by
                          rcases List.mem_append.1 hp with h | h
                          · exact hMM.out.2 p h
                          · simp at h; subst h; exact hTC.out⟩⟩
                · go_wp2_with fail
                  go_roundg (N - (c + 1))
                  case measure => have := hgc.out; omega
                  case rel => exact ⟨c + 1, M, by have := hgc.out; show _ = _; omega, by go_num, hB, hP, hQ, hR, hsz, hM, by omega, hMM⟩
            · obtain ⟨A3, c3, rfl, hn3, hPm⟩ := own_pairs hM
              go_wp2_with fail
              refine (close_ok N A3 M _ c3 wr rfl hPm (perr_more hMM.out.2 HP.out)).mono ?_
              rintro e w8 ⟨rfl, hb8, hS⟩
              obtain ⟨sp, hsb⟩ : ∃ p, p = wr.heap.size := ⟨_, rfl⟩
              rw [← hsb] at hS ⊢
              have hS := hS.same (l := l) HP.out (fun a b => ⟨fun k => k.mono hMM.out.2, fun k => k.sub hMM.out.1⟩)
              have hP8 := hP.kept hb8
              have hB8 := below_then hB hB.size hb8
              clear hb8 hsb hP hQ hR hB hM hPm hMl hsz
              go_wp2_with fail
              go_loopg [21] N (fun gk i wx => ∃ c : Nat, Aside (gk + c = N) ∧ i = .int .i64 c ∧ Below w.heap.size w wx ∧ IsPrec wx p N l ∧ IsPrec wx sp N l)
              case atStart => exact ⟨0, (rfl : N + 0 = N), rfl, hB8, hP8, hS⟩
              case round =>
                clear hB8 hP8 hS hc hcN hgc
                obtain ⟨c, hgc, rfl, hB, hP, hS⟩ := hrel
                have hc : c ≤ N := by have := hgc.out; omega
                by_cases hcN : c < N
                · go_wp2_with fail
                  obtain ⟨wo, rfl⟩ : ∃ wo : World, wo = wr := ⟨_, rfl⟩
                  go_loopg [22] N (fun gk i wx => ∃ d : Nat, Aside (gk + d = N) ∧ i = .int .i64 d ∧ Below w.heap.size w wx ∧ IsPrec wx p N l ∧ IsPrec wx sp N l)
                  case atStart => exact ⟨0, (rfl : N + 0 = N), rfl, hB, hP, hS⟩
                  case round =>
                    clear hB hP hS
                    obtain ⟨d, hgd, rfl, hB, hP, hS⟩ := hrel
                    have hd : d ≤ N := by have := hgd.out; omega
                    by_cases hdN : d < N
                    · cases hu : up l c d <;> (
                        go_wp2_with (first
                  | (go_at_call_of 11 p; refine (above_any p N l _ _ _ (by assumption)).mono ?_; rintro e w' ⟨rfl, hb⟩; have hP' := IsPrec.kept (b := p) (n := N) (l := l) (by assumption) hb; have hS' := IsPrec.kept (b := sp) (n := N) (l := l) (by assumption) hb; have hB' := below_then (B := w.heap.size) (w := w) (by assumption) (Below.size (B := w.heap.size) (w := w) (by assumption)) hb)
                  | (go_at_call_of 11 sp; refine (above_any sp N l _ _ _ (by assumption)).mono ?_; rintro e w' ⟨rfl, hb⟩; have hP' := IsPrec.kept (b := p) (n := N) (l := l) (by assumption) hb; have hS' := IsPrec.kept (b := sp) (n := N) (l := l) (by assumption) hb; have hB' := below_then (B := w.heap.size) (w := w) (by assumption) (Below.size (B := w.heap.size) (w := w) (by assumption)) hb))
                        go_roundg (N - (d + 1))
                        case measure => have := hgd.out; omega
                        case rel => exact ⟨d + 1, by have := hgd.out; show _ = _; omega, by go_num, by assumption, by assumption, by assumption⟩)
                    · go_wp2_with fail
                      go_roundg (N - (c + 1))
                      case measure => have := hgc.out; omega
                      case rel => exact ⟨c + 1, by have := hgc.out; show _ = _; omega, by go_num, hB, hP, hS⟩
                · go_wp2_with fail
                  go_ret
                  exact ⟨rfl, hB⟩
      · have HP := Lib.hid hp
        have HP2 := Lib.hid (show perr n (l.reverse ++ l) ≠ 0 by rw [← perr_congr HSAME.out]; exact hp)
        have HE := Lib.hid (perr_congr (n := n) HSAME.out)
        clear hp
        obtain ⟨x, hx'⟩ : ∃ x, x = perr n l := ⟨_, rfl⟩
        have hx := Lib.hid hx'
        clear hx'
        go_wp2_with fail
        refine (close_err n A l _ cap wr rfl (hl.kept hB) x hx.out.symm (by rw [hx.out]; exact HP.out)).mono ?_
        rintro e w2 ⟨rfl, hb2⟩
        have hB2 := below_then hB hB.size hb2
        have hl2 := hl.kept hB2
        have hPb2 := hPb.kept hb2
        clear hb2 hB hPb
        have ho0 := own_empty w2 31 2 w2.heap.size rfl
        have hBe := below_alloc0 w2 (.cells #[] 31)
        go_wp2_with (first
        | (at_builtin; refine push_all (.tmp 49) (.tmp 50) 22 31 (.agg #[.int .i64 0, .int .i64 0]) 2 16 rfl rfl Try.underlying22 infoPairA rfl (by decide) (by decide) w2.heap.size _ 0 [] (pcells l.reverse) rfl ho0 Ab l.length cb rfl hnb (by rw [pcells_length, List.length_reverse]) (by intro h0; exact (hPb2.kept hBe).cells (by rw [List.length_reverse]; exact h0)) (pcells_one _) (by omega) (by simp) ?_; intro v1 w3 ho1 hg1 ha1; simp only [Nat.zero_add, List.nil_append] at ho1)
        | (at_builtin; refine push_all (.tmp 51) (.tmp 52) 22 31 (.agg #[.int .i64 0, .int .i64 0]) 2 16 rfl rfl Try.underlying22 infoPairA rfl (by decide) (by decide) w2.heap.size v1 l.length (pcells l.reverse) (pcells l) rfl ho1 A l.length cap rfl hn (pcells_length l) (hl2.grown hBe hg1 ho0 (Nat.le_refl _)).cells (pcells_one l) (by omega) (by have := hg1.size; simp at this; omega) ?_; intro v2 w4 ho2 hg2 ha2))
        have hlenR : l.reverse.length = l.length := List.length_reverse
        have ho3 : w4.ownsRow w2.heap.size 31 2 v2 (l.reverse ++ l).length (pcells (l.reverse ++ l)) := by rw [List.length_append, hlenR, pcells_append]; exact ho2
        obtain ⟨A2, c2, rfl, _, hPs⟩ := own_pairs ho3
        have hB3 : Below w2.heap.size w2 w3 := hBe.grown hg1 (by simp) (fun k hk => own_base ho0 k hk)
        have hB4 : Below w2.heap.size w2 w4 := hB3.grown hg2 hB3.size (fun k hk => own_base ho1 k hk)
        have hB5 := below_then hB2 hB2.size hB4
        clear hlenR ho0 ho1 ho2 ho3 hg1 hg2 ha1 ha2 hB3 hB4 hB2 hl2 hPb2 hBe
        refine (close_err n A2 (l.reverse ++ l) _ c2 w4 rfl hPs x (HE.out.symm.trans hx.out.symm) (by rw [hx.out]; exact HP.out)).mono ?_
        rintro e w5 ⟨rfl, hb5⟩
        have hB6 := below_then hB5 hB5.size hb5
        have hx0 : (x == 0) = false := beq_eq_false_iff_ne.2 (by rw [hx.out]; exact HP.out)
        clear hx HP HP2 HE
        go_wp2_with fail
        go_ret
        exact ⟨rfl, hB6⟩
end Go.Proofs.Ytgodkmenemlccaa
