/- LpoTotal: the walk. Conditions: none. -/
import Derived.Test.YthpdfkhmhaobgaaDoorLpoBoth
import Derived.Test.YthpdfkhmhaobgaaDoorLpoPlain
import Derived.Test.YthpdfkhmhaobgaaDoorRefVars
import Derived.Deep.Cut
set_option linter.unusedVariables false
set_option linter.unusedSimpArgs false
set_option linter.unnecessarySimpa false
namespace Go.Proofs.YthpdfkhmhaobgaaDoor
open Go.RowKit Go.Lib

theorem infoPairL : (Tryd.prog.info? 54).map (fun i => (i.zero, i.size, i.bytes)) = some (some (.agg #[.int .i64 0, .int .i64 0]), 2, 16) := by kernel_rfl
theorem pair_oneL (x y : Int) : ∀ u ∈ [Value.int .i64 x, Value.int .i64 y], u.oneCell' = true := by intro u hu; simp at hu; rcases hu with rfl | rfl <;> rfl
theorem pair_cellsL (w : World) (x y : Int) (T : TypeId) (n : Nat) (hn : n = w.heap.size) : ∀ j u, [Value.int .i64 x, Value.int .i64 y][j]? = some u → (w.alloc (.cells #[.int .i64 x, .int .i64 y] T)).cell? ⟨n, 0 + j, none⟩ = some u := by
  intro j u hj
  subst hn
  rw [World.cell?_alloc_new]
  cases j with
  | zero => simpa using hj
  | succ j => cases j with
    | zero => simpa using hj
    | succ j => simp at hj
def counts (n : Nat) : List Int := (List.range n).map fun i : Nat => (i : Int)
theorem counts_succ (n : Nat) : counts (n + 1) = counts n ++ [(n : Int)] := by simp [counts, List.range_succ]
theorem counts_len (n : Nat) : (counts n).length = n := by simp [counts]
def links (R : List Int) (n : Nat) : List (Int × Int) := (List.range n).map fun i => (R.getD i 0, R.getD (i + 1) 0)
theorem links_succ (R : List Int) (n : Nat) : links R (n + 1) = links R n ++ [(R.getD n 0, R.getD (n + 1) 0)] := by simp [links, List.range_succ]
theorem links_len (R : List Int) (n : Nat) : (links R n).length = n := by simp [links]
theorem row_in {R : List Int} {n : Nat} (h : Perm n R) {k : Nat} (hk : k < n) : ∃ x : Nat, R.getD k 0 = (x : Int) ∧ x < n := by
  obtain ⟨h1, h2⟩ := h.low k hk
  exact ⟨(R.getD k 0).toNat, by omega, by omega⟩
theorem full_perm {l : List Sy} {s : List Int} (hs : termErr l s = 0) (hv : varsOf s = []) : 0 < l.length := by
  have hp := term_pos hs
  have hc := codes_ok hs (s.getD 0 0) (getD_mem hp rfl)
  have h0 := vars_none hv (s.getD 0 0) (getD_mem hp rfl)
  unfold codeBad at hc
  omega

set_option maxRecDepth 100000 in
set_option maxHeartbeats 4000000 in
theorem ltotal_any (A T C D : Option Addr) (l : List Sy) (r s t : List Int) (lc rc sc tc : Nat) (hlc : l.length ≤ lc) (hsc : s.length ≤ sc) (htc : t.length ≤ tc) (w : World) (hl : Sigs w A l) (hr : Ints w T r) (hs : Ints w C s) (ht : Ints w D t) (hT : Tabs w) :
    Calls Tryd.prog 8 #[.slice A l.length lc, .slice T r.length rc, .agg #[.slice C s.length sc, .slice D t.length tc]] w fun e w' => e = .returned (.bool true) ∧ Below w.heap.size w w' := by
  have m1 := hs.2.1
  have m2 := hr.2.1
  have hbx : Below w.heap.size w (w.alloc (.cells #[.slice C s.length sc, .slice D t.length tc] 25)) := below_alloc0 _ _
  have k0 : (w.alloc (.cells #[.slice C s.length sc, .slice D t.length tc] 25)).cell? ⟨w.heap.size, 0, none⟩ = some (.slice C s.length sc) := World.cell?_alloc_new w _ _ 0
  have k1 : (w.alloc (.cells #[.slice C s.length sc, .slice D t.length tc] 25)).cell? ⟨w.heap.size, 1, none⟩ = some (.slice D t.length tc) := World.cell?_alloc_new w _ _ 1
  have cG := fun (q : List (Int × Int)) (a b : List Int) (F G : Option Addr) (ac bc : Nat) (pb : Nat) (hcyc : ¬ Cyclic q) (h1 : a.length ≤ ac) (h2 : b.length ≤ bc) (w1 : World) (hb : Below w.heap.size w w1) (ha : Ints w F a) (hb' : Ints w G b) (hP : IsPrec w1 pb l.length q) => lgreater_any A F G l q a b pb l.length lc ac bc hlc h1 h2 w1 hcyc (hl.kept hb) (ha.kept hb) (hb'.kept hb) (hT.kept hb) hP
  have cT := fun (a : List Int) (F : Option Addr) (ac : Nat) (w1 : World) (hb : Below w.heap.size w w1) (ha : Ints w F a) => lterm_any A F l a lc ac w1 (hl.kept hb) (ha.kept hb)
  have cV := fun (a : List Int) (F : Option Addr) (ac : Nat) (w1 : World) (hb : Below w.heap.size w w1) (ha : Ints w F a) (h5 : a.length ≤ 512) => refvars_any F a ac w1 (ha.kept hb) (by omega)
  have cS := lshown_any _ (hT.kept hbx)
  have HG := Lib.hid cG
  have HC := Lib.hid cT
  have HV := Lib.hid cV
  have HS := Lib.hid hs
  have HTT := Lib.hid ht
  have HR := Lib.hid hr
  clear cG cT cV hl hs ht hT hr
  go_enter Tryd.func8, Tryd.ntmps8
  go_wp2_with fail
  refine cS.mono ?_
  rintro e w1 ⟨rfl, hb1⟩
  have hb01 := below_then hbx hbx.size hb1
  have k01 := cell_kept hb1 k0
  have k11 := cell_kept hb1 k1
  obtain ⟨bx, hbxd⟩ : ∃ bx, bx = w.heap.size := ⟨_, rfl⟩
  rw [← hbxd] at k01 k11
  rw [← hbxd]
  have HBX := Lib.hid hbxd
  clear cS k0 k1 hbx hb1 hbxd
  have c2 := HC.out s C sc w1 hb01 HS.out
  obtain ⟨b0, hd0⟩ : ∃ b, b = decide (termErr l s = 0 ∧ s.length ≤ 512) := ⟨_, rfl⟩
  obtain ⟨b1, hd1⟩ : ∃ b, b = decide (termErr l t = 0 ∧ t.length ≤ 512) := ⟨_, rfl⟩
  rw [← hd0] at c2
  have HD0 := Lib.hid hd0
  have HD1 := Lib.hid hd1
  clear hd0 hd1
  go_wp2_with fail
  refine c2.mono ?_
  rintro e w2 ⟨rfl, hb2⟩
  have hb02 := below_then hb01 hb01.size hb2
  have k02 := cell_kept hb2 k01
  have k12 := cell_kept hb2 k11
  have c3 := HC.out t D tc w2 hb02 HTT.out
  rw [← HD1.out] at c3
  clear c2 k01 k11 hb2 hb01
  go_wp2_with fail
  refine c3.mono ?_
  rintro e w3 ⟨rfl, hb3⟩
  have hb03 := below_then hb02 hb02.size hb3
  have k03 := cell_kept hb3 k02
  have k13 := cell_kept hb3 k12
  clear c3 k02 k12 hb3 hb02
  cases b0 with
  | false =>
    go_wp2_with fail
    go_ret
    exact ⟨rfl, hb03⟩
  | true =>
  cases b1 with
  | false =>
    go_wp2_with fail
    go_ret
    exact ⟨rfl, hb03⟩
  | true =>
  obtain ⟨hs0, hs5⟩ := of_decide_eq_true HD0.out.symm
  obtain ⟨ht0, ht5⟩ := of_decide_eq_true HD1.out.symm
  have HS0 := Lib.hid hs0
  have HT0 := Lib.hid ht0
  have c4 := HV.out s C sc w3 hb03 HS.out hs5
  clear HD0 HD1 hs0 ht0
  go_wp2_with fail
  refine c4.mono ?_
  rintro e w4 ⟨v, rfl, hb4, hO⟩
  obtain ⟨VA, vc, rfl, _⟩ := hO.ints
  have hb04 := below_then hb03 hb03.size hb4
  have k04 := cell_kept hb4 k03
  have k14 := cell_kept hb4 k13
  have c5 := HV.out t D tc w4 hb04 HTT.out ht5
  obtain ⟨vs, hvs⟩ : ∃ x, x = varsOf s := ⟨_, rfl⟩
  obtain ⟨vt, hvt⟩ : ∃ x, x = varsOf t := ⟨_, rfl⟩
  rw [← hvs]
  have HVS := Lib.hid hvs
  have HVT := Lib.hid hvt
  clear c4 k03 k13 hb4 hb03 hO hvs hvt
  cases vs with
  | cons x vs =>
    have hpos : (0 : Int) < (((x :: vs).length : Nat) : Int) := by simp
    generalize (x :: vs).length = nn at hpos ⊢
    go_wp2_with fail
    go_ret
    exact ⟨rfl, hb04⟩
  | nil =>
  have e00 : ([] : List Int).length = 0 := rfl
  rw [e00]
  clear e00
  go_wp2_with fail
  refine c5.mono ?_
  rintro e w5 ⟨v, rfl, hb5, hO⟩
  obtain ⟨VB, vd, rfl, _⟩ := hO.ints
  rw [← HVT.out]
  have hb05 := below_then hb04 hb04.size hb5
  have k05 := cell_kept hb5 k04
  have k15 := cell_kept hb5 k14
  clear c5 k04 k14 hb5 hb04 hO
  cases vt with
  | cons x vt =>
    have hpos : (0 : Int) < (((x :: vt).length : Nat) : Int) := by simp
    generalize (x :: vt).length = nn at hpos ⊢
    go_wp2_with fail
    go_ret
    exact ⟨rfl, hb05⟩
  | nil =>
  have e00 : ([] : List Int).length = 0 := rfl
  rw [e00]
  clear e00
  have hpos : 0 < l.length := full_perm HS0.out HVS.out.symm
  have h128 : l.length ≤ 128 := (good_of (term_sig HS0.out)).1
  obtain ⟨hb, hhb⟩ : ∃ x, x = w5.heap.size := ⟨_, rfl⟩
  have hown0 := own_empty w5 3 1 hb hhb
  go_wp2_with fail
  rw [← hhb]
  have HHB := Lib.hid hhb
  clear hhb
  go_loopg [10, 11] l.length (fun gk v i wr => ∃ (k : Nat), Aside (gk + k = l.length) ∧ i = .int .i64 k ∧ Below hb w5 wr ∧ RowO wr hb v (counts k))
  case atStart => exact ⟨0, (rfl : l.length + 0 = _), rfl, by rw [HHB.out]; exact below_alloc0 _ _, ⟨hown0, by simp [counts], fun x hx => by cases hx⟩⟩
  case round =>
    obtain ⟨k, hg, rfl, hB, hO⟩ := hrel
    have hk : k ≤ l.length := by have := hg.out; omega
    have hHs : hb ≤ wr.heap.size := by have := hB.size; rw [HHB.out]; exact this
    by_cases hlt : k < l.length
    · obtain ⟨AO, cO, rfl, hnO⟩ := own_slice hO.1
      have HO := Lib.hid hO
      have hO1 := hO.1
      rw [counts_len] at hO1
      rw [counts_len]
      clear hO
      have hnew := (one_cells (w := wr.alloc (.cells #[.int .i64 (k : Int)] 3)) (b := wr.heap.size) (o := 0) (x := (k : Int)) (by rw [World.cell?_alloc_new]; rfl))
      have hN2 : hb ≤ (wr.alloc (.cells #[.int .i64 (k : Int)] 3)).heap.size := by simp; omega
      go_wp2_with (at_builtin; refine push_all (.tmp 62) (.tmp 64) 24 3 (.int .i64 0) 1 8 rfl rfl Tryd.underlying24 infoInt rfl (by decide) (by decide) hb _ k (icells (counts k)) (icells [(k : Int)]) rfl (hO1.alloc _) (some ⟨wr.heap.size, 0, none⟩) 1 1 rfl (fun h => by cases h) (icells_length _) hnew (icells_one _) (by omega) hN2 ?_; intro v' w6 ho3 hg3 ha3)
      go_roundg (l.length - (k + 1))
      case measure => have := hg.out; omega
      case rel =>
        refine ⟨k + 1, by have := hg.out; show _ = _; omega, by go_num, (below_alloc hB hHs _).grown hg3 hN2 (fun j hj => (hO1.lt j hj).1), ?_⟩
        rw [counts_succ]
        exact RowO.pushed (by rw [counts_len]; exact ho3) (by rw [counts_len]; simp only [List.length_cons, List.length_nil]; omega) HO.out.2.2 (fun y hy => by simp at hy; subst hy; exact ⟨by omega, by omega⟩)
    · have hkl : k = l.length := by omega
      subst hkl
      have hPm : Perm l.length (counts l.length) := Perm.range l.length
      obtain ⟨g, cap, hv, hgb, hgl⟩ := hO.1.form (by rw [counts_len]; omega)
      rw [counts_len] at hv
      subst hv
      have HPm := Lib.hid hPm
      have hc0 := counts_len l.length
      obtain ⟨R0, hR0⟩ : ∃ R, R = counts l.length := ⟨_, rfl⟩
      rw [← hR0] at HPm hO hc0
      clear hown0 hR0 hPm
      go_wp2_with fail
      go_loopg [12, 13, 14] r.length (fun gk i u13 u14 wx => ∃ (k : Nat) (R : List Int), Aside (gk + k = r.length) ∧ i = .int .i64 k ∧ Below hb w5 wx ∧ RowO wx hb (.slice (some ⟨g, 0, none⟩) l.length cap) R ∧ Aside (Perm l.length R))
      case atStart => exact ⟨0, R0, (rfl : r.length + 0 = _), rfl, hB, hO, HPm.out⟩
      case round =>
        obtain ⟨wo, rfl⟩ : ∃ wo : World, wo = wr := ⟨_, rfl⟩
        obtain ⟨k, R, hg2, rfl, hB2, hO2, hPm2⟩ := hrel
        have hk2 : k ≤ r.length := by have := hg2.out; omega
        have hRl : R.length = l.length := hPm2.out.len
        have hO3 := hO2.1
        rw [hRl] at hO3
        have hB2w := below_then hb05 hb05.size (show Below w5.heap.size w5 wo by rw [← HHB.out]; exact hB2)
        by_cases hlt2 : k < r.length
        · obtain ⟨rb, roff, x, rfl, hx, hx1, hx2, hxc⟩ := (HR.out.kept hB2w).at_ hlt2
          have HB2 := Lib.hid hB2
          have H3 := Lib.hid hO3
          have H2 := Lib.hid hO2
          have HX := Lib.hid hx
          clear hx hO3 hO2 hB2 HPm hO hc0 hB
          go_upto_if 77 with (fail)
          go_cut [13] (fun v wx => ∃ m : Nat, v = .int .i64 m ∧ Aside (m ≤ 9223372036854775807) ∧ wo = wx)
          case first =>
            by_cases hneg : x < 0
            · go_wp2_with fail
              go_meet
              case rel => exact ⟨(-(x + 1)).toNat, by congr 1; omega, by show _ ≤ _; omega, rfl⟩
            · go_wp2_with fail
              go_meet
              case rel => exact ⟨x.toNat, by congr 1; omega, by show _ ≤ _; omega, rfl⟩
          case rest =>
            obtain ⟨y, rfl, hm, rfl⟩ := hcut
            have hm' : y ≤ 9223372036854775807 := hm.out
            obtain ⟨J, hJ⟩ : ∃ J : Nat, (k : Int) % (l.length : Int) = (J : Int) := ⟨k % l.length, by rw [Int.natCast_emod]⟩
            obtain ⟨K, hK⟩ : ∃ K : Nat, (y : Int) % (l.length : Int) = (K : Int) := ⟨y % l.length, by rw [Int.natCast_emod]⟩
            have hJ1 : J < l.length := by have := Int.emod_lt_of_pos (k : Int) (show (0 : Int) < (l.length : Int) by omega); omega
            have hK1 : K < l.length := by have := Int.emod_lt_of_pos (y : Int) (show (0 : Int) < (l.length : Int) by omega); omega
            have hcJ := H3.out.cellAt J (by omega)
            rw [icells_at _ J (by omega)] at hcJ
            have hcK := H3.out.cellAt K (by omega)
            rw [icells_at _ K (by omega)] at hcK
            have hJ2 := hPm2.out.low J hJ1
            have hK2 := hPm2.out.low K hK1
            have hst1 := RowO.stored (k := J) (d := R.getD K 0) H2.out hRl.symm (by omega)
            have hst := RowO.stored (k := K) (d := R.getD J 0) hst1 (by rw [List.length_set]; exact hRl.symm) (by omega)
            have hPS := hPm2.out.swap hJ1 hK1
            have HST := Lib.hid hst
            have HPS := Lib.hid hPS
            have fJ := H3.out.frozenAt J
            have fK := H3.out.frozenAt K
            have hl1 : (R.set J (R.getD K 0)).length = l.length := by rw [List.length_set]; exact hRl
            have hs2 := hst1.1
            rw [hl1] at hs2
            have hcK2 := hs2.cellAt K (by omega)
            rw [icells_at _ K (by omega)] at hcK2
            generalize (R.set J (R.getD K 0)).getD K 0 = rk2 at hcK2
            clear hs2 hl1
            generalize R.getD J 0 = rj at *
            generalize R.getD K 0 = rk at *
            clear hst1 hst hPS hPm2 hRl HX
            go_wp2_with fail
            go_region
            go_wp2_with fail
            go_roundg (r.length - (k + 1))
            case measure => have := hg2.out; omega
            case rel => exact ⟨k + 1, _, by have := hg2.out; show _ = _; omega, by go_num, below_set (below_set (below_draw HB2.out) hgb _) hgb _, HST.out, HPS.out⟩
        · have hkr : k = r.length := by omega
          subst hkr
          have hB25 : Below w5.heap.size w5 wo := by rw [← HHB.out]; exact hB2
          have k0p := cell_kept hB25 k05
          have k1p := cell_kept hB25 k15
          have HRO := Lib.hid hO3
          obtain ⟨hb2, hhb2⟩ : ∃ x, x = wo.heap.size := ⟨_, rfl⟩
          have hownp := own_empty wo 54 2 hb2 hhb2
          clear hB hO HPm hc0 hB2 hO3 hO2 k05 k15 hB25
          go_wp2_with fail
          rw [← hhb2]
          have HHB2 := Lib.hid hhb2
          clear hhb2
          go_loopg [15, 16] l.length (fun gk v i wr => ∃ k : Nat, Aside (gk + k = l.length) ∧ i = .int .i64 k ∧ Aside (k + 1 ≤ l.length) ∧ Below hb2 wo wr ∧ wr.ownsRow hb2 54 2 v k (pcells (links R k)))
          case atStart => exact ⟨0, (rfl : l.length + 0 = _), rfl, (by show _ ≤ _; omega), by rw [HHB2.out]; exact below_alloc0 _ _, by simpa [links, pcells] using hownp⟩
          case round =>
            clear hownp
            obtain ⟨k, hg3, rfl, hk3, hB3, hown⟩ := hrel
            have hk3' : k + 1 ≤ l.length := hk3.out
            have hB3w : Below wo.heap.size wo wr := by rw [← HHB2.out]; exact hB3
            have hHs2 : hb2 ≤ wr.heap.size := by have := hB3.size; rw [HHB2.out]; exact this
            by_cases hlt : k + 1 < l.length
            · have hkl : k < l.length := by omega
              have hwr : IntKind.i64.wrap ((k : Int) + 1) = (k : Int) + 1 := by rw [IntKind.wrap_i64]; omega
              have h01 : (0 : Int) ≤ (k : Int) + 1 := by omega
              have hR1 := own_kept HRO.out hB3w
              have hc0 := hR1.cellAt k (by omega)
              rw [icells_at _ k (by omega)] at hc0
              have hc1 := hR1.cellAt (k + 1) (by omega)
              rw [icells_at _ (k + 1) (by omega)] at hc1
              obtain ⟨x, hx⟩ : ∃ x, R.getD k 0 = x := ⟨_, rfl⟩
              obtain ⟨y, hy⟩ : ∃ x, R.getD (k + 1) 0 = x := ⟨_, rfl⟩
              rw [hx] at hc0
              rw [hy] at hc1
              have HX := Lib.hid hx
              have HY := Lib.hid hy
              have HB3 := Lib.hid hB3
              clear hx hy hR1 hB3 k0p k1p
              go_wp2_with fail
              go_region_law (first
                | (refine step_push (.tmp 111) (.tmp 122) 23 54 (.agg #[.int .i64 0, .int .i64 0]) 2 16 rfl rfl Tryd.underlying23 infoPairL rfl (by decide) (by decide) hb2 u15 k (pcells (links R k)) [.int .i64 x, .int .i64 y] rfl (hown.alloc _) wr.heap.size 0 1 rfl rfl (pair_cellsL _ _ _ _ _ rfl) (pair_oneL _ _) (by omega) (by simp; omega) ?_; intro g2 cap2 w4 ho4 hg4 ha4 hlt4))
              all_goals
                go_wp2_with fail
                go_roundg (l.length - (k + 1))
                case measure => have := hg3.out; omega
                case rel =>
                  refine ⟨k + 1, by have := hg3.out; show _ = _; omega, by go_num, (by show _ ≤ _; omega), ?_, by rw [links_succ, pcells_append, HX.out, HY.out]; exact ho4⟩
                  exact (below_draw (below_alloc HB3.out hHs2 _)).grown hg4 (by simp; omega) (fun j hj => own_base hown j hj)
            · have hke : k + 1 = l.length := by omega
              obtain ⟨PA, pc, rfl, _, hPs⟩ := own_pairs (l := links R k) (by rw [links_len]; exact hown)
              have hch : links R k = chain R := by unfold chain links; rw [hRl, ← hke, Nat.add_sub_cancel]
              rw [hch] at hPs
              have hcl : (chain R).length = k := by rw [← hch, links_len]
              have hperr := perr_chain hPm2.out h128
              obtain ⟨_, _, hcyc⟩ := perr_zero.1 hperr
              have c6 := close_ok l.length PA (chain R) k pc wr hcl hPs hperr
              have hb06 := below_then hB2w hB2w.size hB3w
              have k06 := cell_kept hB3w k0p
              have k16 := cell_kept hB3w k1p
              obtain ⟨x, hx⟩ : ∃ b, b = lg l (chain R) s t := ⟨_, rfl⟩
              obtain ⟨y, hy⟩ : ∃ b, b = lg l (chain R) t s := ⟨_, rfl⟩
              have tri : (s = t → x = false ∧ y = false) ∧ (s ≠ t → (x = true ∧ y = false) ∨ (x = false ∧ y = true)) := by
                constructor
                · intro e
                  subst e
                  rw [hx, hy, lg_self hcyc]
                  exact ⟨rfl, rfl⟩
                · intro hne
                  rcases lg_total HS0.out HT0.out hs5 ht5 hPm2.out HVS.out.symm HVT.out.symm hne with h | h
                  · exact .inl ⟨hx.trans h, hy.trans (lg_back hcyc h)⟩
                  · exact .inr ⟨hx.trans (lg_back hcyc h), hy.trans h⟩
              have HX := Lib.hid hx
              have HY := Lib.hid hy
              have TRI := Lib.hid tri
              have HCY := Lib.hid hcyc
              clear hPs hch hcl hperr hx hy tri hcyc hown hB3 hB3w k0p k1p hPm2 hRl HRO
              rw [links_len]
              go_wp2_with fail
              refine c6.mono ?_
              rintro e w7 ⟨rfl, hb7, hP⟩
              obtain ⟨pb, hpb⟩ : ∃ p, p = wr.heap.size := ⟨_, rfl⟩
              rw [← hpb] at hP ⊢
              have hb07 := below_then hb06 hb06.size hb7
              have k07 := cell_kept hb7 k06
              have k17 := cell_kept hb7 k16
              have HP := Lib.hid hP
              have c7 := HG.out (chain R) s t C D sc tc pb HCY.out hsc htc w7 hb07 HS.out HTT.out HP.out
              rw [← HX.out] at c7
              clear c6 hP hpb k06 k16 hb7 hb06
              go_wp2_with fail
              refine c7.mono ?_
              rintro e w8 ⟨rfl, hb8⟩
              have hb08 := below_then hb07 hb07.size hb8
              have k08 := cell_kept hb8 k07
              have k18 := cell_kept hb8 k17
              have c8 := HG.out (chain R) t s D C tc sc pb HCY.out htc hsc w8 hb08 HTT.out HS.out (HP.out.kept hb8)
              rw [← HY.out] at c8
              clear c7 HP k07 k17 hb8 hb07
              go_wp2_with fail
              refine c8.mono ?_
              rintro e w9 ⟨rfl, hb9⟩
              have hb09 := below_then hb08 hb08.size hb9
              have k09 := cell_kept hb9 k08
              have k19 := cell_kept hb9 k18
              have HB9 := Lib.hid hb09
              clear c8 HX HY HCY k08 k18 hb9 hb08 hb09
              by_cases hle : s.length = t.length
              all_goals
                have HLE := Lib.hid hle
                have hle1 := hle
                clear hle
                go_wp2_with fail
                go_loopg [21, 22] s.length (fun gk b i wx => ∃ k : Nat, Aside (gk + k = s.length) ∧ i = .int .i64 k ∧ (∃ al : Bool, b = .bool al ∧ Aside ((al = true ∧ s.length = t.length ∧ s.take k = t.take k) ∨ (al = false ∧ s ≠ t))) ∧ Aside (Below w.heap.size w wx) ∧ wx.cell? ⟨bx, 0, none⟩ = some (.slice C s.length sc) ∧ wx.cell? ⟨bx, 1, none⟩ = some (.slice D t.length tc))
                case atStart => exact ⟨0, (rfl : s.length + 0 = _), rfl, ⟨_, rfl, by first | exact Or.inl ⟨rfl, HLE.out, by simp⟩ | exact Or.inr ⟨rfl, fun e => HLE.out (by rw [e])⟩ | exact Or.inr ⟨by rw [beq_eq_false_iff_ne]; intro h; exact HLE.out (by omega), fun e => HLE.out (by rw [e])⟩⟩, HB9.out, k09, k19⟩
                case round =>
                  obtain ⟨k, hg4, rfl, ⟨al, rfl, hal⟩, hBr, kc0, kc1⟩ := hrel
                  have hk4 : k ≤ s.length := by have := hg4.out; omega
                  have HBR := Lib.hid hBr.out
                  clear hBr k09 k19 hle1
                  cases al with
                  | false =>
                    have h2 := TRI.out.2 (show s ≠ t by
                      rcases hal.out with ⟨h, _⟩ | ⟨_, h⟩
                      · cases h
                      · exact h)
                    clear hal
                    by_cases hlt4 : k < s.length
                    all_goals
                      rcases h2 with ⟨rfl, rfl⟩ | ⟨rfl, rfl⟩
                      all_goals
                        go_wp2_with fail
                        go_ret
                        exact ⟨rfl, HBR.out⟩
                  | true =>
                    obtain ⟨hle2, htk⟩ : s.length = t.length ∧ s.take k = t.take k := by
                      rcases hal.out with ⟨_, h⟩ | ⟨h, _⟩
                      · exact h
                      · cases h
                    have HTK := Lib.hid htk
                    clear hal htk
                    by_cases hlt4 : k < s.length
                    · have hlt5 : k < t.length := by omega
                      obtain ⟨cb, co, x1, rfl, hx1, _, _, hcx⟩ := (HS.out.kept HBR.out).at_ hlt4
                      obtain ⟨db, dof, y1, rfl, hy1, _, _, hcy⟩ := (HTT.out.kept HBR.out).at_ hlt5
                      have HX1 := Lib.hid hx1
                      have HY1 := Lib.hid hy1
                      have HL2 := Lib.hid hle2
                      clear hx1 hy1 hle2
                      by_cases hxy : x1 = y1
                      · have q : (x1 == y1) = true := beq_iff_eq.2 hxy
                        have HXY := Lib.hid hxy
                        clear hxy
                        go_wp2_with fail
                        go_quiet (fail)
                        go_wp2_with fail
                        go_roundg (s.length - (k + 1))
                        case measure => have := hg4.out; omega
                        case rel => exact ⟨k + 1, by have := hg4.out; show _ = _; omega, by go_num, ⟨_, rfl, Or.inl ⟨rfl, HL2.out, by rw [take_succ' s 0 hlt4, take_succ' t 0 hlt5, HTK.out, HX1.out, HY1.out, HXY.out]⟩⟩, below_drawN HBR.out _, kc0, kc1⟩
                      · have q : (x1 == y1) = false := beq_eq_false_iff_ne.2 hxy
                        have HXY := Lib.hid hxy
                        clear hxy
                        go_wp2_with fail
                        go_quiet (fail)
                        go_wp2_with fail
                        go_roundg (s.length - (k + 1))
                        case measure => have := hg4.out; omega
                        case rel => exact ⟨k + 1, by have := hg4.out; show _ = _; omega, by go_num, ⟨_, rfl, Or.inr ⟨rfl, fun e => HXY.out (by rw [← HX1.out, ← HY1.out, e])⟩⟩, below_drawN HBR.out _, kc0, kc1⟩
                    · have hst : s = t := by
                        have h := HTK.out
                        rw [List.take_of_length_le (by omega), List.take_of_length_le (by omega)] at h
                        exact h
                      obtain ⟨hx0, hy0⟩ := TRI.out.1 hst
                      subst hx0
                      subst hy0
                      clear hst
                      go_wp2_with fail
                      try (go_ret; exact ⟨rfl, HBR.out⟩)
theorem lpoTotal_walk (A : Option Addr) (l : List Sy) (lc : Nat) (T : Option Addr) (r : List Int) (rc : Nat) (C : Option Addr) (s : List Int) (sc : Nat) (D : Option Addr) (t : List Int) (tc : Nat) (w : World) (hT : Tabs w)
    (hlc : l.length ≤ lc) (hl : Sigs w A l) (_ : r.length ≤ rc) (_ : T = none → r.length = 0 ∧ rc = 0) (_ : r.length * 8 ≤ 140737488351232) (hr : Ints w T r)
    (hsc : s.length ≤ sc) (_ : C = none → s.length = 0 ∧ sc = 0) (_ : s.length * 8 ≤ 140737488351232) (hs : Ints w C s) (htc : t.length ≤ tc) (_ : D = none → t.length = 0 ∧ tc = 0) (_ : t.length * 8 ≤ 140737488351232) (ht : Ints w D t) :
    Calls Tryd.prog 8 #[.slice A l.length lc, .slice T r.length rc, .agg #[.slice C s.length sc, .slice D t.length tc]] w fun e w' => e = .returned (.bool true) ∧ Below w.heap.size w w' :=
  ltotal_any A T C D l r s t lc rc sc tc hlc hsc htc w hl hr hs ht hT
end Go.Proofs.YthpdfkhmhaobgaaDoor
