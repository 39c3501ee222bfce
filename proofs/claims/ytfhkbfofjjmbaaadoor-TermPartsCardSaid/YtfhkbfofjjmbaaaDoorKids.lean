/- The places right below a place: the walk of the program's way. Conditions: utf8's tables as laid. -/
import Derived.Test.YtfhkbfofjjmbaaaDoorPlaces
import Derived.Test.YtfhkbfofjjmbaaaDoorSub
set_option linter.unusedVariables false
set_option linter.unusedSimpArgs false
namespace Go.Proofs.YtfhkbfofjjmbaaaDoor
open Go.RowKit Go.Lib

theorem assert_inner_ok (b : Nat) (w : World) : (Instr.typeAssert (innerV b) 49 56 true).run Tryd.prog w = .ok (.tuple #[.pointer (some ⟨b, 0, none⟩), .bool true]) w := by kernel_rfl
theorem assert_leaf_ok (n : Int) (w : World) : (Instr.typeAssert (leafV n) 49 56 true).run Tryd.prog w = .ok (.tuple #[.pointer none, .bool false]) w := by kernel_rfl
set_option maxRecDepth 100000 in
set_option maxHeartbeats 2000000 in
theorem kids_any (A B : Option Addr) (l : List Sy) (t : List Int) (sc tc : Nat) (a : Int) (ha : -9223372036854775808 ≤ a ∧ a ≤ 9223372036854775807) (hcap : l.length ≤ sc) (w : World) (hl : Sigs w A l) (ht : Ints w B t) (hT : Tabs w) (h8 : t.length * 8 ≤ 140737488355328) :
    Calls Tryd.prog 21 #[.slice A l.length sc, .slice B t.length tc, .int .i64 a] w fun e w' => ∃ v, e = .returned (.tuple #[v, .int .i64 (placeErr l t a)]) ∧ Below w.heap.size w w' ∧ RowO w' w.heap.size v (if placeErr l t a = 0 then kidsAt l t a.toNat else []) := by
  have m2 := ht.2.1
  have cF := find_any A B l t sc tc a ha hcap w hl ht hT h8
  have hz := place_zero (l := l) (t := t) (a := a)
  unfold FindPost at cF
  generalize placeErr l t a = er at cF hz ⊢
  by_cases h0 : er = 0
  · subst h0
    obtain ⟨hte, h1, h2⟩ := hz rfl
    have HR := Lib.hid (root_ok hte)
    obtain ⟨p, rfl⟩ := Int.eq_ofNat_of_zero_le h1
    have hp : p < t.length := by omega
    rw [Int.toNat_natCast] at cF ⊢
    rw [if_pos rfl]
    clear hz h1 h2 hte
    go_enter Tryd.func21, Tryd.ntmps21
    go_wp2_with fail
    refine cF.mono ?_
    rintro e w1 ⟨v, u, rfl, hb1, hp1, _⟩
    obtain ⟨hO, f, hN⟩ := hp1 (by first | rfl | trivial)
    clear hp1 hO cF
    have hle := Node.end_le hN
    cases f with
    | zero => exact hN.elim
    | succ f =>
      obtain ⟨hh1, hh2, hh3⟩ := hN
      rcases hh3 with ⟨hneg, he, hv⟩ | ⟨hpos, b, kv, ks, rfl, hbS, c0, c1, c2, hkr, hka, hkids⟩
      · obtain ⟨nn, hnn⟩ : ∃ n, n = -1 - t.getD p 0 := ⟨_, rfl⟩
        rw [← hnn] at hv
        subst hv
        have hta := assert_leaf_ok nn w1
        clear hnn
        have hkz : kidsAt l t p = [] := by unfold kidsAt; rw [if_pos hneg]
        have HKZ := Lib.hid hkz
        clear he hneg hkz hh2
        go_wp2_with fail
        go_ret2
        exact ⟨_, rfl, hb1, by rw [HKZ.out]; exact RowO.nil _ _⟩
      · have hta := assert_inner_ok b w1
        have hkz : kidsAt l t p = kidsFrom l t ks.length (p + 1) := by unfold kidsAt; rw [if_neg (by omega), hka]
        have HKZ := Lib.hid hkz
        have hkl : ks.length ≤ t.length := by
          have := KidsBy.scan (fun v i e h => Node.scan HR.out h) ks (p + 1) _ hkids
          have h2 := scanAt_ok this
          have h3 := h2.2 (by omega)
          omega
        obtain ⟨E, hE⟩ : ∃ E, E = endOf l t p := ⟨_, rfl⟩
        rw [← hE] at hkids hle
        have HKR := Lib.hid hkr
        obtain ⟨kA, kC, hkv, hkn⟩ : ∃ kA kC, kv = .slice kA ks.length kC ∧ (0 < ks.length → ∃ g, kA = some ⟨g, 0, none⟩ ∧ ∀ j u, ks[j]? = some u → w1.cell? ⟨g, j, none⟩ = some u) := by
          rcases hkr with ⟨rfl, rfl⟩ | ⟨g, cap, rfl, _, _, _, hk⟩
          · exact ⟨none, 0, rfl, fun h => by simp at h⟩
          · exact ⟨_, cap, rfl, fun _ => ⟨g, rfl, hk⟩⟩
        subst hkv
        clear hka hkz hkr hE c0 c1 hh2 hpos
        go_wp2_with fail
        go_loopg [2, 13, 41] ks.length (fun gq hv V iv wx => ∃ (q m : Nat) (acc : List Int), Aside (gq + q = ks.length) ∧ iv = .int .i64 q ∧ hv = .int .i64 m ∧ KidsBy (Node w1 (From w.heap.size) l t f) (ks.drop q) m E ∧ Below w1.heap.size w1 wx ∧
          RowO wx w1.heap.size V acc ∧ Aside (acc.length = q) ∧ Aside (kidsFrom l t ks.length (p + 1) = acc ++ kidsFrom l t (ks.length - q) m))
        case atStart => exact ⟨0, p + 1, [], (rfl : ks.length + 0 = _), rfl, by go_num, hkids, Below.refl _ _, RowO.nil _ _, rfl, rfl⟩
        case round =>
          clear hkids
          obtain ⟨q, m, acc, hgq, rfl, rfl, hkd, hB, hO, hal, hE⟩ := hrel
          have hq : q ≤ ks.length := by have := hgq.out; omega
          have HAL := Lib.hid hal.out
          have HEE := Lib.hid hE.out
          clear hal hE
          by_cases hql : q < ks.length
          · obtain ⟨m', hk1, hk2⟩ := hkd.get hql
            have hmm := Node.lt hk1
            have hm2 := Node.end_le hk1
            have HSK := Lib.hid (Node.scan HR.out hk1)
            have hsz := hk1.sized
            obtain ⟨g, hkA, hgk⟩ := hkn (by omega)
            subst hkA
            have hub := hgk q (ks.getD q undef) (by simp [List.getD_eq_getElem?_getD, List.getElem?_eq_getElem hql])
            have hub5 := cell_kept hB hub
            obtain ⟨OA, OC, rfl, _⟩ := own_slice hO.1
            have hO1 := hO.1
            have hrg := Lib.hid hO.2.2
            have hw1 : w1.heap.size ≤ wr.heap.size := hB.size
            have h99 : (acc.length + 1) * 8 ≤ 140737488355328 := by have := HAL.out; omega
            have HNX : Hid (kidsFrom l t ks.length (p + 1) = (acc ++ [(m : Int)]) ++ kidsFrom l t (ks.length - (q + 1)) m') := Lib.hid (by
              rw [HEE.out, show ks.length - q = (ks.length - (q + 1)) + 1 by omega, kidsFrom, endOf_ok HSK.out]; simp)
            clear hkd hO
            rcases hsz with ⟨nn, hu, hs1⟩ | ⟨bb, hu, hbb, hsc⟩
            · rw [hu] at hub5 hk1
              have hm1 : m' = m + 1 := by omega
              go_wp2_with (first
                | (at_builtin; refine push_all (.tmp 45) (.tmp 47) 27 3 (.int .i64 0) 1 8 rfl rfl Tryd.underlying27 infoInt rfl (by decide) (by decide) w1.heap.size _ acc.length (icells acc) (icells [(m : Int)]) rfl (hO1.alloc _) _ 1 1 rfl (fun h => by cases h) (icells_length _) (fun _ => ⟨_, 0, rfl, var_cells _ _ _ _ rfl⟩) (icells_one _) h99 (by simp; omega) ?_; intro v5 w5 ho5 hg5 ha5)
                | (go_at_call 69; refine (leafsize_any _ _).mono ?_; rintro e' w' ⟨rfl, rfl⟩))
              have HB5 : Hid (Below w1.heap.size w1 w5) := Lib.hid ((below_alloc hB hw1 _).grown hg5 (by simp; omega) (fun j hj => (hO1.lt j hj).1))
              have HO5 : Hid (RowO w5 w1.heap.size v5 (acc ++ [(m : Int)])) := Lib.hid (RowO.pushed (piece := [(m : Int)]) ho5 (by simp only [List.length_cons, List.length_nil]; omega) hrg.out (fun y hy => by simp at hy; subst hy; exact ⟨by omega, by omega⟩))
              clear ho5 hg5 ha5 hO1
              go_roundg (ks.length - (q + 1))
              case measure => have := hgq.out; omega
              case rel => exact ⟨q + 1, m', acc ++ [(m : Int)], by have := hgq.out; show _ = _; omega, by go_num, by rw [hm1]; go_num, hk2, HB5.out, HO5.out, by have := HAL.out; rw [List.length_append]; show acc.length + 1 = q + 1; omega, HNX.out⟩
            · rw [hu] at hub5 hk1
              obtain ⟨n, rfl⟩ : ∃ n, m' = m + n := ⟨m' - m, by omega⟩
              rw [show (((m + n : Nat) : Int) - (m : Int)) = (n : Int) by omega] at hsc
              have hbbl : bb < w1.heap.size := World.block_lt_of_cell? w1 _ hsc
              have hsc5 := cell_kept hB hsc
              go_wp2_with (first
                | (at_builtin; refine push_all (.tmp 45) (.tmp 47) 27 3 (.int .i64 0) 1 8 rfl rfl Tryd.underlying27 infoInt rfl (by decide) (by decide) w1.heap.size _ acc.length (icells acc) (icells [(m : Int)]) rfl (hO1.alloc _) _ 1 1 rfl (fun h => by cases h) (icells_length _) (fun _ => ⟨_, 0, rfl, var_cells _ _ _ _ rfl⟩) (icells_one _) h99 (by simp; omega) ?_; intro v5 w5 ho5 hg5 ha5; have hsc6 := hg5.cell (cell_kept (below_alloc0 _ _) hsc5) (fun e => by have := (hO1.lt bb e.symm).1; omega))
                | (go_at_call 68; refine (innersize_any _ _ _ hsc6).mono ?_; rintro e' w' ⟨rfl, rfl⟩))
              have HB5 : Hid (Below w1.heap.size w1 w5) := Lib.hid ((below_alloc hB hw1 _).grown hg5 (by simp; omega) (fun j hj => (hO1.lt j hj).1))
              have HO5 : Hid (RowO w5 w1.heap.size v5 (acc ++ [(m : Int)])) := Lib.hid (RowO.pushed (piece := [(m : Int)]) ho5 (by simp only [List.length_cons, List.length_nil]; omega) hrg.out (fun y hy => by simp at hy; subst hy; exact ⟨by omega, by omega⟩))
              clear ho5 hg5 ha5 hO1
              go_roundg (ks.length - (q + 1))
              case measure => have := hgq.out; omega
              case rel => exact ⟨q + 1, m + n, acc ++ [(m : Int)], by have := hgq.out; show _ = _; omega, by go_num, by go_num, hk2, HB5.out, HO5.out, by have := HAL.out; rw [List.length_append]; show acc.length + 1 = q + 1; omega, HNX.out⟩
          · have hqe : q = ks.length := by omega
            subst hqe
            go_wp2_with fail
            go_ret2
            refine ⟨_, rfl, below_then hb1 hb1.size hB, ?_⟩
            rw [HKZ.out, HEE.out, Nat.sub_self, show kidsFrom l t 0 m = [] from rfl, List.append_nil]
            exact hO.base hb1.size
  · have hq1 : (er == 0) = false := beq_eq_false_iff_ne.2 h0
    have hq2 : (er != 0) = true := bne_iff_ne.2 h0
    rw [if_neg h0]
    clear hz h0
    go_enter Tryd.func21, Tryd.ntmps21
    go_wp2_with fail
    refine cF.mono ?_
    rintro e w1 ⟨v, u, rfl, hb1, _⟩
    go_wp2_with fail
    go_ret2
    exact ⟨_, rfl, hb1, RowO.nil _ _⟩
end Go.Proofs.YtfhkbfofjjmbaaaDoor
