/- What the law lends and whether it is kept, what it spoils, which of some places it means, and the document's signature. Conditions: none. -/
import Derived.Test.YtfhkbfofjjmbaaaDoorMake
import Derived.Test.YtfhkbfofjjmbaaaDoorSame
import Derived.Handy
set_option linter.unusedVariables false
set_option linter.unusedSimpArgs false
namespace Go.Proofs.YtfhkbfofjjmbaaaDoor
open Go.RowKit Go.Lib

/-- A row with marks behind its length. -/
def Lent (w : World) (base g : Nat) (t : List Int) : Prop := RowO w base (.slice (some ⟨g, 0, none⟩) (t.length + 3) (t.length + 3)) (t ++ [77, 77, 77])
theorem set_at {acc r : List Int} {k : Nat} {x d : Int} (ha : acc.length = k) : (acc ++ x :: r).set k d = acc ++ d :: r := by
  subst ha
  rw [List.set_append_right _ _ (Nat.le_refl _)]
  simp
theorem Lent.ints {w : World} {base g : Nat} {t : List Int} (h : Lent w base g t) : Ints w (some ⟨g, 0, none⟩) t := RowO.take h (by simp)
theorem Lent.kept {w w' : World} {base g : Nat} {t : List Int} (h : Lent w base g t) (hb : Below w.heap.size w w') : Lent w' base g t := RowO.below h hb
theorem Lent.grown {w w' : World} {base g : Nat} {t : List Int} {row : Option Nat} (h : Lent w base g t) (hg : w.grownBy w' row) (hne : some g ≠ row) : Lent w' base g t := RowO.kept h hg (.inr hne)
set_option maxRecDepth 100000 in
set_option maxHeartbeats 2000000 in
theorem lent_any (B : Option Addr) (t : List Int) (tc : Nat) (w : World) (ht : Ints w B t) (h8 : t.length * 8 ≤ 140737488351232) :
    Calls Tryd.prog 13 #[.slice B t.length tc] w fun e w' => ∃ g, e = .returned (.slice (some ⟨g, 0, none⟩) t.length (t.length + 3)) ∧ Below w.heap.size w w' ∧ w.heap.size ≤ g ∧ Lent w' w.heap.size g t := by
  have m2 := ht.2.1
  go_enter Tryd.func13, Tryd.ntmps13
  go_wp2_with (first
    | (at_make; refine wpList_make_ints rfl _ _ rfl _ _ (t.length + 3) rfl rfl (by omega) (by omega) (by omega) ?_; intro w1 hO1 hb1)
    | (guard_target = wpList _ _ _ (_ :: _) _ _; refine wpList_copy_ints rfl _ _ rfl w.heap.size (t.length + 3) _ (List.replicate (t.length + 3) 0) B t tc w.heap.size rfl rfl hO1 (by simp) (ht.kept hb1) (by omega) w w.heap.size hb1 (Nat.le_refl _) ?_; intro w2 hO2 hb2))
  have hrest : (List.replicate (t.length + 3) (0 : Int)).drop t.length = [0, 0, 0] := by rw [List.drop_replicate, Nat.add_sub_cancel_left]; rfl
  rw [hrest] at hO2
  clear hO1 hb1 hrest
  go_loopg [4] 3 (fun gk i wx => ∃ j : Nat, Aside (gk + j = 3) ∧ i = .int .i64 ((t.length + j : Nat) : Int) ∧ Below w.heap.size w wx ∧ RowO wx w.heap.size (.slice (some ⟨w.heap.size, 0, none⟩) (t.length + 3) (t.length + 3)) (t ++ List.replicate j 77 ++ List.replicate (3 - j) 0))
  case atStart => exact ⟨0, (rfl : 3 + 0 = 3), rfl, hb2, by simpa using hO2⟩
  case round =>
    clear hO2 hb2
    obtain ⟨j, hg, rfl, hB, hO⟩ := hrel
    have hj : j ≤ 3 := by have := hg.out; omega
    have hlen : (t ++ List.replicate j (77 : Int) ++ List.replicate (3 - j) 0).length = t.length + 3 := by simp; omega
    by_cases hlt : j < 3
    · obtain ⟨r, hr⟩ : ∃ r, 3 - j = r + 1 := ⟨3 - j - 1, by omega⟩
      have hO1 := hO.1
      rw [hlen] at hO1
      have hcell := hO1.cellAt (t.length + j) (by omega)
      rw [icells_at _ (t.length + j) (by rw [hlen]; omega)] at hcell
      have hfz := hO1.frozenAt (t.length + j)
      have hst := RowO.stored (k := t.length + j) (d := 77) hO hlen.symm ⟨by omega, by omega⟩
      have hbs := below_store (k := t.length + j) (u := .int .i64 77) hO hB (Nat.le_refl _)
      rw [hr, List.replicate_succ, set_at (by simp)] at hst
      have e1 : t ++ List.replicate j (77 : Int) ++ 77 :: List.replicate r 0 = t ++ List.replicate (j + 1) 77 ++ List.replicate (3 - (j + 1)) 0 := by
        rw [show 3 - (j + 1) = r by omega, List.replicate_succ' ]; simp
      rw [e1] at hst
      have HST := Lib.hid hst
      have HBS := Lib.hid hbs
      generalize (t ++ List.replicate j (77 : Int) ++ List.replicate (3 - j) 0).getD (t.length + j) 0 = y at hcell
      clear hst hbs hO hO1 hlen e1 hr
      go_wp2_with fail
      go_roundg (3 - (j + 1))
      case measure => have := hg.out; omega
      case rel => exact ⟨j + 1, by have := hg.out; show _ = _; omega, by go_num, HBS.out, HST.out⟩
    · have hj3 : j = 3 := by omega
      subst hj3
      have HO := Lib.hid hO
      clear hO hlen
      go_wp2_with fail
      go_ret
      refine ⟨_, rfl, hB, Nat.le_refl _, ?_⟩
      have := HO.out
      unfold Lent
      simpa using this
set_option maxRecDepth 100000 in
set_option maxHeartbeats 2000000 in
theorem kept_any (B : Option Addr) (t : List Int) (tc base g : Nat) (w : World) (ht : Ints w B t) (h8 : t.length * 8 ≤ 140737488351232) (hL : Lent w base g t) :
    Calls Tryd.prog 19 #[.slice (some ⟨g, 0, none⟩) t.length (t.length + 3), .slice B t.length tc] w fun e w' => e = .returned (.bool true) ∧ Below w.heap.size w w' := by
  have m2 := ht.2.1
  have hI : Ints w (some ⟨g, 0, none⟩) (t ++ [77, 77, 77]) := by
    obtain ⟨A, c, h1, h2⟩ := RowO.ints hL
    injection h1 with h1 _ _
    rw [h1]; exact h2
  have hlen : (t ++ [77, 77, 77]).length = t.length + 3 := by simp
  clear hL
  go_enter Tryd.func19, Tryd.ntmps19
  go_wp2_with fail
  go_loopg [5] (t.length + 3) (fun gk i wx => ∃ k : Nat, Aside (gk + k = t.length + 3) ∧ i = .int .i64 k ∧ Below w.heap.size w wx)
  case atStart => exact ⟨0, (rfl : t.length + 3 + 0 = _), rfl, Below.refl _ _⟩
  case round =>
    obtain ⟨k, hg, rfl, hB⟩ := hrel
    have hk : k ≤ t.length + 3 := by have := hg.out; omega
    by_cases hlt : k < t.length + 3
    · obtain ⟨b1, off1, y, he, hy, hy1, hy2, hyc⟩ := (hI.kept hB).at_ (k := k) (by rw [hlen]; exact hlt)
      injection he with he
      injection he with e1 e2 _
      subst e1 e2
      rw [Nat.zero_add] at hyc
      by_cases hkt : k < t.length
      · obtain ⟨b, off, x, rfl, hx, hx1, hx2, hxc⟩ := (ht.kept hB).at_ hkt
        have hxy : y = x := by rw [← hx, ← hy]; simp [List.getD_eq_getElem?_getD, List.getElem?_append_left hkt]
        subst hxy
        have hq1 : (y != y) = false := by simp
        have hkt2 : ¬ t.length ≤ k := by omega
        clear hx hy
        go_wp2_with fail
        refine wp_region_ext (I := Over wr) (by kernel_rfl) (by kernel_rfl) (Over.refl wr) ?_
        have f1 := Over.cell hyc
        have f2 := Over.cell hxc
        repeat (go_big_quiet_step (fail))
        try refine wpQuiet_nil ?_
        intro w' hw'
        have hB' := below_then hB hB.size hw'
        go_wp2_with fail
        go_roundg (t.length + 3 - (k + 1))
        case measure => have := hg.out; omega
        case rel => exact ⟨k + 1, by have := hg.out; show _ = _; omega, by go_num, hB'⟩
      · have hy7 : y = 77 := by
          rw [← hy]
          obtain ⟨d, rfl⟩ : ∃ d, k = t.length + d := ⟨k - t.length, by omega⟩
          have hd : d < 3 := by omega
          rw [List.getD_eq_getElem?_getD, List.getElem?_append_right (by omega), Nat.add_sub_cancel_left]
          match d, hd with
          | 0, _ => rfl
          | 1, _ => rfl
          | 2, _ => rfl
        subst hy7
        have hkt' : ¬ k < t.length := by omega
        have hkt2 : t.length ≤ k := by omega
        clear hy
        go_wp2_with fail
        refine wp_region_ext (I := Over wr) (by kernel_rfl) (by kernel_rfl) (Over.refl wr) ?_
        have f1 := Over.cell hyc
        repeat (go_big_quiet_step (fail))
        try refine wpQuiet_nil ?_
        intro w' hw'
        have hB' := below_then hB hB.size hw'
        go_wp2_with fail
        go_roundg (t.length + 3 - (k + 1))
        case measure => have := hg.out; omega
        case rel => exact ⟨k + 1, by have := hg.out; show _ = _; omega, by go_num, hB'⟩
    · have hke : k = t.length + 3 := by omega
      subst hke
      go_wp2_with fail
      go_ret
      exact ⟨rfl, hB⟩
theorem grown_then {a b c : World} {row row' : Option Nat} (h : a.grownBy b row) (k : b.grownBy c row') (hr : ∀ j, row' = some j → a.heap.size ≤ j ∨ row = some j) : a.grownBy c row := h.andThen k hr
theorem grown_alloc {w w' : World} {row : Option Nat} (h : w.grownBy w' row) (o : Obj) : w.grownBy (w'.alloc o) row := h.andThen (World.grownBy_alloc _ _ none) (fun j hj => by cases hj)
set_option maxRecDepth 100000 in
set_option maxHeartbeats 2000000 in
theorem spoil_any (base : Nat) (v : Value) (t : List Int) (w : World) (h8 : (t.length + 2) * 8 ≤ 140737488355328) (hO : RowO w base v t) :
    Calls Tryd.prog 20 #[v] w fun e w' => e = .returned (.tuple #[]) ∧ w.grownBy w' v.ownBlock := by
  obtain ⟨n, hn⟩ : ∃ n, n = t.length := ⟨_, rfl⟩
  have hO1 := hO.1
  rw [← hn] at hO1 h8
  obtain ⟨A, c, rfl, hAn⟩ := own_slice hO1
  have HN := Lib.hid hn
  have HO := Lib.hid hO
  clear hn hO1 hO
  go_enter Tryd.func20, Tryd.ntmps20
  go_wp2_with fail
  go_loopg [2] n (fun gk i wx => ∃ (k : Nat) (u : List Int), Aside (gk + k = n) ∧ i = .int .i64 k ∧ Aside (u.length = n) ∧ RowO wx base (.slice A n c) u ∧ w.grownBy wx (Value.slice A n c).ownBlock)
  case atStart => exact ⟨0, t, (rfl : n + 0 = n), rfl, HN.out.symm, HO.out, World.grownBy.refl _ _⟩
  case round =>
    clear HN HO
    obtain ⟨k, u, hg, rfl, hu, hO, hG⟩ := hrel
    have hk : k ≤ n := by have := hg.out; omega
    have hO1 := hO.1
    rw [hu.out] at hO1
    by_cases hlt : k < n
    · obtain ⟨g, cap, hv, hgb, hgl⟩ := hO1.form (by omega)
      injection hv with hv1 hv2 hv3
      subst hv1 hv3
      have hcell := hO1.cellAt k (by omega)
      rw [icells_at _ k (by rw [hu.out]; exact hlt)] at hcell
      have hfz := hO1.frozenAt k
      have hst := RowO.stored (k := k) (d := 99) hO hu.out.symm ⟨by omega, by omega⟩
      have hgs := hG.trans (hO1.stored k (.int .i64 99)).2
      have HST := Lib.hid hst
      have HGS := Lib.hid hgs
      have HU := Lib.hid (show (u.set k 99).length = n by rw [List.length_set]; exact hu.out)
      generalize u.getD k 0 = y at hcell
      clear hst hgs hO hO1 hu hG
      go_wp2_with fail
      go_roundg (n - (k + 1))
      case measure => have := hg.out; omega
      case rel => exact ⟨k + 1, u.set k 99, by have := hg.out; show _ = _; omega, by go_num, HU.out, HST.out, HGS.out⟩
    · have hke : k = n := by omega
      subst hke
      have hHw : ∀ j, (Value.slice A k c).ownBlock = some j → j < wr.heap.size := fun j hj => (hO1.lt j hj).2
      have hbw : base ≤ wr.heap.size ∨ True := .inr trivial
      have HG := Lib.hid hG
      have hO0 : wr.ownsRow 0 3 1 (.slice A k c) k (icells u) := ⟨hO1.1, by rcases hO1.2 with h | ⟨g, cap, cur, h1, h2, h3⟩; exact .inl h; exact .inr ⟨g, cap, cur, h1, Nat.zero_le _, h3⟩⟩
      clear hO hu hG hO1
      go_wp2_with (
         at_builtin
         refine push_all (.tmp 12) (.tmp 13) 27 3 (.int .i64 0) 1 8 rfl rfl Tryd.underlying27 infoInt rfl (by decide) (by decide) 0 _ k (icells u) (icells [98, 97]) rfl (hO0.alloc _) _ 2 2 rfl (fun h => by cases h) (icells_length _) (fun _ => ⟨_, 0, rfl, fun j y hj => by rw [World.cell?_alloc_new]; match j with | 0 => simpa [icells] using hj | 1 => simpa [icells] using hj | j + 2 => simp [icells] at hj⟩) (icells_one _) h8 (by simp) ?_
         intro v5 w5 ho5 hg5 ha5
         obtain ⟨g5, cap5, rfl, _, hgl5⟩ := ho5.form (by omega)
         have hc5 := ho5.cellAt (k + 1) (by omega)
         have hl5 : (icells u ++ icells [98, 97])[k + 1]? = some (.int .i64 97) := by
           have hul : (icells u).length = k := by have := ho5.1; simp [icells] at this ⊢; omega
           rw [List.getElem?_append_right (by omega), hul, Nat.add_sub_cancel_left]; rfl
         rw [hl5] at hc5
         have hf5 := ho5.frozenAt (k + 1)
         have hs5 := (ho5.stored (k + 1) (.int .i64 96)).2
         have hfin : w.grownBy (w5.setCell ⟨g5, k + 1, none⟩ (.int .i64 96)) (Value.slice A k c).ownBlock := by
           refine grown_then ((grown_alloc HG.out _).trans hg5) hs5 (fun j hj => ?_)
           cases hj
           rcases ha5 with h | h
           · exact .inr h.symm
           · left
             have h1 := Option.some.inj (show some g5 = some _ from h)
             have := HG.out.size
             simp at h1
             omega
         have HF := Lib.hid hfin
         obtain ⟨N, hN⟩ : ∃ N, N = k + 2 := ⟨_, rfl⟩
         have hN1 : 1 ≤ N := by omega
         have hNm : N ≤ 140737488355328 := by omega
         have hNe : k + 1 = N - 1 := by omega
         rw [hNe] at hc5 hf5 HF
         rw [← hN]
         have hgw5 : g5 < w5.heap.size := hgl5
         clear hfin hs5 hl5 ho5 hg5 ha5 hO0 hN hNe hgl5 h8)
      go_end0
      exact ⟨rfl, HF.out⟩
end Go.Proofs.YtfhkbfofjjmbaaaDoor
