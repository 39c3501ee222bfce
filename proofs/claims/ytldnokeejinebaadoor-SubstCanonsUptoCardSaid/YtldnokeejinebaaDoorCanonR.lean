/- The walk of the document's way to number variables anew. Conditions: the rows together hold at most 2^43 numbers. -/
import Derived.Test.YtldnokeejinebaaDoorMore
set_option linter.unusedVariables false
set_option linter.unusedSimpArgs false
namespace Go.Proofs.YtldnokeejinebaaDoor
open Go.RowKit Go.Lib

/-- Another row of the call's own, while one is appended to. -/
theorem other_ne {w : World} {base n size : Nat} {e : TypeId} {xs : List Value} {x x' y : Value} (hy : w.ownsRow base e size y n xs) (hys : y.ownBlock ≠ none) (hne : y.ownBlock ≠ x.ownBlock)
    (hat : x'.ownBlock = x.ownBlock ∨ ∃ g, x'.ownBlock = some g ∧ w.heap.size ≤ g) : y.ownBlock ≠ x'.ownBlock := fun e => by
  rcases hat with h | ⟨g, h, hg⟩
  · exact hne (e.trans h)
  · have := (hy.lt g (e.trans h)).2; omega
/-- What memory holds between two rows. -/
structure RefW (w wr : World) (hb : Nat) (M V : Value) (us : List Value) (done : List (List Int)) (met : List Int) : Prop where
  below : Below hb w wr
  lo : hb ≤ wr.heap.size
  m : RowO wr hb M met
  own : wr.ownsRow hb 30 1 V done.length us
  rows : Done wr hb us done
  ms : M.ownBlock ≠ none
  vs : V.ownBlock ≠ none
  us_ : ∀ j, j < done.length → (us.getD j undef).ownBlock ≠ none
  mv : M.ownBlock ≠ V.ownBlock
  um : ∀ j, j < done.length → (us.getD j undef).ownBlock ≠ M.ownBlock
  uv : ∀ j, j < done.length → (us.getD j undef).ownBlock ≠ V.ownBlock
theorem RefW.over {w wr w5 : World} {hb : Nat} {M V : Value} {us : List Value} {done : List (List Int)} {met : List Int} (h : RefW w wr hb M V us done met) (hB : Below wr.heap.size wr w5) : RefW w w5 hb M V us done met :=
  ⟨below_then h.below h.lo hB, Nat.le_trans h.lo hB.size, h.m.below hB, own_kept h.own hB, h.rows.below hB, h.ms, h.vs, h.us_, h.mv, h.um, h.uv⟩
/-- What memory holds while a row is numbered. -/
structure RefI (w wr : World) (hb : Nat) (M V R : Value) (us : List Value) (done : List (List Int)) (met acc : List Int) : Prop where
  main : RefW w wr hb M V us done met
  r : RowO wr hb R acc
  rs : R.ownBlock ≠ none
  rm : R.ownBlock ≠ M.ownBlock
  rv : R.ownBlock ≠ V.ownBlock
  ur : ∀ j, j < done.length → (us.getD j undef).ownBlock ≠ R.ownBlock
theorem RefI.over {w wr w5 : World} {hb : Nat} {M V R : Value} {us : List Value} {done : List (List Int)} {met acc : List Int} (h : RefI w wr hb M V R us done met acc) (hB : Below wr.heap.size wr w5) : RefI w w5 hb M V R us done met acc :=
  ⟨h.main.over hB, h.r.below hB, h.rs, h.rm, h.rv, h.ur⟩
theorem RefI.start {w wr : World} {hb : Nat} {M V : Value} {us : List Value} {done : List (List Int)} {met : List Int} (h : RefW w wr hb M V us done met) : RefI w (wr.alloc (.cells #[] 3)) hb M V (.slice (some ⟨wr.heap.size, 0, none⟩) 0 0) us done met [] := by
  have hB := below_alloc0 wr (.cells #[] 3)
  refine ⟨h.over hB, ⟨World.ownsRow_made wr #[] 0 h.lo (by simp) (by simp), by simp, fun x hx => by cases hx⟩, (fun e => by cases e), fun e => ?_, fun e => ?_, fun j hj e => ?_⟩
  · exact Nat.lt_irrefl _ (h.m.1.lt _ e.symm).2
  · exact Nat.lt_irrefl _ (h.own.lt _ e.symm).2
  · exact Nat.lt_irrefl _ ((h.rows j hj).1.lt _ e).2
theorem RefI.pushR {w wr w5 : World} {hb : Nat} {M V R R' : Value} {us : List Value} {done : List (List Int)} {met acc acc' : List Int} (h : RefI w wr hb M V R us done met acc) (hr : RowO w5 hb R' acc') (hg : wr.grownBy w5 R.ownBlock)
    (hat : R'.ownBlock = R.ownBlock ∨ ∃ g, R'.ownBlock = some g ∧ wr.heap.size ≤ g) : RefI w w5 hb M V R' us done met acc' := by
  obtain ⟨k, r, rs, rm, rv, ur⟩ := h
  have hat' : R'.ownBlock ≠ none := by
    rcases hat with h | ⟨g, h, _⟩ <;> rw [h]
    · exact rs
    · exact fun e => by cases e
  exact ⟨⟨k.below.grown hg k.lo (fun j hj => (r.1.lt j hj).1), Nat.le_trans k.lo hg.size, k.m.kept hg (.inr (Ne.symm rm)), k.own.kept hg (.inr (Ne.symm rv)), k.rows.kept hg (fun j hj => .inr (ur j hj)), k.ms, k.vs, k.us_, k.mv, k.um, k.uv⟩,
    hr, hat', Ne.symm (other_ne k.m.1 k.ms (Ne.symm rm) hat), Ne.symm (other_ne k.own k.vs (Ne.symm rv) hat), fun j hj => other_ne (k.rows j hj).1 (k.us_ j hj) (ur j hj) hat⟩
theorem RefI.pushM {w wr w5 : World} {hb : Nat} {M M' V R : Value} {us : List Value} {done : List (List Int)} {met met' acc : List Int} (h : RefI w wr hb M V R us done met acc) (hr : RowO w5 hb M' met') (hg : wr.grownBy w5 M.ownBlock)
    (hat : M'.ownBlock = M.ownBlock ∨ ∃ g, M'.ownBlock = some g ∧ wr.heap.size ≤ g) : RefI w w5 hb M' V R us done met' acc := by
  obtain ⟨k, r, rs, rm, rv, ur⟩ := h
  have hat' : M'.ownBlock ≠ none := by
    rcases hat with h | ⟨g, h, _⟩ <;> rw [h]
    · exact k.ms
    · exact fun e => by cases e
  exact ⟨⟨k.below.grown hg k.lo (fun j hj => (k.m.1.lt j hj).1), Nat.le_trans k.lo hg.size, hr, k.own.kept hg (.inr (Ne.symm k.mv)), k.rows.kept hg (fun j hj => .inr (k.um j hj)), hat', k.vs, k.us_,
      Ne.symm (other_ne k.own k.vs (Ne.symm k.mv) hat), fun j hj => other_ne (k.rows j hj).1 (k.us_ j hj) (k.um j hj) hat, k.uv⟩,
    r.kept hg (.inr rm), rs, other_ne r.1 rs rm hat, rv, ur⟩
theorem RefI.pushV {w wr w5 : World} {hb : Nat} {M V V' R : Value} {us : List Value} {done : List (List Int)} {met acc : List Int} (h : RefI w wr hb M V R us done met acc) (ho : w5.ownsRow hb 30 1 V' (done.length + 1) (us ++ [R])) (hg : wr.grownBy w5 V.ownBlock)
    (hat : V'.ownBlock = V.ownBlock ∨ ∃ g, V'.ownBlock = some g ∧ wr.heap.size ≤ g) : RefW w w5 hb M V' (us ++ [R]) (done ++ [acc]) met := by
  obtain ⟨k, r, rs, rm, rv, ur⟩ := h
  have hul : us.length = done.length := by have := k.own.1; omega
  have hat' : V'.ownBlock ≠ none := by
    rcases hat with h | ⟨g, h, _⟩ <;> rw [h]
    · exact k.vs
    · exact fun e => by cases e
  have old : ∀ j, j < done.length → (us ++ [R]).getD j undef = us.getD j undef := fun j hj => by
    simp [List.getD_eq_getElem?_getD, List.getElem?_append_left (show j < us.length by omega)]
  have new : (us ++ [R]).getD done.length undef = R := by rw [← hul]; simp [List.getD_eq_getElem?_getD]
  have hD : Done w5 hb (us ++ [R]) done := fun j hj => by rw [old j hj]; exact (k.rows j hj).kept hg (.inr (k.uv j hj))
  refine ⟨k.below.grown hg k.lo (fun j hj => (k.own.lt j hj).1), Nat.le_trans k.lo hg.size, k.m.kept hg (.inr k.mv), by rw [List.length_append]; exact ho, hD.snoc (by rw [new]; exact r.kept hg (.inr rv)), k.ms, hat', fun j hj => ?_, other_ne k.m.1 k.ms k.mv hat, fun j hj => ?_, fun j hj => ?_⟩
  all_goals
    by_cases e : j < done.length
    · rw [old j e]
      first | exact k.us_ j e | exact k.um j e | exact other_ne (k.rows j e).1 (k.us_ j e) (k.uv j e) hat
    · have ej : j = done.length := by rw [List.length_append] at hj; simp at hj; omega
      rw [ej, new]
      first | exact rs | exact rm | exact other_ne r.1 rs rv hat
theorem idx_at {met : List Int} {c : Int} {n : Nat} (h : ∀ j, j < n → met.getD j 0 ≠ c) (hn : n ≤ met.length) (hc : n < met.length → met.getD n 0 = c) : met.idxOf c = n ∧ (n = met.length → c ∉ met) := by
  have hle : n ≤ met.idxOf c := by
    apply Classical.byContradiction
    intro hlt
    have h1 : met.idxOf c < n := by omega
    have h2 := List.getElem_idxOf (show met.idxOf c < met.length by omega)
    have := h _ h1
    rw [List.getD_eq_getElem?_getD, List.getElem?_eq_getElem (show met.idxOf c < met.length by omega)] at this
    exact this h2
  have hno : n = met.length → c ∉ met := fun e hm => by
    have := List.idxOf_lt_length_of_mem hm; omega
  refine ⟨?_, hno⟩
  by_cases e : n = met.length
  · rw [List.idxOf_eq_length (hno e), e]
  · have hlt : n < met.length := by omega
    have h1 := hc hlt
    rw [List.getD_eq_getElem?_getD, List.getElem?_eq_getElem hlt] at h1
    have hmem : c ∈ met := by rw [← h1]; exact List.getElem_mem _
    apply Classical.byContradiction
    intro hne
    have hlt2 : n < met.idxOf c := by omega
    have := List.not_of_lt_findIdx (p := fun x => x == c) (xs := met) (i := n) (by unfold List.idxOf at hlt2; exact hlt2)
    have h3 : met[n] = c := h1
    simp [h3] at this

set_option maxRecDepth 100000 in
set_option maxHeartbeats 2000000 in
theorem canon_ref_any (A : Option Addr) (l : List (List Int)) (c : Nat) (w : World) (hl : RowsIn w A l) (h24 : l.length * 24 ≤ 140737488355328) (hbk : bulkOf l ≤ 8796093022208) :
    Calls Tryd.prog 21 #[.slice A l.length c] w fun e w' => ∃ v us, e = .returned v ∧ Below w.heap.size w w' ∧ OwnRows w' w.heap.size v (canon l) us := by
  have m1 := hl.1
  obtain ⟨hb, hhb⟩ : ∃ x, x = w.heap.size := ⟨_, rfl⟩
  have hM0 := own_empty w 3 1 hb hhb
  have hV0 : ((w.alloc (.cells #[] 3)).alloc (.cells #[] 30)).ownsRow hb 30 1 (.slice (some ⟨hb + 1, 0, none⟩) 0 0) 0 [] := by
    have := World.ownsRow_made (base := hb) (e := 30) (size := 1) (w.alloc (.cells #[] 3)) #[] 0 (by simp; omega) (by simp) (by simp)
    rw [hhb] at this ⊢
    simpa using this
  go_enter Tryd.func21, Tryd.ntmps21
  go_wp2_with fail
  obtain ⟨w0, hw0⟩ : ∃ w0, w0 = (w.alloc (.cells #[] 3)).alloc (.cells #[] 30) := ⟨_, rfl⟩
  have h0 : RefW w w0 hb (.slice (some ⟨hb, 0, none⟩) 0 0) (.slice (some ⟨hb + 1, 0, none⟩) 0 0) [] [] [] := by
    rw [hw0]
    refine ⟨by rw [hhb]; exact below_alloc (below_alloc0 _ _) (by simp) _, by simp; omega, ⟨hM0.alloc _, by simp, fun x hx => by cases hx⟩, hV0, fun j hj => (by cases hj), (fun e => by cases e), (fun e => by cases e), fun j hj => (by cases hj), (fun e => by simp [Value.ownBlock] at e), fun j hj => (by cases hj), fun j hj => (by cases hj)⟩
  rw [← hw0, ← hhb]
  have HHB := Lib.hid hhb
  clear hw0 hhb hM0 hV0
  go_loopg [3, 4, 5] l.length (fun gk M V i wr => ∃ (k : Nat) (met : List Int) (done : List (List Int)) (us : List Value), Aside (gk + k = l.length) ∧ i = .int .i64 k ∧ RefW w wr hb M V us done met ∧ Aside (done.length = k) ∧ Aside (met.length + bulkOf (l.drop k) ≤ bulkOf l) ∧ Aside (canon l = canonOn met done (l.drop k)))
  case atStart => exact ⟨0, [], [], [], (rfl : l.length + 0 = _), rfl, h0, rfl, by simp only [List.length_nil, List.drop_zero]; show 0 + bulkOf l ≤ bulkOf l; omega, by rw [List.drop_zero]; rfl⟩
  case round =>
    clear h0
    obtain ⟨k, met, done, us, hg, rfl, hW, hdn, hmet, hE⟩ := hrel
    have hk : k ≤ l.length := by have := hg.out; omega
    have hB' : Below w.heap.size w wr := by rw [← HHB.out]; exact hW.below
    by_cases hlt : k < l.length
    · obtain ⟨b, off, t, B, d, rfl, hx, hc0, hd1, hd2, h8, ht⟩ := hl.at_ hlt
      have HX := Lib.hid hx
      have HC0 := Lib.hid hc0
      have m2 := ht.2.1
      have hI := RefI.start hW
      have HDN := Lib.hid hdn.out
      clear hx hc0 hdn
      go_wp2_with fail
      obtain ⟨w1, hw1⟩ : ∃ x, x = wr.alloc (.cells #[] 3) := ⟨_, rfl⟩
      rw [← hw1] at hI ⊢
      clear hw1 hW
      obtain ⟨V0, hV0⟩ : ∃ x, x = u4 := ⟨_, rfl⟩
      rw [← hV0] at hI ⊢
      have HV0 := Lib.hid hV0
      clear hV0
      go_loopg [3, 6, 7] t.length (fun gj M R i wx => ∃ (j : Nat) (met' acc : List Int), Aside (gj + j = t.length) ∧ i = .int .i64 j ∧ RefI w wx hb M V0 R us done met' acc ∧ Aside (acc.length = j) ∧ Aside (met'.length + (t.length - j) ≤ met.length + t.length) ∧ Aside (canonRow met [] t = canonRow met' acc (t.drop j)))
      case atStart => exact ⟨0, met, [], (rfl : t.length + 0 = _), rfl, hI, rfl, by show _ ≤ _; omega, by rw [List.drop_zero]; rfl⟩
      case round =>
        clear hI
        obtain ⟨j, met', acc, hgj, rfl, hI, hal, hml, hEj⟩ := hrel
        have hj : j ≤ t.length := by have := hgj.out; omega
        have hBx : Below w.heap.size w wr := by rw [← HHB.out]; exact hI.main.below
        have hws : w.heap.size ≤ wr.heap.size := hBx.size
        have hlo := hI.main.lo
        have hc0 := cell_kept hBx HC0.out
        obtain ⟨MA, MC, rfl, _⟩ := own_slice hI.main.m.1
        obtain ⟨RA, RC, rfl, _⟩ := own_slice hI.r.1
        have HAL := Lib.hid hal.out
        clear hal
        by_cases hjt : j < t.length
        · obtain ⟨b2, off2, x, rfl, hx, hx1, hx2, hxc⟩ := (ht.kept hBx).at_ hjt
          have HXX := Lib.hid hx
          have hmR := hI.r.1
          have hmM := hI.main.m.1
          have hacc : acc.length < t.length := by have := HAL.out; omega
          have hmb : met'.length ≤ 8796093022208 := by
            have h1 := hmet.out
            have h2 := hml.out
            have h3 := bulk_drop l k hlt
            rw [HX.out] at h3
            omega
          clear hx
          by_cases hneg : 0 ≤ x
          · have hN2 : hb ≤ (wr.alloc (.cells #[.int .i64 x] 3)).heap.size := by simp; omega
            go_wp2_with (at_builtin; go_loud (refine push_all (.tmp 35) (.tmp 43) 30 3 (.int .i64 0) 1 8 rfl rfl Tryd.underlying30 infoInt rfl (by decide) (by decide) hb _ acc.length (icells acc) (icells [x]) rfl (hmR.alloc _) _ 1 1 rfl (fun h => by cases h) (icells_length _) (fun _ => ⟨_, 0, rfl, var_cells _ _ _ _ rfl⟩) (icells_one _) (by omega) hN2 ?_); intro v' w3 ho3 hg3 ha3)
            have hI3 := (hI.over (below_alloc0 wr (.cells #[.int .i64 x] 3))).pushR (RowO.pushed (piece := [x]) ho3 (by simp only [List.length_cons, List.length_nil]; omega) hI.r.2.2 (fun y hy => by simp at hy; subst hy; exact ⟨hx1, hx2⟩)) hg3 (ha3.imp id (fun h => ⟨_, h, Nat.le_refl _⟩))
            go_roundg (t.length - (j + 1))
            case measure => have := hgj.out; omega
            case rel =>
              exact ⟨j + 1, met', acc ++ [x], by have := hgj.out; show _ = _; omega, by go_num, hI3, by have := HAL.out; rw [List.length_append]; show acc.length + 1 = j + 1; omega, by have := hml.out; show _ ≤ _; omega, hEj.out.trans (canonRow_plain hjt HXX.out hneg)⟩
          · have hIM := hI.main.m.ints'
            have HI := Lib.hid hI
            have hcV := canonRow_var (met := met') (acc := acc) hjt HXX.out hneg
            have HCV := Lib.hid hcV
            clear hcV hI hmR hmM
            go_wp2_with fail
            obtain ⟨wo, rfl⟩ : ∃ wo : World, wo = wr := ⟨_, rfl⟩
            go_loopg [8] met'.length (fun gn i wy => ∃ n : Nat, Aside (gn + n = met'.length) ∧ i = .int .i64 n ∧ Below wo.heap.size wo wy ∧ Aside (∀ p, p < n → met'.getD p 0 ≠ x))
            case atStart => exact ⟨0, (rfl : met'.length + 0 = _), rfl, Below.refl _ _, fun p hp => by omega⟩
            case round =>
              obtain ⟨n, hgn, rfl, hBn, hne⟩ := hrel
              have hn : n ≤ met'.length := by have := hgn.out; omega
              have HNE := Lib.hid hne.out
              have hxc' := cell_kept hBn hxc
              have hc0' := cell_kept hBn hc0
              have hI5 := HI.out.over hBn
              clear hne
              by_cases hnl : n < met'.length
              · obtain ⟨b3, off3, y, hMe, hy, hy1, hy2, hyc⟩ := (hIM.kept hBn).at_ hnl
                subst hMe
                have HY := Lib.hid hy
                clear hy
                by_cases hq : y = x
                · have hq1 : (y == x) = true := beq_iff_eq.2 hq
                  have hq2 : (y != x) = false := by simp [hq]
                  have HQ := Lib.hid hq
                  have hnb : ((n : Int) == (met'.length : Int)) = false := beq_eq_false_iff_ne.2 (by omega)
                  clear hq
                  have hIq := fun n => hI5.over (below_drawN (Below.refl _ _) n)
                  have hidx := idx_at (c := x) HNE.out hn (fun _ => by rw [HY.out]; exact HQ.out)
                  have HIDX := Lib.hid hidx
                  have hN2 : hb ≤ wr.heap.size := Nat.le_trans hlo hBn.size
                  clear hidx
                  go_wp2_with fail
                  go_quiet (fail)
                  go_wp2_with (at_builtin; go_loud (refine push_all (.tmp 79) (.tmp 82) 30 3 (.int .i64 0) 1 8 rfl rfl Tryd.underlying30 infoInt rfl (by decide) (by decide) hb _ acc.length (icells acc) (icells [-1 - (n : Int)]) rfl ((hIq _).r.1.alloc _) _ 1 1 rfl (fun h => by cases h) (icells_length _) (fun _ => ⟨_, 0, rfl, var_cells _ _ _ _ rfl⟩) (icells_one _) (by omega) (by simp; omega) ?_); intro v' w3 ho3 hg3 ha3)
                  have hI3 := ((hIq _).over (below_alloc0 _ _)).pushR (RowO.pushed (piece := [-1 - (n : Int)]) ho3 (by simp only [List.length_cons, List.length_nil]; omega) hI5.r.2.2 (fun y hy => by simp at hy; subst hy; exact ⟨by omega, by omega⟩)) hg3 (ha3.imp id (fun h => ⟨_, h, Nat.le_refl _⟩))
                  go_roundg (t.length - (j + 1))
                  case measure => have := hgj.out; omega
                  case rel =>
                    have hmem : x ∈ met' := by
                      have h1 := HY.out
                      rw [List.getD_eq_getElem?_getD, List.getElem?_eq_getElem hnl] at h1
                      have h2 : met'[n] = x := h1.trans HQ.out
                      rw [← h2]; exact List.getElem_mem _
                    refine ⟨j + 1, met', acc ++ [-1 - (n : Int)], by have := hgj.out; show _ = _; omega, by go_num, hI3, by have := HAL.out; rw [List.length_append]; show acc.length + 1 = j + 1; omega, by have := hml.out; show _ ≤ _; omega, ?_⟩
                    have := hEj.out.trans HCV.out
                    rw [meet_in hmem, HIDX.out.1] at this
                    exact this
                · have hq1 : (y == x) = false := beq_eq_false_iff_ne.2 hq
                  have hq2 : (y != x) = true := bne_iff_ne.2 hq
                  have HQ := Lib.hid hq
                  clear hq
                  go_wp2_with fail
                  go_quiet (fail)
                  go_wp2_with fail
                  go_roundg (met'.length - (n + 1))
                  case measure => have := hgn.out; omega
                  case rel =>
                    refine ⟨n + 1, by have := hgn.out; show _ = _; omega, by go_num, below_drawN hBn _, fun p hp => ?_⟩
                    by_cases e : p = n
                    · subst e; rw [HY.out]; exact HQ.out
                    · exact HNE.out p (by omega)
              · have hnb : ((n : Int) == (met'.length : Int)) = true := beq_iff_eq.2 (by omega)
                have hIq := fun n => hI5.over (below_drawN (Below.refl _ _) n)
                have hidx := idx_at (c := x) HNE.out hn (fun h => absurd h hnl)
                have HIDX := Lib.hid hidx
                have hnl' : n = met'.length := by omega
                have hN2 : hb ≤ wr.heap.size := Nat.le_trans hlo hBn.size
                have HNL := Lib.hid hnl'
                clear hidx hnl'
                go_wp2_with fail
                go_quiet (fail)
                go_wp2_with (first
                  | (at_builtin; go_loud (refine push_all (.tmp 69) (.tmp 77) 30 3 (.int .i64 0) 1 8 rfl rfl Tryd.underlying30 infoInt rfl (by decide) (by decide) hb _ met'.length (icells met') (icells [x]) rfl ((hIq _).main.m.1.alloc _) _ 1 1 rfl (fun h => by cases h) (icells_length _) (fun _ => ⟨_, 0, rfl, var_cells _ _ _ _ rfl⟩) (icells_one _) (by omega) (by simp; omega) ?_); intro v2 w2 ho2 hg2 ha2; have hI7 := ((hIq _).over (below_alloc0 _ _)).pushM (RowO.pushed (piece := [x]) ho2 (by simp only [List.length_cons, List.length_nil]; omega) hI5.main.m.2.2 (fun y hy => by simp at hy; subst hy; exact ⟨hx1, hx2⟩)) hg2 (ha2.imp id (fun h => ⟨_, h, Nat.le_refl _⟩)); have hl7 := hI7.main.lo)
                  | (at_builtin; go_loud (refine push_all (.tmp 79) (.tmp 82) 30 3 (.int .i64 0) 1 8 rfl rfl Tryd.underlying30 infoInt rfl (by decide) (by decide) hb _ acc.length (icells acc) (icells [-1 - (n : Int)]) rfl (hI7.r.1.alloc _) _ 1 1 rfl (fun h => by cases h) (icells_length _) (fun _ => ⟨_, 0, rfl, var_cells _ _ _ _ rfl⟩) (icells_one _) (by omega) (by simp; omega) ?_); intro v' w3 ho3 hg3 ha3))
                have hI3 := (hI7.over (below_alloc0 _ _)).pushR (RowO.pushed (piece := [-1 - (n : Int)]) ho3 (by simp only [List.length_cons, List.length_nil]; omega) hI5.r.2.2 (fun y hy => by simp at hy; subst hy; exact ⟨by omega, by omega⟩)) hg3 (ha3.imp id (fun h => ⟨_, h, Nat.le_refl _⟩))
                go_roundg (t.length - (j + 1))
                case measure => have := hgj.out; omega
                case rel =>
                  have hmem : x ∉ met' := HIDX.out.2 HNL.out
                  refine ⟨j + 1, met' ++ [x], acc ++ [-1 - (n : Int)], by have := hgj.out; show _ = _; omega, by go_num, hI3, by have := HAL.out; rw [List.length_append]; show acc.length + 1 = j + 1; omega, by have := hml.out; rw [List.length_append]; show met'.length + 1 + _ ≤ _; omega, ?_⟩
                  have := hEj.out.trans HCV.out
                  rw [HIDX.out.1, show meet met' x = met' ++ [x] from if_neg hmem] at this
                  exact this
        · have hjn : j = t.length := by omega
          subst hjn
          have hd1' := HDN.out
          have hvV := hI.main.own
          have hone : ∀ u ∈ [Value.slice RA acc.length RC], u.oneCell' = true := by intro u hu; simp at hu; rw [hu]; rfl
          have hdn24 : (done.length + 1) * 24 ≤ 140737488355328 := by omega
          go_wp2_with (at_builtin; go_loud (refine push_all (.tmp 84) (.tmp 86) 37 30 (.slice none 0 0) 1 24 rfl rfl Tryd.underlying37 infoRowI rfl (by decide) (by decide) hb _ done.length us [.slice RA acc.length RC] rfl (hvV.alloc _) _ 1 1 rfl (fun h => by cases h) rfl (fun _ => ⟨_, 0, rfl, var_cells _ _ _ _ rfl⟩) hone hdn24 (by simp; omega) ?_); intro v' w3 ho3 hg3 ha3)
          go_roundg (l.length - (k + 1))
          case measure => have := hg.out; omega
          case rel =>
            have hW3 := (hI.over (below_alloc0 _ _)).pushV (V' := v') (w5 := w3) ho3 hg3 (ha3.imp id (fun h => ⟨_, h, Nat.le_refl _⟩))
            have hcr := hEj.out.trans canonRow_end
            refine ⟨k + 1, met', done ++ [acc], _, by have := hg.out; show _ = _; omega, by go_num, hW3, by rw [List.length_append]; show done.length + 1 = k + 1; omega, ?_, ?_⟩
            · have h1 := hmet.out
              have h2 := hml.out
              have h3 := bulk_drop l k hlt
              rw [HX.out] at h3
              show _ ≤ _
              omega
            · have := hE.out.trans (canonOn_step hlt HX.out)
              rw [hcr] at this
              exact this
    · have hkn : k = l.length := by omega
      subst hkn
      go_wp2_with fail
      go_ret
      have hc := hE.out.trans canonOn_end
      rw [hc]
      have hdl := hdn.out
      exact ⟨_, us, rfl, by rw [← HHB.out]; exact hW.below, ⟨by have := hW.own.1; omega, by rw [← HHB.out]; exact hW.own, by omega, fun j hj => by rw [← HHB.out]; exact hW.rows j hj⟩⟩
end Go.Proofs.YtldnokeejinebaaDoor
