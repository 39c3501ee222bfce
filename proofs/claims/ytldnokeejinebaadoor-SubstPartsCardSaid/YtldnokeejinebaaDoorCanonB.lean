/- The walk of the program's way to number variables anew. Conditions: the rows together hold at most 2^43 numbers. -/
import Derived.Test.YtldnokeejinebaaDoorCanon
import Derived.Deep.OwnRows
set_option linter.unusedVariables false
set_option linter.unusedSimpArgs false
namespace Go.Proofs.YtldnokeejinebaaDoor
open Go.RowKit Go.Lib

/-- What memory holds while a row is numbered. -/
structure InW (w wr : World) (mb N : Nat) (us : List Value) (done : List (List Int)) (u : Value) (row met : List Int) : Prop where
  below : Below mb w wr
  map : MapIs wr mb met.length (metF met)
  own : wr.ownsRow (mb + 1) 30 1 (.slice (some ⟨mb + 1, 0, none⟩) N N) N us
  rows : Done wr (mb + 2) us done
  urow : RowO wr (mb + 2) u row
theorem Done.apart {w : World} {base : Nat} {us : List Value} {done : List (List Int)} (h : Done w base us done) {g : Nat} (hg : g < base) : ∀ j, j < done.length → (us.getD j undef).ownBlock = none ∨ (us.getD j undef).ownBlock ≠ some g := fun j hj =>
  .inr fun e => by have := ((h j hj).1.lt g e).1; omega
theorem Done.snoc {w : World} {base : Nat} {us : List Value} {done : List (List Int)} {acc : List Int} (h : Done w base us done) (hu : RowO w base (us.getD done.length undef) acc) : Done w base us (done ++ [acc]) := fun j hj => by
  by_cases e : j = done.length
  · subst e
    have : (done ++ [acc]).getD done.length [] = acc := by simp [List.getD_eq_getElem?_getD]
    rw [this]; exact hu
  · have hj' : j < done.length := by simp at hj; omega
    have : (done ++ [acc]).getD j [] = done.getD j [] := by simp [List.getD_eq_getElem?_getD, List.getElem?_append_left hj']
    rw [this]; exact h j hj'
theorem RowO.far {w : World} {base g : Nat} {v : Value} {t : List Int} (h : RowO w base v t) (hg : g < base) : v.ownBlock = none ∨ v.ownBlock ≠ some g := .inr fun e => by have := (h.1.lt g e).1; omega
theorem InW.put {w wr w5 : World} {mb N : Nat} {us : List Value} {done : List (List Int)} {u : Value} {row met : List Int} {c : Int} (h : InW w wr mb N us done u row met) (hc : c ∉ met) (hmb : mb ≤ wr.heap.size)
    (hg : wr.grownBy w5 (some mb)) (hm : MapIs w5 mb (if (metF met c).isSome then met.length else met.length + 1) (fun d => if d = c then some (.int .i64 (met.length : Int)) else metF met d)) : InW w w5 mb N us done u row (meet met c) := by
  obtain ⟨h1, h2, h3, h4, h5⟩ := h
  have e1 : metF met c = none := by unfold metF; rw [if_neg hc]
  have e2 : (meet met c).length = met.length + 1 := by unfold meet; rw [if_neg hc]; simp
  rw [e1] at hm
  refine ⟨h1.grown hg hmb (fun j hj => by cases hj; exact Nat.le_refl _), ?_, h3.kept hg (.inr (by simp [Value.ownBlock])), h4.kept hg (h4.apart (by omega)), h5.kept hg (h5.far (by omega))⟩
  rw [e2]
  exact hm.ext fun d _ => metF_meet hc d
theorem InW.over {w wr w5 : World} {mb N : Nat} {us : List Value} {done : List (List Int)} {u : Value} {row met : List Int} (h : InW w wr mb N us done u row met) (hb : Below wr.heap.size wr w5) : InW w w5 mb N us done u row met := by
  obtain ⟨h1, h2, h3, h4, h5⟩ := h
  exact ⟨below_then h1 (by have := h2.lt; omega) hb, h2.below hb, own_kept h3 hb, h4.below hb, h5.below hb⟩
theorem InW.store {w wr : World} {mb N g n cap k : Nat} {us : List Value} {done : List (List Int)} {row met : List Int} {d : Int} (h : InW w wr mb N us done (.slice (some ⟨g, 0, none⟩) n cap) row met) (hn : n = row.length)
    (hap : ∀ j, j < done.length → (us.getD j undef).ownBlock = none ∨ (us.getD j undef).ownBlock ≠ some g) (hg : mb + 2 ≤ g) (hd : -9223372036854775808 ≤ d ∧ d ≤ 9223372036854775807) :
    InW w (wr.setCell ⟨g, k, none⟩ (.int .i64 d)) mb N us done (.slice (some ⟨g, 0, none⟩) n cap) (row.set k d) met := by
  obtain ⟨h1, h2, h3, h4, h5⟩ := h
  have ht := turned_set wr g k (.int .i64 d)
  refine ⟨below_set h1 (by show mb ≤ g; omega) _, h2.kept ht (by simp; omega), h3.kept ht (.inr (by simp [Value.ownBlock]; omega)), h4.kept ht hap, h5.stored hn hd⟩

theorem infoRowI : (Tryd.prog.info? 30).map (fun i => (i.zero, i.size, i.bytes)) = some (some (.slice none 0 0), 1, 24) := by kernel_rfl
theorem canon_put {w wr w4 : World} {mb N ix : Nat} {us : List Value} {done : List (List Int)} {u : Value} {row met : List Int} {c : Int} (h : InW w wr mb N us done u row met) (hc : c ∉ met) (hix : ix = met.length)
    (hm : MapIs w4 mb (if (metF met c).isSome then ix else ix + 1) (fun d => if d = c then some (.int .i64 (ix : Int)) else metF met d)) (hg : wr.grownBy w4 (some mb)) : InW w w4 mb N us done u row (meet met c) := by
  subst hix
  exact h.put hc (Nat.le_of_lt h.map.lt) hg hm
theorem zeroInt (w : World) : (zeroValue 3).run Tryd.prog w = .ok (.int .i64 0) w := by kernel_rfl
set_option maxRecDepth 100000 in
set_option maxHeartbeats 8000000 in
theorem canon_any (A : Option Addr) (l : List (List Int)) (c : Nat) (w : World) (hl : RowsIn w A l) (h24 : l.length * 24 ≤ 140737488355328) (hbk : bulkOf l ≤ 8796093022208) :
    Calls Tryd.prog 20 #[.slice A l.length c] w fun e w' => ∃ v us, e = .returned v ∧ Below w.heap.size w w' ∧ OwnRows w' (w.heap.size + 1) v (canon l) us ∧ (canon l).length = l.length ∧
      ∀ j k, j < l.length → k < l.length → j ≠ k → (us.getD j undef).ownBlock = none ∨ (us.getD j undef).ownBlock ≠ (us.getD k undef).ownBlock := by
  have m1 := hl.1
  have hmm := @run_makeMap Tryd.prog
  have hmk : ∀ W : World, (Instr.makeSlice 37 (.int .i64 (l.length : Int)) (.int .i64 (l.length : Int))).run Tryd.prog W = .ok (.slice (some ⟨W.heap.size, 0, none⟩) l.length l.length) (W.alloc (.cells (madeCells #[.slice none 0 0] l.length) 30)) := fun W =>
    run_make_row' 37 30 (.slice none 0 0) 24 Tryd.underlying37 infoRowI rfl .i64 .i64 l.length (by omega) (by omega) W
  go_enter Tryd.func20, Tryd.ntmps20
  go_wp2_with fail
  obtain ⟨mb, hmb⟩ : ∃ x, x = w.heap.size := ⟨_, rfl⟩
  obtain ⟨w0, hw0⟩ : ∃ w0, w0 = (w.alloc (.map #[] 0)).alloc (.cells (madeCells #[.slice none 0 0] l.length) 30) := ⟨_, rfl⟩
  have h0 : Below mb w w0 := by rw [hw0, hmb]; exact below_alloc (below_alloc0 _ _) (by simp) _
  have h1 : MapIs w0 mb 0 (metF []) := by
    rw [hw0, hmb]; exact ((MapIs.made w).below (below_alloc0 _ _)).ext fun d _ => by simp [metF]
  have h2 : w0.ownsRow (mb + 1) 30 1 (.slice (some ⟨mb + 1, 0, none⟩) l.length l.length) l.length (madeCells #[.slice none 0 0] l.length).toList := by
    have := World.ownsRow_lit (base := mb + 1) (e := 30) (size := 1) (w.alloc (.map #[] 0)) (madeCells #[.slice none 0 0] l.length) l.length (by simp; omega) (by simp only [maxLen]; omega) (by simp [madeCells])
    rw [hw0, hmb]
    simpa [hmb] using this
  rw [← hw0, ← hmb]
  have HMB := Lib.hid hmb
  clear hw0 hmb hmm hmk
  go_loopg [17] l.length (fun gk i wr => ∃ (k : Nat) (met : List Int) (done : List (List Int)) (us : List Value), Aside (gk + k = l.length) ∧ i = .int .i64 k ∧ Below mb w wr ∧ MapIs wr mb met.length (metF met) ∧
    wr.ownsRow (mb + 1) 30 1 (.slice (some ⟨mb + 1, 0, none⟩) l.length l.length) l.length us ∧ Done wr (mb + 2) us done ∧ Aside (done.length = k) ∧ Aside (∀ i j, i < j → j < done.length → (us.getD i undef).ownBlock = none ∨ (us.getD i undef).ownBlock ≠ (us.getD j undef).ownBlock) ∧
    Aside (met.length + bulkOf (l.drop k) ≤ bulkOf l) ∧ Aside (canon l = canonOn met done (l.drop k)))
  case atStart => exact ⟨0, [], [], _, (rfl : l.length + 0 = _), rfl, h0, h1, h2, (fun j hj => by cases hj), rfl, (fun i j _ hj => by cases hj), by simp only [List.length_nil, List.drop_zero]; show 0 + bulkOf l ≤ bulkOf l; omega, by rw [List.drop_zero]; rfl⟩
  case round =>
    clear h0 h1 h2
    obtain ⟨k, met, done, us, hg, rfl, hB, hM, hown, hD, hdn, hap, hmet, hE⟩ := hrel
    have hk : k ≤ l.length := by have := hg.out; omega
    have hB' : Below w.heap.size w wr := by rw [← HMB.out]; exact hB
    have hws : w.heap.size ≤ wr.heap.size := hB'.size
    by_cases hlt : k < l.length
    · obtain ⟨b, off, t, B, d, rfl, hx, hc0, hd1, hd2, h8, ht⟩ := hl.at_ hlt
      have hc1 := cell_kept hB' hc0
      have hul : us.length = l.length := by have := hown.1; omega
      have huk : us[k]? = some (us.getD k undef) := by simp [List.getD_eq_getElem?_getD, List.getElem?_eq_getElem (show k < us.length by omega)]
      have HX := Lib.hid hx
      have HUK := Lib.hid huk
      have HUL := Lib.hid hul
      have m2 := ht.2.1
      clear hx huk hul
      go_wp2_with (go_at_call 34; refine (clone_any B t d wr (ht.kept hB') hd2 h8).mono ?_; rintro e w1 ⟨u, rfl, hb1, hO1⟩; obtain ⟨UA, UC, rfl, hUn⟩ := own_slice hO1.1; have own1 := own_kept hown hb1; have hc1 := own1.cellAt k (by omega); rw [HUK.out] at hc1; have hf1 := own1.frozenAt k)
      obtain ⟨us', hus'⟩ : ∃ x, x = us.set k (.slice UA t.length UC) := ⟨_, rfl⟩
      have hw1s : wr.heap.size ≤ w1.heap.size := hb1.size
      have hdn' := hdn.out
      have hmbl := hM.lt
      have hobl : mb + 1 < wr.heap.size := hown.lt (mb + 1) rfl |>.2
      have hset := turned_set w1 (mb + 1) k (.slice UA t.length UC)
      have hus : ∀ j, j < done.length → us'.getD j undef = us.getD j undef := fun j hj => by
        rw [hus', List.getD_eq_getElem?_getD, List.getElem?_set_ne (by omega), ← List.getD_eq_getElem?_getD]
      have hO2 : RowO w1 (mb + 2) (.slice UA t.length UC) t := hO1.base (by omega)
      have hD1 : Done (w1.setCell ⟨mb + 1, k, none⟩ (.slice UA t.length UC)) (mb + 2) us' done := fun j hj => by
        rw [hus j hj]; exact ((hD.below hb1).kept hset ((hD.below hb1).apart (by omega))) j hj
      have hIn : InW w (w1.setCell ⟨mb + 1, k, none⟩ (.slice UA t.length UC)) mb l.length us' done (.slice UA t.length UC) t met :=
        ⟨below_set (below_then hB (by omega) hb1) (by show mb ≤ mb + 1; omega) _, (hM.below hb1).kept hset (by simp), by rw [hus']; exact (own1.stored k _).1, hD1, hO2.kept hset (hO2.far (by omega))⟩
      have hAP : ∀ j, j < done.length → (us'.getD j undef).ownBlock = none ∨ (us'.getD j undef).ownBlock ≠ (Value.slice UA t.length UC).ownBlock := fun j hj => by
        rw [hus j hj]
        cases hb : (us.getD j undef).ownBlock with
        | none => exact .inl rfl
        | some q =>
          refine .inr fun e => ?_
          have h1 := ((hD j hj).1.lt q hb).2
          have h2 := (hO1.1.lt q e.symm).1
          omega
      obtain ⟨w2, hw2⟩ : ∃ x, x = w1.setCell ⟨mb + 1, k, none⟩ (.slice UA t.length UC) := ⟨_, rfl⟩
      rw [← hw2] at hIn ⊢
      have HUS := Lib.hid hus'
      have HUE := Lib.hid hus
      have HAP := Lib.hid hAP
      have HDN := Lib.hid hdn'
      clear hc0 hw2 hus' hus hD1 hO2 hset own1 hf1 hc1 hO1 hD hdn' hM hown hmbl hobl hAP
      go_loopg [29] t.length (fun gj i wx => ∃ (j : Nat) (acc met' : List Int), Aside (gj + j = t.length) ∧ i = .int .i64 j ∧ InW w wx mb l.length us' done (.slice UA t.length UC) (acc ++ t.drop j) met' ∧ Aside (acc.length = j) ∧ Aside (met'.length + (t.length - j) ≤ met.length + t.length) ∧ Aside (canonRow met [] t = canonRow met' acc (t.drop j)))
      case atStart => exact ⟨0, [], met, (rfl : t.length + 0 = _), rfl, hIn, rfl, by show _ ≤ _; omega, by rw [List.drop_zero]; rfl⟩
      case round =>
        clear hIn
        obtain ⟨j, acc, met', hgj, rfl, hI, hal, hml, hEj⟩ := hrel
        have hj : j ≤ t.length := by have := hgj.out; omega
        by_cases hjt : j < t.length
        · have hlen : (acc ++ t.drop j).length = t.length := by have := hal.out; rw [List.length_append, List.length_drop]; omega
          have hO := hI.urow.1
          rw [hlen] at hO
          obtain ⟨g, cap, hv, hgb, hgl⟩ := hO.form (by omega)
          injection hv with hv1 hv2 hv3
          subst hv1 hv3
          have hBx : Below w.heap.size w wr := by rw [← HMB.out]; exact hI.below
          have hcr := hO.cellAt j (by omega)
          rw [icells_at _ j (by omega)] at hcr
          have hfr := hO.frozenAt j
          have HLEN := Lib.hid hlen
          have HAL := Lib.hid hal.out
          obtain ⟨b2, off2, x, rfl, hx, hx1, hx2, hxc⟩ := (ht.kept hBx).at_ hjt
          have HXX := Lib.hid hx
          have hmbl : mb < wr.heap.size := hI.map.lt
          have hobl : mb + 1 < wr.heap.size := (hI.own.lt (mb + 1) rfl).2
          have hco : wr.cell? ⟨mb + 1, k, none⟩ = some (.slice (some ⟨g, 0, none⟩) t.length UC) := by
            rw [hI.own.cellAt k (by omega), HUS.out, List.getElem?_set_self (by have := HUL.out; omega)]
          clear hx hlen hO hal
          by_cases hneg : 0 ≤ x
          · go_wp2_with fail
            go_roundg (t.length - (j + 1))
            case measure => have := hgj.out; omega
            case rel =>
              refine ⟨j + 1, acc ++ [x], met', by have := hgj.out; show _ = _; omega, by go_num, ?_, by have := HAL.out; rw [List.length_append]; show acc.length + 1 = j + 1; omega, by have := hml.out; show _ ≤ _; omega, hEj.out.trans (canonRow_plain hjt HXX.out hneg)⟩
              have e : acc ++ t.drop j = acc ++ [x] ++ t.drop (j + 1) := by rw [drop_cons t j hjt, HXX.out]; simp
              rw [← e]; exact hI
          · have hHmet : met'.length ≤ 8796093022208 := by
              have h1 := hmet.out
              have h2 := hml.out
              have h3 := bulk_drop l k hlt
              rw [HX.out] at h3
              omega
            by_cases hin : x ∈ met'
            · have hlk := hI.map.look Tryd.underlying57 (zeroInt wr) ⟨hx1, hx2⟩
              have hlk2 := fun z : Ext (Over wr) => (hI.map.below z.ok).look1 Tryd.underlying57 (zeroInt z.val) ⟨hx1, hx2⟩
              have hidx : met'.idxOf x < met'.length := List.idxOf_lt_length_of_mem hin
              have hmF : metF met' x = some (.int .i64 (met'.idxOf x)) := by unfold metF; rw [if_pos hin]
              rw [hmF] at hlk
              simp only [hmF, Option.getD_some, Option.isSome_some] at hlk hlk2
              have HIN := Lib.hid hin
              clear hin hmF
              generalize hi : met'.idxOf x = ix at hlk hlk2 hidx
              have HI := Lib.hid hi
              clear hi
              go_wp2_with fail
              refine wp_region_ext_tail (I := Over wr) 10 (by kernel_rfl) (by kernel_rfl) (Over.refl wr) ?_
              have f1 := Over.cell hco
              simp only [List.take_succ_cons, List.take_zero, List.drop_succ_cons, List.drop_zero]
              repeat (go_big_quiet_step (fail))
              try refine wpQuiet_nil ?_
              intro w5 hw5
              have hI5 := hI.over hw5
              have hO5 := hI5.urow.1
              rw [HLEN.out] at hO5
              have hcr5 := hO5.cellAt j (by omega)
              rw [icells_at _ j (by have := HLEN.out; omega)] at hcr5
              have hfr5 := hO5.frozenAt j
              clear f1 hO5 hlk hlk2
              go_wp2_with fail
              go_roundg (t.length - (j + 1))
              case measure => have := hgj.out; omega
              case rel =>
                have hst := hI5.store (k := j) (d := -1 - (ix : Int)) HLEN.out.symm (HAP.out) (by omega) ⟨by omega, by omega⟩
                rw [set_mid HAL.out hjt] at hst
                refine ⟨j + 1, acc ++ [-1 - (ix : Int)], met', by have := hgj.out; show _ = _; omega, by go_num, hst, by have := HAL.out; rw [List.length_append]; show acc.length + 1 = j + 1; omega, by have := hml.out; have := hjt; show _ ≤ _; omega, ?_⟩
                have := hEj.out.trans (canonRow_var hjt HXX.out (by omega))
                rw [HI.out, meet_in HIN.out] at this
                exact this
            · have hlk := hI.map.look Tryd.underlying57 (zeroInt wr) ⟨hx1, hx2⟩
              have hmF : metF met' x = none := by unfold metF; rw [if_neg hin]
              rw [hmF] at hlk
              simp only [Option.getD_none, Option.isSome_none] at hlk
              have HIN := Lib.hid hin
              have hidx : met'.idxOf x = met'.length := List.idxOf_eq_length hin
              obtain ⟨ix, hi⟩ : ∃ ix, ix = met'.length := ⟨_, rfl⟩
              have HI : Hid (met'.idxOf x = ix) := Lib.hid (by rw [hidx, hi])
              have HII := Lib.hid hi
              have hixb : ix ≤ 8796093022208 := by omega
              have hIM := hI.map
              have HIM := Lib.hid hI
              rw [← hi] at hIM
              clear hin hmF hidx hi hI
              go_wp2_with (first
                | (at_len; refine wpList_size rfl _ 57 3 rfl Tryd.underlying57 mb ix (metF met') rfl hIM ?_)
                | (at_mapUpdate; refine wpList_put rfl _ _ _ 57 3 rfl Tryd.underlying57 mb ix (metF met') rfl hIM (by omega) x (.int .i64 ix) rfl rfl ⟨hx1, hx2⟩ ?_; intro w4 hm4 hg4))
              have hI4 := canon_put HIM.out HIN.out HII.out hm4 hg4
              have hlk2 := fun z : Ext (Over w4) => (hI4.map.below z.ok).look1 Tryd.underlying57 (zeroInt z.val) ⟨hx1, hx2⟩
              simp only [metF, if_pos (mem_meet met' x), idx_meet, HI.out, Option.getD_some] at hlk2
              have hco4 := hg4.cell hco (by simp)
              refine wp_region_ext_tail (I := Over w4) 10 (by kernel_rfl) (by kernel_rfl) (Over.refl w4) ?_
              have f1 := Over.cell hco4
              simp only [List.take_succ_cons, List.take_zero, List.drop_succ_cons, List.drop_zero]
              repeat (go_big_quiet_step (fail))
              try refine wpQuiet_nil ?_
              intro w5 hw5
              have hI5 := hI4.over hw5
              have hO5 := hI5.urow.1
              rw [HLEN.out] at hO5
              have hcr5 := hO5.cellAt j (by omega)
              rw [icells_at _ j (by have := HLEN.out; omega)] at hcr5
              have hfr5 := hO5.frozenAt j
              clear f1 hO5 hlk hlk2
              go_wp2_with fail
              go_roundg (t.length - (j + 1))
              case measure => have := hgj.out; omega
              case rel =>
                have hst := hI5.store (k := j) (d := -1 - (ix : Int)) HLEN.out.symm (HAP.out) (by omega) ⟨by omega, by omega⟩
                rw [set_mid HAL.out hjt] at hst
                refine ⟨j + 1, acc ++ [-1 - (ix : Int)], (meet met' x), by have := hgj.out; show _ = _; omega, by go_num, hst, by have := HAL.out; rw [List.length_append]; show acc.length + 1 = j + 1; omega, by have := hml.out; have := meet_length met' x; show _ ≤ _; omega, ?_⟩
                have := hEj.out.trans (canonRow_var hjt HXX.out (by omega))
                rw [HI.out] at this
                exact this
        · have hjn : j = t.length := by omega
          subst hjn
          go_wp2_with fail
          go_roundg (l.length - (k + 1))
          case measure => have := hg.out; omega
          case rel =>
            rw [List.drop_length, List.append_nil] at hI
            have hu : us'.getD k undef = .slice UA t.length UC := by
              rw [HUS.out, List.getD_eq_getElem?_getD, List.getElem?_set_self (by have := HUL.out; omega)]; rfl
            have hcr := hEj.out.trans canonRow_end
            refine ⟨k + 1, met', done ++ [acc], us', by have := hg.out; show _ = _; omega, by go_num, hI.below, hI.map, hI.own, hI.rows.snoc (by rw [HDN.out, hu]; exact hI.urow), by rw [List.length_append]; show done.length + 1 = k + 1; have := HDN.out; omega, ?_, ?_, ?_⟩
            · intro p q hpq hq
              have hq' : q < k + 1 := by rw [List.length_append] at hq; have := HDN.out; simp only [List.length_cons, List.length_nil] at hq; omega
              by_cases e : q = k
              · subst e
                rw [hu]; exact HAP.out p (by have := HDN.out; omega)
              · have hd := HDN.out
                rw [HUE.out p (by omega), HUE.out q (by omega)]
                exact hap.out p q hpq (by omega)
            · have h1 := hmet.out
              have h2 := hml.out
              have h3 := bulk_drop l k hlt
              rw [HX.out] at h3
              show _ ≤ _
              omega
            · have := hE.out.trans (canonOn_step hlt HX.out)
              rw [hcr] at this
              exact this
    · have hkn : k = l.length := by omega
      subst hkn
      go_wp2_with fail
      go_ret
      have hc := hE.out.trans canonOn_end
      rw [hc]
      have hdl := hdn.out
      refine ⟨_, us, rfl, by rw [← HMB.out]; exact hB, ⟨by have := hown.1; omega, by rw [hdl, ← HMB.out]; exact hown, by omega, fun j hj => by rw [← HMB.out]; exact (hD j hj).base (by omega)⟩, hdl, fun p q hp hq hpq => ?_⟩
      rcases Nat.lt_or_gt_of_ne hpq with h | h
      · exact hap.out p q h (by omega)
      · rcases hap.out q p h (by omega) with e | e
        · rw [e]
          cases hb : (us.getD p undef).ownBlock with
          | none => exact .inl rfl
          | some x => exact .inr (fun e => by cases e)
        · exact .inr (fun x => e x.symm)
end Go.Proofs.YtldnokeejinebaaDoor
