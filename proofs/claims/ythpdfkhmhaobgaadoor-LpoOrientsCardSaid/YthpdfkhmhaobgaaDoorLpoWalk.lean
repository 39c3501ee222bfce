/- The walk of the path order: it computes the definition, with a table of what was found. Conditions: the signature may be; both rows are terms of at most 512 nodes; the precedence is one. -/
import Derived.Test.YthpdfkhmhaobgaaDoorLpoTab
set_option linter.unusedVariables false
set_option linter.unusedSimpArgs false
set_option linter.unnecessarySimpa false
namespace Go.Proofs.YthpdfkhmhaobgaaDoor
open Go.RowKit Go.Lib

/-- What stays the same through a comparison. -/
structure Sides (l : List Sy) (q : List (Int × Int)) (s t : List Int) (sb sf tb tf mb : Nat) (S : Nat → Prop) : Prop where
  hs : termErr l s = 0
  ht : termErr l t = 0
  cyc : ¬ Cyclic q
  ls : s.length ≤ 512
  lt : t.length ≤ 512
  nS : ¬ S mb
  nsb : sb ≠ mb
  ntb : tb ≠ mb
theorem zeroI (w : World) : (zeroValue 3).run Tryd.prog w = .ok (.int .i64 0) w := by kernel_rfl
theorem put_far (f : Int × Int → Option Value) (v : Value) {x y i j : Nat} (h : ¬ (x = i ∧ y = j)) : (fun d => if d = ((i : Int), (j : Int)) then some v else f d) ((x : Int), (y : Int)) = f ((x : Int), (y : Int)) := by
  show (if ((x : Int), (y : Int)) = ((i : Int), (j : Int)) then some v else f ((x : Int), (y : Int))) = _
  rw [if_neg (fun e => h (by have e1 := congrArg Prod.fst e; have e2 := congrArg Prod.snd e; simp only [] at e1 e2; omega))]
theorem right_put {l : List Sy} {q : List (Int × Int)} {s t : List Int} {f : Int × Int → Option Value} (v : Value) {x y i j : Nat} (h : RightAt l q s t f x y) (hne : ¬ (x = i ∧ y = j)) : RightAt l q s t (fun d => if d = ((i : Int), (j : Int)) then some v else f d) x y := by
  unfold RightAt at h ⊢
  rw [put_far f v hne]
  exact h
theorem put_here (f : Int × Int → Option Value) (v : Value) (i j : Nat) : (fun d => if d = ((i : Int), (j : Int)) then some v else f d) ((i : Int), (j : Int)) = some v := by simp
/-- What is asked of a comparison of two nodes. -/
def Asks (l : List Sy) (q : List (Int × Int)) (s t : List Int) (sb sf tb tf ob pb mb : Nat) (n : Int) (S : Nat → Prop) (N : Nat) : Prop :=
  ∀ (i j e1 e2 fa fb : Nat) (va vb : Value) (w : World) (P : Nat → Nat → Prop) (f : Int × Int → Option Value) (size : Nat), (s.length - i) + (t.length - j) ≤ N → LNode w S l s sb sf fa va i e1 → LNode w S l t tb tf fb vb j e2 →
    Ints w (some ⟨sb, sf, none⟩) s → Ints w (some ⟨tb, tf, none⟩) t → Tab w ob pb mb n q f size → (∀ x y, P x y → RightAt l q s t f x y) → (∀ x y, x < s.length → y < t.length → i + j ≤ x + y → P x y) →
    Calls Tryd.prog 27 #[.pointer (some ⟨ob, 0, none⟩), va, vb] w (GPost l s t ob pb mb n q P (i + j) f w (gB l q s t i j))
set_option maxRecDepth 100000 in
set_option maxHeartbeats 4000000 in
theorem greater_next (l : List Sy) (q : List (Int × Int)) (s t : List Int) (sb sf tb tf ob pb mb : Nat) (n : Int) (S : Nat → Prop) (N : Nat) (hD : Sides l q s t sb sf tb tf mb S)
    (hlook : ∀ (i j e1 e2 fa fb xa xb : Nat) (w : World) (P : Nat → Nat → Prop) (f : Int × Int → Option Value) (size : Nat), (s.length - i) + (t.length - j) ≤ N + 1 → LNode w S l s sb sf fa (funV xa) i e1 → LNode w S l t tb tf fb (funV xb) j e2 →
      Ints w (some ⟨sb, sf, none⟩) s → Ints w (some ⟨tb, tf, none⟩) t → Tab w ob pb mb n q f size → (∀ x y, P x y → RightAt l q s t f x y) → (∀ x y, x < s.length → y < t.length → i + j < x + y → P x y) →
      Calls Tryd.prog 40 #[.pointer (some ⟨ob, 0, none⟩), .pointer (some ⟨xa, 0, none⟩), .pointer (some ⟨xb, 0, none⟩)] w (GPost l s t ob pb mb n q P (i + j + 1) f w (gB l q s t i j))) :
    Asks l q s t sb sf tb tf ob pb mb n S (N + 1) := by
  intro i j e1 e2 fa fb va vb w P f size hm ha hb hs ht hT hR hP
  obtain ⟨a1, a2, a3, a4, a5⟩ := ha.sub
  obtain ⟨b1, b2, b3, b4, b5⟩ := hb.sub
  cases fa with
  | zero => exact ha.elim
  | succ fa =>
  cases fb with
  | zero => exact hb.elim
  | succ fb =>
  rcases ha.2.2.2.2 with ⟨ha1, rfl⟩ | ⟨ha1, xa, kva, ksa, ca, rfl, _, p0, p1, p2, p3, _⟩
  · rw [gB_false (G_var hD.hs a1 ha1)]
    have t1 := var_is_fun (-1 - s.getD i 0)
    generalize -1 - s.getD i 0 = x at t1 ⊢
    have HT := Lib.hid hT
    have HR := Lib.hid hR
    clear ha hb hs ht hT hR hP a4 a5 b4 b5 hlook
    go_enter Tryd.func27, Tryd.ntmps27
    go_wp2_with fail
    go_ret
    exact ⟨rfl, World.grownBy.refl _ _, f, size, HT.out, HR.out, fun _ _ _ => rfl⟩
  · have t1 := fun_is_fun xa
    have ha0 : ¬ s.getD i 0 < 0 := by omega
    rcases hb.2.2.2.2 with ⟨hb1, rfl⟩ | ⟨hb1, xb, kvb, ksb, cb, rfl, _, q0, q1, q2, q3, _⟩
    · have t2 := var_is_fun (-1 - t.getD j 0)
      have t3 := var_as_var (-1 - t.getD j 0)
      have hI := hs.part i (e1 - i)
      rw [← a5] at hI
      have hl : (subAt l s i).length = e1 - i := by rw [a5, List.length_take, List.length_drop]; omega
      have cC := fun v => containsI_any (some ⟨sb, sf + i, none⟩) (subAt l s i) ca v w hI
      have hg : gB l q s t i j = decide (t.getD j 0 ∈ subAt l s i) := by
        have := G_in (q := q) hD.hs hD.ht _ i (Nat.le_refl _) a1 j b1 hb1 ha0
        by_cases h : t.getD j 0 ∈ subAt l s i
        · rw [gB_true (this.2 h), decide_eq_true h]
        · rw [gB_false (fun k => h (this.1 k)), decide_eq_false h]
      rw [hg]
      rw [hl] at cC
      have hj := ht.at_ b1
      obtain ⟨_, _, c, _, hc, hc1, hc2, _⟩ := hj
      rw [hc] at t2 t3 hb1 hg ⊢
      have cC2 := cC (-1 - (-1 - c))
      rw [show -1 - (-1 - c) = c by omega] at cC2
      generalize decide (c ∈ subAt l s i) = r at cC2 ⊢
      obtain ⟨v, hv⟩ : ∃ v, v = -1 - c := ⟨_, rfl⟩
      rw [← hv] at t2 t3 ⊢
      have hvc : -1 - v = c := by omega
      have HVC := Lib.hid hvc
      have hv1 : -9223372036854775808 ≤ v ∧ v ≤ 9223372036854775807 := by omega
      have HT := Lib.hid hT
      have HR := Lib.hid hR
      clear ha hb hs ht hT hR hP a4 a5 b4 b5 hlook hg hc hI hl cC hv hvc p0 p1 p3
      go_enter Tryd.func27, Tryd.ntmps27
      go_wp2_with fail
      rw [HVC.out]
      refine cC2.mono ?_
      rintro e w' ⟨rfl, rfl⟩
      go_wp2_with fail
      go_ret
      exact ⟨rfl, World.grownBy.refl _ _, f, size, HT.out, HR.out, fun _ _ _ => rfl⟩
    · have t2 := fun_is_fun xb
      have c1 := hT.c1
      have p1' := cell_kept (below_alloc0 w (.cells #[.int .i64 0, .int .i64 0] 54)) p1
      have q1' := cell_kept (below_alloc0 w (.cells #[.int .i64 0, .int .i64 0] 54)) q1
      go_enter Tryd.func27, Tryd.ntmps27
      go_wp2_with fail
      go_region_law (fail)
      all_goals
        have hbW : Below w.heap.size w (w.alloc (.cells #[.int .i64 i, .int .i64 j] 54)).drew := below_draw (below_alloc0 _ _)
        have k0 : (w.alloc (.cells #[.int .i64 i, .int .i64 j] 54)).drew.cell? ⟨w.heap.size, 0, none⟩ = some (.int .i64 i) := World.cell?_alloc_new w _ _ 0
        have k1 : (w.alloc (.cells #[.int .i64 i, .int .i64 j] 54)).drew.cell? ⟨w.heap.size, 1, none⟩ = some (.int .i64 j) := World.cell?_alloc_new w _ _ 1
        obtain ⟨W, hW⟩ : ∃ x, x = (w.alloc (.cells #[.int .i64 i, .int .i64 j] 54)).drew := ⟨_, rfl⟩
        rw [← hW] at hbW k0 k1
        obtain ⟨kb, hkb⟩ : ∃ x, x = w.heap.size := ⟨_, rfl⟩
        rw [← hkb] at k0 k1
        rw [← hW, ← hkb]
        have hT2 := hT.below hbW
        have hs2 := hs.kept hbW
        have ht2 := ht.kept hbW
        have ha2 := ha.keep (keeps_over hbW)
        have hb2 := hb.keep (keeps_over hbW)
        have hok : okP ((i : Int), (j : Int)) := by
          have := hD.ls; have := hD.lt
          exact ⟨⟨by simp only []; omega, by simp only []; omega⟩, ⟨by simp only []; omega, by simp only []; omega⟩⟩
        have d1 := hT2.c1
        have hkbl : mb < kb := hkb ▸ hT.map.lt
        have HKB := Lib.hid hkb
        have HBW := Lib.hid hbW
        clear hW hkb p0 p1 p2 p3 q0 q1 q2 q3 p1' q1' c1 hT hs ht ha hb hbW
        have hij := hP i j a1 b1 (Nat.le_refl _)
        have hmk : mb ≠ kb := by omega
        rcases hR i j hij with hf | hf
        · have L1 : ∀ z : Ext (Over W), (Instr.lookup 71 (.map (some mb)) (.agg #[.int .i64 i, .int .i64 j]) false).run Tryd.prog z.val = .ok (.int .i64 0) z.val := fun z => by
            have := (hT2.map.below z.ok).look1 Tryd.underlying71 (zeroI _) hok
            rw [hf] at this
            exact this
          have HT := Lib.hid hT2
          have HR := Lib.hid hR
          have HL := Lib.hid hlook
          have HP := Lib.hid hP
          have HA := Lib.hid ha2
          have HB := Lib.hid hb2
          have HS := Lib.hid hs2
          have HTT := Lib.hid ht2
          clear hT2 hR hP hlook ha2 hb2 hs2 ht2 a4 a5 b4 b5
          go_wp2_with fail
          refine wp_region_ext (I := Over W) (by kernel_rfl) (by kernel_rfl) (Over.refl W) ?_
          have f1 := Over.cell d1
          have f2 := Over.cell k0
          have f3 := Over.cell k1
          repeat (go_big_quiet_step (fail))
          try refine wpQuiet_nil ?_
          intro w4 hw4
          clear f1 f2 f3 L1
          have d4 := cell_kept hw4 d1
          have k04 := cell_kept hw4 k0
          have k14 := cell_kept hw4 k1
          go_wp2_with fail
          refine wp_region_ext_tail (I := Over w4) 5 (by kernel_rfl) (by kernel_rfl) (Over.refl w4) ?_
          have f1 := Over.cell d4
          have f2 := Over.cell k04
          have f3 := Over.cell k14
          simp only [List.take_succ_cons, List.take_zero, List.drop_succ_cons, List.drop_zero]
          repeat (go_big_quiet_step (fail))
          try refine wpQuiet_nil ?_
          intro w5 hw5
          clear f1 f2 f3
          have h25 := (HT.out.below hw4).below hw5
          refine wpList_putP rfl _ _ _ _ _ rfl Tryd.underlying71 mb size f rfl h25.map (by have := h25.small; omega) ((i : Int), (j : Int)) (.int .i64 2) rfl rfl hok ?_
          intro w6 hm6 hg6
          have hT6 := h25.put (by have := hD.ls; omega) (by have := hD.lt; omega) hm6 hg6
          have k06 := hg6.cell (cell_kept hw5 k04) (by simpa using hmk.symm)
          have k16 := hg6.cell (cell_kept hw5 k14) (by simpa using hmk.symm)
          have g56 : W.grownBy w6 (some mb) := grown_below_left hw4 (grown_below_left hw5 hg6)
          have hA6 := HA.out.keep (keeps_turn hD.nS g56)
          have hB6 := HB.out.keep (keeps_turn hD.nS g56)
          have hs6 := HS.out.turned g56 (fun _ a e => by cases e; exact hD.nsb)
          have ht6 := HTT.out.turned g56 (fun _ a e => by cases e; exact hD.ntb)
          have hLK := HL.out i j e1 e2 (fa + 1) (fb + 1) xa xb w6 (fun x y => P x y ∧ ¬ (x = i ∧ y = j)) _ _ hm hA6 hB6 hs6 ht6 hT6 (fun x y hxy => right_put _ (HR.out x y hxy.1) hxy.2) (fun x y hx hy hxy => ⟨HP.out x y hx hy (by omega), fun e => by omega⟩)
          have HT6 := Lib.hid hT6
          have HM6 := Lib.hid hm6
          have HG6 := Lib.hid g56
          clear hT6 hm6 hg6 h25 hA6 hB6 hs6 ht6 d4 k04 k14 d1 k0 k1
          go_wp2_with fail
          refine hLK.mono ?_
          rintro e w7 ⟨rfl, g7, f7, size7, hT7, hR7, hf7⟩
          have k07 := g7.cell k06 (by simpa using hmk.symm)
          have k17 := g7.cell k16 (by simpa using hmk.symm)
          have hg67 := HG6.out.trans g7
          have h7 : f7 ((i : Int), (j : Int)) = some (.int .i64 2) := (hf7 i j (by omega)).trans (put_here _ _ _ _)
          have hfar : ∀ x y : Nat, x + y < i + j → f7 ((x : Int), (y : Int)) = f ((x : Int), (y : Int)) := fun x y hxy => (hf7 x y (by omega)).trans (put_far _ _ (fun e => by omega))
          have d7 := hT7.c1
          clear hLK hf7 HT6 HM6 HT HL HA HB HS HTT
          cases hg : gB l q s t i j with
          | true =>
            go_wp2_with fail
            refine wp_region_ext_tail (I := Over w7) 5 (by kernel_rfl) (by kernel_rfl) (Over.refl w7) ?_
            have f1 := Over.cell d7
            have f2 := Over.cell k07
            have f3 := Over.cell k17
            simp only [List.take_succ_cons, List.take_zero, List.drop_succ_cons, List.drop_zero]
            repeat (go_big_quiet_step (fail))
            try refine wpQuiet_nil ?_
            intro w8 hw8
            clear f1 f2 f3
            have hT8 := hT7.below hw8
            refine wpList_putP rfl _ _ _ _ _ rfl Tryd.underlying71 mb size7 f7 rfl hT8.map (by have := hT8.small; omega) ((i : Int), (j : Int)) (.int .i64 1) rfl rfl hok ?_
            intro w9 hm9 hg9
            simp only [Act.put]
            have hT9 := hT8.put (by have := hD.ls; omega) (by have := hD.lt; omega) hm9 hg9
            have k09 := hg9.cell (cell_kept hw8 k07) (by simpa using hmk.symm)
            have k19 := hg9.cell (cell_kept hw8 k17) (by simpa using hmk.symm)
            have d9 := hT9.c1
            have hg69 := hg67.trans (grown_below_left hw8 hg9)
            have L9 : ∀ z : Ext (Over w9), (Instr.lookup 71 (.map (some mb)) (.agg #[.int .i64 i, .int .i64 j]) false).run Tryd.prog z.val = .ok (.int .i64 1) z.val := fun z => by
              have := (hT9.map.below z.ok).look1 Tryd.underlying71 (zeroI _) hok
              rw [if_pos rfl] at this
              exact this
            have HT9 := Lib.hid hT9
            have HR7 := Lib.hid hR7
            have HM9 := Lib.hid hm9
            clear hT8 hT7 hT9 hR7 hm9
            go_wp2_with fail
            refine wp_region_ext (I := Over w9) (by kernel_rfl) (by kernel_rfl) (Over.refl w9) ?_
            have f1 := Over.cell d9
            have f2 := Over.cell k09
            have f3 := Over.cell k19
            repeat (go_big_quiet_step (fail))
            try refine wpQuiet_nil ?_
            intro w10 hw10
            clear f1 f2 f3 L9
            go_wp2_with fail
            go_ret
            refine ⟨by rw [hg]; rfl, grown_below_left HBW.out (grown_below_right hg69 hw10), _, _, HT9.out.below hw10, fun x y hxy => ?_, fun x y hxy => (put_far _ _ (fun e => by omega)).trans (hfar x y hxy)⟩
            by_cases hxy2 : x = i ∧ y = j
            · obtain ⟨rfl, rfl⟩ := hxy2
              exact .inr ((put_here _ _ _ _).trans (by rw [hg]; rfl))
            · exact right_put _ (HR7.out x y ⟨hxy, hxy2⟩) hxy2
          | false =>
            have L9 : ∀ z : Ext (Over w7), (Instr.lookup 71 (.map (some mb)) (.agg #[.int .i64 i, .int .i64 j]) false).run Tryd.prog z.val = .ok (.int .i64 2) z.val := fun z => by
              have := (hT7.map.below z.ok).look1 Tryd.underlying71 (zeroI _) hok
              rw [h7] at this
              exact this
            have HT9 := Lib.hid hT7
            have HR7 := Lib.hid hR7
            clear hT7 hR7
            go_wp2_with fail
            refine wp_region_ext (I := Over w7) (by kernel_rfl) (by kernel_rfl) (Over.refl w7) ?_
            have f1 := Over.cell d7
            have f2 := Over.cell k07
            have f3 := Over.cell k17
            repeat (go_big_quiet_step (fail))
            try refine wpQuiet_nil ?_
            intro w10 hw10
            clear f1 f2 f3 L9
            go_wp2_with fail
            go_ret
            refine ⟨by rw [hg]; rfl, grown_below_left HBW.out (grown_below_right hg67 hw10), _, _, HT9.out.below hw10, fun x y hxy => ?_, hfar⟩
            by_cases hxy2 : x = i ∧ y = j
            · obtain ⟨rfl, rfl⟩ := hxy2
              exact .inr (h7.trans (by rw [hg]; rfl))
            · exact HR7.out x y ⟨hxy, hxy2⟩
        · have L1 : ∀ z : Ext (Over W), (Instr.lookup 71 (.map (some mb)) (.agg #[.int .i64 i, .int .i64 j]) false).run Tryd.prog z.val = .ok (.int .i64 (if gB l q s t i j then 1 else 2)) z.val := fun z => by
            have := (hT2.map.below z.ok).look1 Tryd.underlying71 (zeroI _) hok
            rw [hf] at this
            exact this
          have HT := Lib.hid hT2
          have HR := Lib.hid hR
          clear hT2 hR hf hP hlook ha2 hb2 hs2 ht2 a4 a5 b4 b5
          cases hg : gB l q s t i j with
          | true =>
            rw [hg] at L1
            simp only [if_true] at L1
            go_wp2_with fail
            refine wp_region_ext (I := Over W) (by kernel_rfl) (by kernel_rfl) (Over.refl W) ?_
            have f1 := Over.cell d1
            have f2 := Over.cell k0
            have f3 := Over.cell k1
            repeat (go_big_quiet_step (fail))
            try refine wpQuiet_nil ?_
            intro w4 hw4
            clear f1 f2 f3
            have L4 : ∀ z : Ext (Over w4), (Instr.lookup 71 (.map (some mb)) (.agg #[.int .i64 i, .int .i64 j]) false).run Tryd.prog z.val = .ok (.int .i64 1) z.val := fun z => L1 ⟨z.val, below_then hw4 hw4.size z.ok⟩
            have d4 := cell_kept hw4 d1
            have k04 := cell_kept hw4 k0
            have k14 := cell_kept hw4 k1
            clear L1
            go_wp2_with fail
            refine wp_region_ext (I := Over w4) (by kernel_rfl) (by kernel_rfl) (Over.refl w4) ?_
            have f1 := Over.cell d4
            have f2 := Over.cell k04
            have f3 := Over.cell k14
            repeat (go_big_quiet_step (fail))
            try refine wpQuiet_nil ?_
            intro w10 hw10
            clear f1 f2 f3 L4
            go_wp2_with fail
            go_ret
            exact ⟨by rw [hg]; rfl, grown_below_left HBW.out (grown_below_left hw4 (grown_below_left hw10 (World.grownBy.refl _ _))), f, size, (HT.out.below hw4).below hw10, HR.out, fun _ _ _ => rfl⟩
          | false =>
            rw [hg] at L1
            simp only [Bool.false_eq_true, if_false] at L1
            go_wp2_with fail
            refine wp_region_ext (I := Over W) (by kernel_rfl) (by kernel_rfl) (Over.refl W) ?_
            have f1 := Over.cell d1
            have f2 := Over.cell k0
            have f3 := Over.cell k1
            repeat (go_big_quiet_step (fail))
            try refine wpQuiet_nil ?_
            intro w4 hw4
            clear f1 f2 f3
            have L4 : ∀ z : Ext (Over w4), (Instr.lookup 71 (.map (some mb)) (.agg #[.int .i64 i, .int .i64 j]) false).run Tryd.prog z.val = .ok (.int .i64 2) z.val := fun z => L1 ⟨z.val, below_then hw4 hw4.size z.ok⟩
            have d4 := cell_kept hw4 d1
            have k04 := cell_kept hw4 k0
            have k14 := cell_kept hw4 k1
            clear L1
            go_wp2_with fail
            refine wp_region_ext (I := Over w4) (by kernel_rfl) (by kernel_rfl) (Over.refl w4) ?_
            have f1 := Over.cell d4
            have f2 := Over.cell k04
            have f3 := Over.cell k14
            repeat (go_big_quiet_step (fail))
            try refine wpQuiet_nil ?_
            intro w10 hw10
            clear f1 f2 f3 L4
            go_wp2_with fail
            go_ret
            exact ⟨by rw [hg]; rfl, grown_below_left HBW.out (grown_below_left hw4 (grown_below_left hw10 (World.grownBy.refl _ _))), f, size, (HT.out.below hw4).below hw10, HR.out, fun _ _ _ => rfl⟩
end Go.Proofs.YthpdfkhmhaobgaaDoor
