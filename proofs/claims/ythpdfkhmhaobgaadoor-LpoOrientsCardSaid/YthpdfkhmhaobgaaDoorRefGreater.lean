/- The document's definition of the path order, for a pair of places whose parts are known: the walk of table.greater. Conditions: the precedence is an order. -/
import Derived.Test.YthpdfkhmhaobgaaDoorRefGrid
import Derived.Test.YthpdfkhmhaobgaaDoorPrecC
set_option linter.unusedVariables false
set_option linter.unusedSimpArgs false
set_option linter.unnecessarySimpa false
namespace Go.Proofs.YthpdfkhmhaobgaaDoor
open Go.RowKit Go.Lib

/-- The table in memory. -/
structure TabAt (w : World) (l : List Sy) (q : List (Int × Int)) (s t : List Int) (C D : Option Addr) (sc tc xb rb gs cs gm cm : Nat) (rs rm : Nat → Nat) (f h : Nat → Nat → Bool) : Prop where
  c1 : w.cell? ⟨xb, 1, none⟩ = some (.pointer (some ⟨rb, 0, none⟩))
  c2 : w.cell? ⟨xb, 2, none⟩ = some (.slice C s.length sc)
  c3 : w.cell? ⟨xb, 3, none⟩ = some (.slice D t.length tc)
  ref : IsRef w rb l.length q
  ss : Ints w C s
  tt : Ints w D t
  same : Grid w ⟨xb, 4, none⟩ s.length t.length gs cs rs f
  more : Grid w ⟨xb, 5, none⟩ s.length t.length gm cm rm h
theorem TabAt.kept {w w' : World} {l : List Sy} {q : List (Int × Int)} {s t : List Int} {C D : Option Addr} {sc tc xb rb gs cs gm cm : Nat} {rs rm : Nat → Nat} {f h : Nat → Nat → Bool} (H : TabAt w l q s t C D sc tc xb rb gs cs gm cm rs rm f h) (hb : Below w.heap.size w w') : TabAt w' l q s t C D sc tc xb rb gs cs gm cm rs rm f h :=
  ⟨cell_kept hb H.c1, cell_kept hb H.c2, cell_kept hb H.c3, H.ref.kept hb, H.ss.kept hb, H.tt.kept hb, H.same.kept hb, H.more.kept hb⟩
theorem gt_to_var {ab : Int → Int → Prop} {u v : Tm} (h : Gt ab u v) : ∀ f zs c, u = .fn f zs → v = .var c → ∃ a, a ∈ zs ∧ (a = v ∨ Gt ab a v) := by
  intro f zs c e1 e2
  cases h with
  | self hm => cases e1; exact ⟨_, hm, .inl rfl⟩
  | sub hm g => cases e1; exact ⟨_, hm, .inr g⟩
  | prec _ _ => cases e2
  | lex _ _ => cases e2
theorem G_tvar {l : List Sy} {q : List (Int × Int)} {s t : List Int} {i j : Nat} (hs : termErr l s = 0) (ht : termErr l t = 0) (hi : i < s.length) (hj : j < t.length) (h0 : ¬ s.getD i 0 < 0) (h1 : t.getD j 0 < 0) (hno : NoKid l q s t i j) : ¬ G l q s t i j := by
  have hx := no_trees hs ht hi hj hno
  unfold G
  intro h
  obtain ⟨a, ha, h2⟩ := gt_to_var h _ _ _ (tree_fn hs hi h0) (tree_var ht hj h1)
  rcases h2 with h2 | h2
  · exact (hx a ha).1 h2
  · exact (hx a ha).2 h2
theorem all_gB {l : List Sy} {q : List (Int × Int)} {s t : List Int} {i : Nat} {h : Nat → Nat → Bool} {K : List Nat} (hk : ∀ k, k ∈ K → h i k = gB l q s t i k) : K.all (h i) = true ↔ ∀ k, k ∈ K → G l q s t i k := by
  rw [List.all_eq_true]
  exact ⟨fun H k hm => gB_iff.1 (by rw [← hk k hm]; exact H k hm), fun H k hm => by rw [hk k hm]; exact gB_iff.2 (H k hm)⟩

set_option maxRecDepth 100000 in
set_option maxHeartbeats 4000000 in
theorem tgreater_any (l : List Sy) (q : List (Int × Int)) (s t : List Int) (C D : Option Addr) (sc tc xb rb gs cs gm cm : Nat) (rs rm : Nat → Nat) (f h : Nat → Nat → Bool) (i j : Nat) (KA KB : Option Addr) (ka kb : Nat) (w : World)
    (hcyc : ¬ Cyclic q) (hs0 : termErr l s = 0) (ht0 : termErr l t = 0) (hs5 : s.length ≤ 512) (ht5 : t.length ≤ 512) (hi : i < s.length) (hj : j < t.length)
    (hT : TabAt w l q s t C D sc tc xb rb gs cs gm cm rs rm f h) (hA : Ints w KA (casts (kidN l s i))) (hB : Ints w KB (casts (kidN l t j)))
    (hf : ∀ x y, i < x → x < s.length → y < t.length → f x y = decide (subAt l s x = subAt l t y))
    (hh : ∀ x y, x < s.length → y < t.length → (i < x ∨ (x = i ∧ j < y)) → h x y = gB l q s t x y) :
    Calls Tryd.prog 31 #[.pointer (some ⟨xb, 0, none⟩), .int .i64 (i : Int), .int .i64 (j : Int), .slice KA (kidN l s i).length ka, .slice KB (kidN l t j).length kb] w fun e w' => e = .returned (.bool (gB l q s t i j)) ∧ Below w.heap.size w w' := by
  have ra := kidN_lt hs0 hi
  have rb' := kidN_lt ht0 hj
  have kl0 := fun h1 : ¬ s.getD i 0 < 0 => kidN_len (l := l) h1
  have kl1 := fun h1 : ¬ t.getD j 0 < 0 => kidN_len (l := l) h1
  have tv := G_tvar (q := q) hs0 ht0 hi hj
  have ta := G_above (q := q) hs0 ht0 hi hj
  have td := G_differ (q := q) hs0 ht0 hi hj
  have tl := fun h0 h1 hno he k hk hk2 hpre hd => G_lex (i := i) (j := j) (k := k) hcyc hs0 ht0 hi hj h0 h1 hno he hk hk2 hpre hd
  have ts := G_same hcyc hs0 ht0 hi hj
  have tk := fun h0 (k : Nat) hk h => G_kid (q := q) (k := k) hs0 ht0 hi hj h0 hk h
  have tx := fun h0 => G_var (q := q) (t := t) (j := j) hs0 hi h0
  unfold NoKid at tv ta td tl
  obtain ⟨a, ha⟩ : ∃ a, a = kidN l s i := ⟨_, rfl⟩
  obtain ⟨b, hb⟩ : ∃ b, b = kidN l t j := ⟨_, rfl⟩
  rw [← ha] at ra hA kl0 tv ta td tl ts tk
  rw [← hb] at rb' hB kl1 ta tl ts
  rw [← ha, ← hb]
  have hfa : ∀ k, k < a.length → ∃ p, a.getD k 0 = p ∧ p ∈ a ∧ p < s.length ∧ f p j = decide (subAt l s p = subAt l t j) ∧ h p j = gB l q s t p j := fun k hk => by
    have hm := getD_in hk
    obtain ⟨h1, h2⟩ := ra _ hm
    exact ⟨_, rfl, hm, h2, hf _ _ h1 h2 hj, hh _ _ h2 hj (.inl h1)⟩
  have hfb : ∀ k, k < a.length → k < b.length → ∃ p e, a.getD k 0 = p ∧ b.getD k 0 = e ∧ p < s.length ∧ e < t.length ∧ f p e = decide (subAt l s p = subAt l t e) ∧ h p e = gB l q s t p e := fun k hk hk2 => by
    obtain ⟨h1, h2⟩ := ra _ (getD_in hk)
    obtain ⟨h3, h4⟩ := rb' _ (getD_in hk2)
    exact ⟨_, _, rfl, rfl, h2, h4, hf _ _ h1 h2 h4, hh _ _ h2 h4 (.inl h1)⟩
  have hba := all_gB (l := l) (q := q) (s := s) (t := t) (i := i) (h := h) (K := b) fun k hk => by obtain ⟨h1, h2⟩ := rb' k hk; exact hh _ _ hi h2 (.inr ⟨rfl, h1⟩)
  have hbl : ∀ k, k ∈ b → k < t.length := fun k hk => (rb' k hk).2
  have al : a.length ≤ 140737488355328 := by have := hA.2.1; rw [casts_len] at this; exact this
  have bl : b.length ≤ 140737488355328 := by have := hB.2.1; rw [casts_len] at this; exact this
  obtain ⟨r, hr⟩ : ∃ r, r = gB l q s t i j := ⟨_, rfl⟩
  rw [← hr]
  have HR := Lib.hid hr
  obtain ⟨sb, so, x, hC, hx, hx1, hx2, _⟩ := hT.ss.at_ hi
  obtain ⟨tb, to_, y, hD, hy, hy1, hy2, _⟩ := hT.tt.at_ hj
  subst hC
  subst hD
  rw [hx] at kl0 tv ta td tl ts tk tx
  rw [hy] at kl1 tv ta td tl ts
  have HT := Lib.hid hT
  have HFA := Lib.hid hfa
  have HFB := Lib.hid hfb
  have HBA := Lib.hid hba
  have HBL := Lib.hid hbl
  have HX := Lib.hid hx
  have HY := Lib.hid hy
  have KL0 := Lib.hid kl0
  have KL1 := Lib.hid kl1
  have TV := Lib.hid tv
  have TA := Lib.hid ta
  have TD := Lib.hid td
  have TL := Lib.hid tl
  have TS := Lib.hid ts
  have TK := Lib.hid tk
  have TX := Lib.hid tx
  have HIA := Lib.hid hA
  have HIB := Lib.hid hB
  have HHA := Lib.hid ha
  have HHB := Lib.hid hb
  have hz2 := hT.c2
  have hsx : w.cell? ⟨sb, so + i, none⟩ = some (.int .i64 x) := by
    obtain ⟨b', o', x', e, hx', _, _, hc⟩ := hT.ss.at_ hi
    cases e
    rw [← hx, hx']; exact hc
  have htx : w.cell? ⟨tb, to_ + j, none⟩ = some (.int .i64 y) := by
    obtain ⟨b', o', x', e, hx', _, _, hc⟩ := hT.tt.at_ hj
    cases e
    rw [← hy, hx']; exact hc
  have hz3 := hT.c3
  clear hr hT hfa hfb hba hbl hx hy kl0 kl1 tv ta td tl ts tk tx hA hB ha hb hf hh ra rb' hs0 ht0
  by_cases hx0 : x < 0
  · have hr : r = false := by rw [HR.out]; exact gB_false (TX.out hx0)
    subst hr
    go_enter Tryd.func31, Tryd.ntmps31
    go_wp2_with fail
    go_ret
    exact ⟨rfl, Below.refl _ _⟩
  · have HX0 := Lib.hid hx0
    go_enter Tryd.func31, Tryd.ntmps31
    go_wp2_with fail
    go_loopg [11] a.length (fun gk v wr => ∃ k : Nat, Aside (gk + k = a.length) ∧ v = .int .i64 k ∧ Below w.heap.size w wr ∧ Aside (∀ m, m < k → subAt l s (a.getD m 0) ≠ subAt l t j ∧ ¬ G l q s t (a.getD m 0) j))
    case atStart => exact ⟨0, (rfl : a.length + 0 = _), rfl, Below.refl _ _, fun m hm => by omega⟩
    case round =>
      obtain ⟨k, hg, rfl, hB, hE⟩ := hrel
      have hk : k ≤ a.length := by have := hg.out; omega
      by_cases hlt : k < a.length
      · obtain ⟨p, hp, hpa, hps, fp, hp2⟩ := HFA.out k hlt
        obtain ⟨ab, ao, z, rfl, hz, _, _, hzc⟩ := (HIA.out.kept hB).at_ (k := k) (by rw [casts_len]; exact hlt)
        rw [casts_at, hp] at hz
        subst hz
        have hG := HT.out.same.kept hB
        have hM := HT.out.more.kept hB
        have e1 := hG.head
        have e2 := hG.line p hps
        have e3 := (hG.bit p j hps hj).1
        have e4 := hM.head
        have e5 := hM.line p hps
        have e6 := (hM.bit p j hps hj).1
        rw [fp] at e3
        rw [hp2] at e6
        have HP := Lib.hid hp
        have HPA := Lib.hid hpa
        clear hp hpa fp hp2 hG hM hz2 hz3 hsx htx
        by_cases hsame : subAt l s p = subAt l t j
        · rw [decide_eq_true hsame] at e3
          have hr : r = true := by rw [HR.out]; exact gB_true (TK.out HX0.out p HPA.out (.inl hsame))
          subst hr
          clear hsame
          go_wp2_with fail
          go_quiet (fail)
          go_wp2_with fail
          go_ret
          exact ⟨rfl, below_drawN hB _⟩
        · rw [decide_eq_false hsame] at e3
          have HSM := Lib.hid hsame
          clear hsame
          cases hgb : gB l q s t p j with
          | true =>
            rw [hgb] at e6
            have hr : r = true := by rw [HR.out]; exact gB_true (TK.out HX0.out p HPA.out (.inr (gB_iff.1 hgb)))
            subst hr
            clear hgb
            go_wp2_with fail
            go_quiet (fail)
            go_wp2_with fail
            go_ret
            exact ⟨rfl, below_drawN hB _⟩
          | false =>
            rw [hgb] at e6
            have HGB := Lib.hid hgb
            clear hgb
            go_wp2_with fail
            go_quiet (fail)
            go_wp2_with fail
            go_roundg (a.length - (k + 1))
            case measure => have := hg.out; omega
            case rel =>
              refine ⟨k + 1, by have := hg.out; show _ = _; omega, by go_num, below_drawN hB _, fun m hm => ?_⟩
              by_cases e : m = k
              · subst e
                rw [HP.out]
                exact ⟨HSM.out, fun hG => by have := HGB.out; rw [gB_true hG] at this; cases this⟩
              · exact hE.out m (by omega)
      · have hke : k = a.length := by omega
        subst hke
        have hNo : ∀ k, k ∈ a → subAt l s k ≠ subAt l t j ∧ ¬ G l q s t k j := fun k hk => by
          obtain ⟨m, hm, rfl⟩ := List.getElem_of_mem hk
          have := hE.out m hm
          rw [List.getD_eq_getElem?_getD, List.getElem?_eq_getElem hm] at this
          exact this
        have HNO := Lib.hid hNo
        clear hNo hE
        have z1 := cell_kept hB HT.out.c1
        have z2 := cell_kept hB hz2
        have z3 := cell_kept hB hz3
        have zx := cell_kept hB hsx
        have zy := cell_kept hB htx
        clear hz2 hz3 hsx htx
        by_cases hy0 : y < 0
        · have hr : r = false := by rw [HR.out]; exact gB_false (TV.out HX0.out hy0 HNO.out)
          subst hr
          go_wp2_with fail
          go_ret
          exact ⟨rfl, hB⟩
        · have HY0 := Lib.hid hy0
          have hP := HT.out.ref.kept hB
          have cAb : ∀ (z : Ext (Over wr)) (u : Bool), up q x y = u → Calls Tryd.prog 44 #[.pointer (some ⟨rb, 0, none⟩), .int .i64 x, .int .i64 y] z.val fun e w'' => e = .returned (.bool u) ∧ Below z.val.heap.size z.val w'' := fun z u hu => by
            have := refabove_any rb l.length q x y z.val (hP.kept (Ext.ok z))
            rw [hu] at this
            exact this.mono (by rintro _ _ ⟨rfl, rfl⟩; exact ⟨rfl, Below.refl _ _⟩)
          have CAB := Lib.hid cAb
          obtain ⟨bv, hbv⟩ : ∃ v, v = b.all (h i) := ⟨_, rfl⟩
          have cAll : ∀ (w1 : World), Below w.heap.size w w1 → Calls Tryd.prog 45 #[.pointer (some ⟨xb, 0, none⟩), .int .i64 (i : Int), .slice KB b.length kb] w1 fun e w'' => e = .returned (.bool bv) ∧ Below w1.heap.size w1 w'' := fun w1 hb1 => by
            rw [hbv]
            exact tall_any xb _ _ gm cm i rm h KB b kb hi hs5 ht5 HBL.out w1 (HT.out.more.kept hb1) (HIB.out.kept hb1)
          have CALL := Lib.hid cAll
          have HBV := Lib.hid hbv
          clear hP cAb cAll hbv hy0
          cases hu : up q x y with
          | true =>
            have hr : r = bv := by
              rw [HR.out, HBV.out, Bool.eq_iff_iff, gB_iff, HBA.out]
              exact TA.out HX0.out (by have := HY0.out; omega) HNO.out (up_iff.1 hu)
            subst hr
            have cA := fun z => CAB.out z true hu
            have CA := Lib.hid cA
            clear cA hu
            go_wp2_with fail
            refine wp_region_ext (I := Over wr) (by kernel_rfl) (by kernel_rfl) (Over.refl wr) ?_
            have f1 := Over.cell z1
            have f2 := Over.cell z2
            have f3 := Over.cell z3
            have f4 := Over.cell zx
            have f5 := Over.cell zy
            repeat (go_big_quiet_step ((go_at_call 44; exact Calls.over (CA.out _))))
            try refine wpQuiet_nil ?_
            intro wa hwa
            clear f1 f2 f3 f4 f5 z1 z2 z3 zx zy CAB CA
            have hBa := below_then hB hB.size hwa
            have c1 := CALL.out wa hBa
            go_wp2_with fail
            refine c1.mono ?_
            rintro e w1 ⟨rfl, hb1⟩
            have hB1 := below_then hBa hBa.size hb1
            clear c1 hb1 hBa hwa
            go_wp2_with fail
            go_ret
            exact ⟨rfl, hB1⟩
          | false =>
            have cA := fun z => CAB.out z false hu
            have CA := Lib.hid cA
            have HU := Lib.hid hu
            clear cA hu
            go_wp2_with fail
            refine wp_region_ext (I := Over wr) (by kernel_rfl) (by kernel_rfl) (Over.refl wr) ?_
            have f1 := Over.cell z1
            have f2 := Over.cell z2
            have f3 := Over.cell z3
            have f4 := Over.cell zx
            have f5 := Over.cell zy
            repeat (go_big_quiet_step ((go_at_call 44; exact Calls.over (CA.out _))))
            try refine wpQuiet_nil ?_
            intro wa hwa
            have hBa := below_then hB hB.size hwa
            have y2 := cell_kept hwa z2
            have y3 := cell_kept hwa z3
            have yx := cell_kept hwa zx
            have yy := cell_kept hwa zy
            clear f1 f2 f3 f4 f5 z1 z2 z3 zx zy CAB CA hwa hB
            by_cases hxy : x = y
            · have q0 : (x != y) = false := by simpa using hxy
              have HXY := Lib.hid hxy
              have hab : a.length = b.length := by rw [KL0.out HX0.out, KL1.out HY0.out, hxy]
              clear hxy
              go_wp2_with fail
              go_quiet (fail)
              go_wp2_with fail
              go_loopg [12] a.length (fun gk v wx => ∃ k : Nat, Aside (gk + k = a.length) ∧ v = .int .i64 k ∧ Below w.heap.size w wx ∧ Aside (∀ m, m < k → subAt l s (a.getD m 0) = subAt l t (b.getD m 0)))
              case atStart => exact ⟨0, (rfl : a.length + 0 = _), rfl, below_drawN hBa _, fun m hm => by omega⟩
              case round =>
                clear y2 y3 yx yy hBa
                obtain ⟨k, hg, rfl, hB, hE⟩ := hrel
                have hk : k ≤ a.length := by have := hg.out; omega
                by_cases hlt : k < a.length
                · have hltb : k < b.length := by omega
                  obtain ⟨p, e, hp, he, hps, het, fp, hp2⟩ := HFB.out k hlt hltb
                  obtain ⟨ab, ao, z, rfl, hz, _, _, hzc⟩ := (HIA.out.kept hB).at_ (k := k) (by rw [casts_len]; exact hlt)
                  rw [casts_at, hp] at hz
                  subst hz
                  obtain ⟨bb, bo, z, rfl, hz, _, _, hzd⟩ := (HIB.out.kept hB).at_ (k := k) (by rw [casts_len]; exact hltb)
                  rw [casts_at, he] at hz
                  subst hz
                  have hG := HT.out.same.kept hB
                  have hM := HT.out.more.kept hB
                  have e1 := hG.head
                  have e2 := hG.line p hps
                  have e3 := (hG.bit p e hps het).1
                  have e4 := hM.head
                  have e5 := hM.line p hps
                  have e6 := (hM.bit p e hps het).1
                  rw [fp] at e3
                  rw [hp2] at e6
                  have HP := Lib.hid hp
                  have HE0 := Lib.hid he
                  clear hp he fp hp2 hG hM
                  by_cases hsame : subAt l s p = subAt l t e
                  · rw [decide_eq_true hsame] at e3
                    have HSM := Lib.hid hsame
                    clear hsame e4 e5 e6
                    go_wp2_with fail
                    go_quiet (fail)
                    go_wp2_with fail
                    go_roundg (a.length - (k + 1))
                    case measure => have := hg.out; omega
                    case rel =>
                      refine ⟨k + 1, by have := hg.out; show _ = _; omega, by go_num, below_drawN hB _, fun m hm => ?_⟩
                      by_cases e' : m = k
                      · subst e'
                        rw [HP.out, HE0.out]
                        exact HSM.out
                      · exact hE.out m (by omega)
                  · rw [decide_eq_false hsame] at e3
                    have hlex := TL.out HX0.out HY0.out HNO.out HXY.out k hlt hltb hE.out (by rw [HP.out, HE0.out]; exact hsame)
                    rw [HP.out, HE0.out] at hlex
                    have hr : r = (gB l q s t p e && bv) := by
                      rw [HR.out, HBV.out, Bool.eq_iff_iff, gB_iff, Bool.and_eq_true, gB_iff, HBA.out]
                      exact hlex
                    have HRR := Lib.hid hr
                    clear hlex hr hsame hE
                    cases hgb : gB l q s t p e with
                    | true =>
                      rw [hgb] at e6
                      have hr : r = bv := by have := HRR.out; rw [hgb, Bool.true_and] at this; exact this
                      subst hr
                      clear hgb
                      go_wp2_with fail
                      go_quiet (fail)
                      go_wp2_with fail
                      refine wp_region_ext (I := Over wr) (by kernel_rfl) (by kernel_rfl) (below_draw (below_drawN (Below.refl _ _) _)) ?_
                      have f3 := Over.cell hzc
                      have f4 := Over.cell hzd
                      have f5 := Over.cell e4
                      have f6 := Over.cell e5
                      have f7 := Over.cell e6
                      repeat (go_big_quiet_step ((go_at_call 45; exact Calls.over (CALL.out _ (below_then hB hB.size (Ext.ok _))))))
                      try refine wpQuiet_nil ?_
                      intro wb hwb
                      have hBb := below_then hB hB.size hwb
                      clear f3 f4 f5 f6 f7
                      go_wp2_with fail
                      go_ret
                      exact ⟨rfl, hBb⟩
                    | false =>
                      rw [hgb] at e6
                      have hr : r = false := by have := HRR.out; rw [hgb, Bool.false_and] at this; exact this
                      subst hr
                      clear hgb
                      go_wp2_with fail
                      go_quiet (fail)
                      go_wp2_with fail
                      refine wp_region_ext (I := Over wr) (by kernel_rfl) (by kernel_rfl) (below_draw (below_drawN (Below.refl _ _) _)) ?_
                      have f3 := Over.cell hzc
                      have f4 := Over.cell hzd
                      have f5 := Over.cell e4
                      have f6 := Over.cell e5
                      have f7 := Over.cell e6
                      repeat (go_big_quiet_step (fail))
                      try refine wpQuiet_nil ?_
                      intro wb hwb
                      have hBb := below_then hB hB.size hwb
                      clear f3 f4 f5 f6 f7
                      go_wp2_with fail
                      go_ret
                      exact ⟨rfl, hBb⟩
                · have hke : k = a.length := by omega
                  subst hke
                  have hr : r = false := by rw [HR.out]; exact gB_false (TS.out HX0.out HY0.out HXY.out hab hE.out)
                  subst hr
                  clear hE
                  go_wp2_with fail
                  go_quiet (fail)
                  go_wp2_with fail
                  refine wp_region_ext (I := Over wr) (by kernel_rfl) (by kernel_rfl) (below_draw (below_drawN (Below.refl _ _) _)) ?_
                  repeat (go_big_quiet_step (fail))
                  try refine wpQuiet_nil ?_
                  intro wb hwb
                  have hBb := below_then hB hB.size hwb
                  go_wp2_with fail
                  go_ret
                  exact ⟨rfl, hBb⟩
            · have q0 : (x != y) = true := by simpa using hxy
              have hr : r = false := by rw [HR.out]; exact gB_false (TD.out HX0.out HY0.out HNO.out (up_false.1 HU.out) hxy)
              subst hr
              clear hxy
              go_wp2_with fail
              go_quiet (fail)
              go_wp2_with fail
              go_ret
              exact ⟨rfl, below_drawN hBa _⟩
end Go.Proofs.YthpdfkhmhaobgaaDoor
