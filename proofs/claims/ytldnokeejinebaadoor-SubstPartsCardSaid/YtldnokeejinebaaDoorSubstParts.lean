/- The walk of SubstParts: over every signature, for all binds and every row it answers true. Conditions: utf8's tables as laid. -/
import Derived.Test.YtldnokeejinebaaDoorPartsB
set_option linter.unusedVariables false
set_option linter.unusedSimpArgs false
namespace Go.Proofs.YtldnokeejinebaaDoor
open Go.RowKit Go.Lib

set_option maxRecDepth 100000 in
set_option maxHeartbeats 2000000 in
theorem substParts_walk (A : Option Addr) (l : List Sy) (sc : Nat) (B : Option Addr) (s : List Bd) (c : Nat) (C : Option Addr) (t : List Int) (tc : Nat) (w : World) (hT : Tabs w) (hcap : l.length ≤ sc) (hl : Sigs w A l)
    (hc : s.length ≤ c) (hn : B = none → s.length = 0 ∧ c = 0) (h32 : s.length * 32 ≤ 140737488351232) (hs : Binds w B s) (htc : t.length ≤ tc) (hnt : C = none → t.length = 0 ∧ tc = 0) (h8 : t.length * 8 ≤ 140737488351232) (ht : Ints w C t) :
    Calls Tryd.prog 9 #[.slice A l.length sc, .slice B s.length c, .slice C t.length tc] w fun e w' => e = .returned (.bool true) ∧ Below w.heap.size w w' := by
  have m1 := hs.1
  have m2 := ht.2.1
  clear hn hnt
  go_enter Tryd.func9, Tryd.ntmps9
  go_wp2_with fail
  refine (shown_any w hT).mono ?_
  rintro e w1 ⟨rfl, hb1⟩
  go_wp2_with fail
  have cA := apply_any A B C l s t sc c tc hcap w1 (hl.kept hb1) (hs.kept hb1) (ht.kept hb1) (hT.kept hb1)
  have hBad := apply_bad (l := l) (s := s) (t := t)
  have hNone := apply_none (l := l) (t := t)
  have hUn := apply_unmet (l := l) (s := s) (t := t)
  have hJ := join_all (l := l) (s := s) (t := t)
  obtain ⟨a, ha⟩ : ∃ a, a = applied l s t := ⟨_, rfl⟩
  obtain ⟨er, her⟩ : ∃ e, e = applyErr l s t := ⟨_, rfl⟩
  rw [← ha, ← her] at cA hBad hUn hJ
  have HBAD := Lib.hid hBad
  have HUN := Lib.hid hUn
  have HJ := Lib.hid hJ
  have HNONE := Lib.hid hNone
  clear ha her hBad hUn hJ hNone
  refine cA.mono ?_
  rintro e w2 ⟨va, rfl, hb2, hOa⟩
  have hB2 := below_then hb1 hb1.size hb2
  obtain ⟨Aa, ca, rfl, hIa⟩ := hOa.ints
  clear cA hOa hb1 hb2
  go_wp2_with fail
  -- with no binds
  obtain ⟨w3, hw3⟩ : ∃ x, x = w2.alloc (.cells #[] 43) := ⟨_, rfl⟩
  have hb3 : Below w2.heap.size w2 w3 := by rw [hw3]; exact below_alloc0 _ _
  have hB3 := below_then hB2 hB2.size hb3
  have hIa3 := hIa.kept hb3
  rw [← hw3]
  obtain ⟨q, hq⟩ : ∃ x, x = w2.heap.size := ⟨_, rfl⟩
  rw [← hq]
  have cN := apply_any A (some ⟨q, 0, none⟩) C l [] t sc 0 tc hcap w3 (hl.kept hB3) (Binds.nil _ _) (ht.kept hB3) (hT.kept hB3)
  clear hw3 hb3 hIa hB2 hq
  obtain ⟨b, hb⟩ : ∃ a, a = applied l [] t := ⟨_, rfl⟩
  obtain ⟨er0, her0⟩ : ∃ e, e = applyErr l [] t := ⟨_, rfl⟩
  rw [← hb, ← her0] at cN
  have HUN2 : Hid (termErr l t = 0 → substErr l s = 0 → (∀ i j, i < (varsOf t).length → j < s.length → (s.getD j bd0).1 ≠ (varsOf t).getD i 0) → er = er0 ∧ a = b) := Lib.hid (by rw [hb, her0]; exact HUN.out)
  have HN2 : Hid (termErr l t = 0 → er0 = (if t.length ≤ 512 then 0 else 2) ∧ b = if t.length ≤ 512 then t else []) := Lib.hid (by rw [hb, her0]; exact HNONE.out)
  clear hb her0 HUN HNONE
  refine cN.mono ?_
  rintro e w4 ⟨vb, rfl, hb4, hOb⟩
  have hB4 := below_then hB3 hB3.size hb4
  obtain ⟨Ab, cb, rfl, hIb⟩ := hOb.ints
  have hIa4 := hIa3.kept hb4
  clear cN hOb hb4 hIa3 hB3
  have cK := refcheck_any A C l t l.length sc t.length tc rfl rfl w4 (hl.kept hB4) (ht.kept hB4)
  by_cases hte : termErr l t = 0
  · rw [hte] at cK
    have HTE := Lib.hid hte
    clear hte
    go_wp2_with fail
    refine cK.mono ?_
    rintro e w5 ⟨rfl, hb5⟩
    have hB5 := below_then hB4 hB4.size hb5
    have hIa5 := hIa4.kept hb5
    have hIb5 := hIb.kept hb5
    clear hIa4 hIb cK
    have cS := subst_refcheck_any A B l s sc c w5 (hl.kept hB5) (hs.kept hB5)
    by_cases hse : substErr l s = 0
    · rw [hse] at cS
      have HSE := Lib.hid hse
      clear hse
      go_wp2_with fail
      refine cS.mono ?_
      rintro e w6 ⟨rfl, hb6⟩
      have hB6 := below_then hB5 hB5.size hb6
      have hIa6 := hIa5.kept hb6
      have hIb6 := hIb5.kept hb6
      clear hIa5 hIb5 cS hb5 hb6 hB4 hB5
      have hne : 0 < t.length := term_some HTE.out
      obtain ⟨he0, hb0⟩ := HN2.out HTE.out
      clear HN2 HBAD
      have cV := fun W h1 => vars_any C t tc W h1 (by omega)
      obtain ⟨vs, hvs⟩ : ∃ x, x = varsOf t := ⟨_, rfl⟩
      have HUN : Hid ((∀ i j, i < vs.length → j < s.length → (s.getD j bd0).1 ≠ vs.getD i 0) → er = er0 ∧ a = b) := Lib.hid (by rw [hvs]; exact HUN2.out HTE.out HSE.out)
      rw [← hvs] at cV
      have HVS := Lib.hid hvs
      clear hvs HUN2
      by_cases h5 : t.length ≤ 512
      case' pos =>
        rw [if_pos h5] at he0 hb0
        subst he0
        replace hb0 := hb0.symm
        subst hb0
        have hcol : ¬ ((512 : Int) < t.length) := by omega
        go_wp2_with fail
        refine (same_self Ab C t cb tc w6 hIb6 (ht.kept hB6)).mono ?_
        rintro e w7 ⟨rfl, hb7⟩
        have hB7 := below_then hB6 hB6.size hb7
        have hIa7 := hIa6.kept hb7
        have hIb7 := hIb6.kept hb7
        clear hIa6 hIb6 hb7 hB6
        go_wp2_with fail
      case' neg =>
        rw [if_neg h5] at he0 hb0
        subst he0
        have hcol : ((512 : Int) < t.length) := by omega
        obtain ⟨w7, hw7⟩ : ∃ x, x = w6 := ⟨_, rfl⟩
        have hB7 := hB6
        have hIa7 := hIa6
        have hIb7 := hIb6
        rw [← hw7] at hB7 hIa7 hIb7 ⊢
        clear hIa6 hIb6 hB6 hw7 hb0
        go_wp2_with fail
      all_goals clear hcol h5
      all_goals refine (cV w7 (ht.kept hB7)).mono ?_
      all_goals rintro e w8 ⟨vv, rfl, hb8, hOv⟩
      all_goals
        have hB8 := below_then hB7 hB7.size hb8
        have hIa8 := hIa7.kept hb8
        have hIb8 := hIb7.kept hb8
        obtain ⟨VA, VC, rfl, hIv⟩ := hOv.ints
        have hvl := hIv.2.1
        clear hIa7 hIb7 hb8 hB7 hOv cV
        go_wp2_with fail
        go_loopg [12, 14] vs.length (fun gk met i wr => ∃ (k : Nat) (bm : Bool), Aside (gk + k = vs.length) ∧ i = .int .i64 k ∧ met = .bool bm ∧ Below w8.heap.size w8 wr ∧ Aside (bm = false → ∀ i j, i < k → j < s.length → (s.getD j bd0).1 ≠ vs.getD i 0))
        case atStart => exact ⟨0, false, (rfl : vs.length + 0 = _), rfl, rfl, Below.refl _ _, fun _ i j hi => absurd hi (Nat.not_lt_zero _)⟩
        case round =>
          obtain ⟨k, bm, hg, rfl, rfl, hB, hE⟩ := hrel
          have hk : k ≤ vs.length := by have := hg.out; omega
          have HE := Lib.hid hE.out
          clear hE
          by_cases hlt : k < vs.length
          · obtain ⟨bv, ov, y, rfl, hy, hy1, hy2, hyc⟩ := hIv.at_ hlt
            have HY := Lib.hid hy
            clear hy
            go_wp2_with fail
            go_loopg [12, 15] s.length (fun gj met j wx => ∃ (n : Nat) (bm : Bool), Aside (gj + n = s.length) ∧ j = .int .i64 n ∧ met = .bool bm ∧ Below w8.heap.size w8 wx ∧ Aside (bm = false → (∀ i j, i < k → j < s.length → (s.getD j bd0).1 ≠ vs.getD i 0) ∧ ∀ j, j < n → (s.getD j bd0).1 ≠ y))
            case atStart => exact ⟨0, bm, (rfl : s.length + 0 = _), rfl, rfl, hB, fun h => ⟨HE.out h, fun j hj => absurd hj (Nat.not_lt_zero _)⟩⟩
            case round =>
              clear hB
              obtain ⟨n, bm2, hgn, rfl, rfl, hB2, hE2⟩ := hrel
              have hn : n ≤ s.length := by have := hgn.out; omega
              have HE2 := Lib.hid hE2.out
              clear hE2
              by_cases hnl : n < s.length
              · obtain ⟨bs, offs, x, T, TA, TC, rfl, hx, hx1, hx2, hxc, hxT, hTd1, hTd2, hT8, hTT⟩ := (hs.kept hB8).at_ hnl
                have HX := Lib.hid hx
                clear hx hxT hTd1 hTd2 hT8 hTT
                have hxc' := cell_kept hB2 hxc
                have hyc' := cell_kept hB2 hyc
                cases bm2 with
                | true =>
                  clear hxc' hyc'
                  go_wp2_with fail
                  go_quiet (fail)
                  go_wp2_with fail
                  go_roundg (s.length - (n + 1))
                  case measure => have := hgn.out; omega
                  case rel => exact ⟨n + 1, true, by have := hgn.out; show _ = _; omega, by go_num, rfl, below_drawN hB2 _, fun h => by cases h⟩
                | false =>
                  by_cases hq : x = y
                  · have hq1 : (x == y) = true := beq_iff_eq.2 hq
                    clear hq
                    go_wp2_with fail
                    go_quiet (fail)
                    go_wp2_with fail
                    go_roundg (s.length - (n + 1))
                    case measure => have := hgn.out; omega
                    case rel => exact ⟨n + 1, true, by have := hgn.out; show _ = _; omega, by go_num, rfl, below_drawN hB2 _, fun h => by cases h⟩
                  · have hq1 : (x == y) = false := beq_eq_false_iff_ne.2 hq
                    have HQ := Lib.hid hq
                    have HE3 := Lib.hid (HE2.out rfl)
                    clear hq HE2
                    go_wp2_with fail
                    go_quiet (fail)
                    go_wp2_with fail
                    go_roundg (s.length - (n + 1))
                    case measure => have := hgn.out; omega
                    case rel =>
                      refine ⟨n + 1, false, by have := hgn.out; show _ = _; omega, by go_num, rfl, below_drawN hB2 _, fun _ => ⟨HE3.out.1, fun j hj => ?_⟩⟩
                      by_cases e : j = n
                      · subst e; rw [HX.out]; exact HQ.out
                      · exact HE3.out.2 j (by omega)
              · have hne2 : n = s.length := by omega
                subst hne2
                go_wp2_with fail
                go_roundg (vs.length - (k + 1))
                case measure => have := hg.out; omega
                case rel =>
                  refine ⟨k + 1, bm2, by have := hg.out; show _ = _; omega, by go_num, rfl, hB2, fun h i j hi hj => ?_⟩
                  by_cases e : i = k
                  · subst e; rw [HY.out]; exact (HE2.out h).2 j hj
                  · exact (HE2.out h).1 i j (by omega) hj
          · have hke : k = vs.length := by omega
            have hB9 := below_then hB8 hB8.size hB
            have hIa9 := hIa8.kept hB
            have hIb9 := hIb8.kept hB
            clear hIa8 hIb8 hB hB8 hIv
            have HUN3 := Lib.hid fun h : bm = false => HUN.out (fun i j hi hj => HE.out h i j (by omega) hj)
            subst hke
            clear HE HUN hlt
            obtain ⟨bt, ot, c0, rfl, hc, hc1, hc2, hcc⟩ := (ht.kept hB9).at_ hne
            have HC0 := Lib.hid hc
            clear hc
            rw [Nat.add_zero] at hcc
            by_cases hneg : c0 < 0
            · cases bm with
              | true =>
                clear HUN3
                go_wp2_with fail
                go_ret
                exact ⟨rfl, hB9⟩
              | false =>
                obtain ⟨he2, hab⟩ := HUN3.out rfl
                have cE := same_any Aa Ab a _ ca cb wr hIa9 hIb9
                rw [decide_eq_true hab] at cE
                subst he2
                clear HUN3 hab
                go_wp2_with fail
                refine cE.mono ?_
                rintro e w10 ⟨rfl, hb10⟩
                have hcc' := cell_kept hb10 hcc
                go_wp2_with fail
                go_ret
                exact ⟨rfl, below_then hB9 hB9.size hb10⟩
            · by_cases he : er = 0
              · have hJ := HJ.out he hne (by rw [HC0.out]; omega)
                have HJN := Lib.hid hJ
                have HJ0 : Hid (joined l s t 0 = [c0]) := Lib.hid (by unfold joined; rw [HC0.out]; rfl)
                subst he
                clear HJ hJ
                cases bm
                case' true =>
                  obtain ⟨w10, hw10⟩ : ∃ x, x = wr := ⟨_, rfl⟩
                  have hB10 := hB9
                  have hIa10 := hIa9
                  have hcc10 := hcc
                  rw [← hw10] at hB10 hIa10 hcc10 ⊢
                  clear hB9 hIa9 hIb9 hw10 HUN3 hcc
                  go_wp2_with fail
                case' false =>
                  obtain ⟨he2, hab⟩ := HUN3.out rfl
                  first
                    | exact absurd he2 (by decide)
                    | (have cE := same_any Aa Ab a _ ca cb wr hIa9 hIb9
                       rw [decide_eq_true hab] at cE
                       clear HUN3 hab he2
                       go_wp2_with fail
                       refine cE.mono ?_
                       rintro e w10 ⟨rfl, hb10⟩
                       have hB10 := below_then hB9 hB9.size hb10
                       have hIa10 := hIa9.kept hb10
                       have hcc10 := cell_kept hb10 hcc
                       clear hB9 hIa9 hIb9 hb10 cE hcc
                       go_wp2_with fail)
                all_goals
                  have hO0 := RowO.one (w := w10) rfl (x := c0) ⟨hc1, hc2⟩
                  have hb11 := below_alloc0 w10 (.cells #[.int .i64 c0] 3)
                  have hcK := fun W h1 h2 h3 => kids_any A (some ⟨bt, ot, none⟩) l t sc tc 0 (by omega) hcap W h1 h2 h3 (by omega)
                  rw [place_root HTE.out, if_pos rfl] at hcK
                  obtain ⟨w11, hw11⟩ : ∃ x, x = w10.alloc (.cells #[.int .i64 c0] 3) := ⟨_, rfl⟩
                  obtain ⟨q2, hq2⟩ : ∃ x, x = w10.heap.size := ⟨_, rfl⟩
                  rw [← hw11, ← hq2] at hO0
                  rw [← hw11] at hb11
                  rw [← hw11, ← hq2]
                  have hs11 : w11.heap.size = q2 + 1 := by rw [hw11, hq2]; simp
                  have HQ2 := Lib.hid hq2
                  rw [← hq2] at hb11
                  have hB11 : Below w.heap.size w w11 := below_then hB10 hB10.size (by rw [← hq2]; exact hb11)
                  clear hw11 hq2
                  refine (hcK w11 (hl.kept hB11) (ht.kept hB11) (hT.kept hB11)).mono ?_
                  rintro e w12 ⟨kv, rfl, hb12, hOk⟩
                  generalize hKS : kidsAt l t (0 : Int).toNat = ks at hOk
                  have hKS' : kidsAt l t 0 = ks := hKS
                  rw [hKS'] at HJN
                  have HKS := Lib.hid hKS'
                  clear hKS hKS' hcK
                  have hO12 := hO0.below hb12
                  rw [hs11] at hOk hb12
                  have hb12' : Below q2 w10 w12 := below_then hb11 (by omega) (by rw [hs11]; exact hb12)
                  rw [← HJ0.out] at hO12
                  have hne12 : ∀ x, kv.ownBlock = some x → (Value.slice (some ⟨q2, 0, none⟩) 1 1).ownBlock ≠ some x := fun x hx e => by
                    have := (hOk.1.lt x hx).1
                    injection e with e
                    simp only at e; omega
                  have hb2 : q2 ≤ w12.heap.size := by have := hb12'.size; have := HQ2.out; omega
                  obtain ⟨KA, KC, rfl, _⟩ := hOk.ints
                  have hkl := hOk.2.1
                  clear hO0 hb11 hb12 hB11 hcc10
                  go_wp2_with fail
                  go_loopg [16, 19] ks.length (fun gk V i wr => ∃ (k : Nat), Aside (gk + k = ks.length) ∧ i = .int .i64 k ∧ Below q2 w10 wr ∧ RowO wr q2 V (joined l s t k) ∧ RowO wr (q2 + 1) (.slice KA ks.length KC) ks ∧ q2 ≤ wr.heap.size ∧ Aside (∀ x, (Value.slice KA ks.length KC).ownBlock = some x → V.ownBlock ≠ some x))
                  case atStart => exact ⟨0, (rfl : ks.length + 0 = _), rfl, hb12', hO12, hOk, hb2, hne12⟩
                  case round =>
                    clear hb12' hO12 hOk hb2 hne12
                    obtain ⟨k, hg3, rfl, hB, hO, hOk, hb2, hNE⟩ := hrel
                    have hk3 : k ≤ ks.length := by have := hg3.out; omega
                    have HNE := Lib.hid hNE.out
                    clear hNE
                    have hB13 : Below w.heap.size w wr := below_then hB10 hB10.size (by rw [← HQ2.out]; exact hB)
                    by_cases hlt3 : k < ks.length
                    · obtain ⟨p, hp1, hp2, hp3, hp4, hp5⟩ := HJN.out.2 k hlt3
                      obtain ⟨bk, ok, x, hKA, hx, hx1, hx2, hxc⟩ := hOk.ints'.at_ hlt3
                      rw [hp1] at hx
                      subst hx hKA
                      have cSub := sub_any A (some ⟨bt, ot, none⟩) l t sc tc p ⟨hx1, hx2⟩ hcap htc wr (hl.kept hB13) (ht.kept hB13) (hT.kept hB13) (by omega)
                      rw [hp2, if_pos rfl, Int.toNat_natCast] at cSub
                      have cAp := fun (SA : Option Addr) (SC : Nat) W h1 h2 h3 h4 => apply_any A B SA l s (subAt l t p) sc c SC hcap W h1 h2 h3 h4
                      rw [hp3] at cAp
                      generalize subAt l t p = T3 at cSub cAp hp4 hp5
                      obtain ⟨y, hy⟩ : ∃ y, y = applied l s T3 := ⟨_, rfl⟩
                      rw [← hy] at cAp hp4 hp5
                      have HP4 := Lib.hid hp4
                      have HP5 := Lib.hid hp5
                      clear hy hp1 hp2 hp3 hp4 hp5
                      go_wp2_with fail
                      refine cSub.mono ?_
                      rintro e w14 ⟨sv, rfl, hb14, hOs⟩
                      obtain ⟨SA, SC, rfl, hIs⟩ := hOs.ints
                      have hB14 := below_then hB13 hB13.size hb14
                      clear cSub hOs
                      go_wp2_with fail
                      refine (cAp SA SC w14 (hl.kept hB14) (hs.kept hB14) hIs (hT.kept hB14)).mono ?_
                      rintro e w15 ⟨yv, rfl, hb15, hOy⟩
                      have hb115 := below_then hb14 hb14.size hb15
                      have hO15 := hO.below hb115
                      have hOk15 := hOk.below hb115
                      have hBq := below_then hB hb2 hb115
                      have hb215 : q2 ≤ w15.heap.size := Nat.le_trans hb2 hb115.size
                      obtain ⟨YA, YC, rfl, hY1, hY2, hY3, hIy⟩ := hOy.reads
                      have hO15' := hO15.1
                      have HRG := Lib.hid hO15.2.2
                      have HYG := Lib.hid hOy.2.2
                      have h99 : ((joined l s t k).length + y.length) * 8 ≤ 140737488355328 := by have := HP5.out; omega
                      have hyc := hIy.cells
                      clear cAp hO hOk hB hb2 hb14 hb15 hb115 hOy hB14 hIs hxc hO15
                      go_wp2_with (at_builtin; refine push_all (.tmp 171) (.tmp 172) 30 3 (.int .i64 0) 1 8 rfl rfl Tryd.underlying30 infoInt rfl (by decide) (by decide) q2 _ (joined l s t k).length (icells (joined l s t k)) (icells y) rfl hO15' YA y.length YC rfl hY2 (icells_length _) hyc (icells_one _) h99 hb215 ?_; intro v5 w5 ho5 hg5 ha5)
                      have HO5 : Hid (RowO w5 q2 v5 (joined l s t (k + 1))) := Lib.hid (by rw [HP4.out]; exact RowO.pushed ho5 h99 HRG.out HYG.out)
                      have HB5 : Hid (Below q2 w10 w5) := Lib.hid (hBq.grown hg5 hb215 (fun j hj => (hO15'.lt j hj).1))
                      have HK5 : Hid (RowO w5 (q2 + 1) (.slice (some ⟨bk, ok, none⟩) ks.length KC) ks) := Lib.hid (hOk15.kept hg5 (.inr fun e => HNE.out _ rfl e.symm))
                      have HN5 : Hid (∀ x, (Value.slice (some ⟨bk, ok, none⟩) ks.length KC).ownBlock = some x → v5.ownBlock ≠ some x) := Lib.hid (fun x hx e => by
                        rcases ha5 with h | h
                        · exact HNE.out x hx (h.symm.trans e)
                        · rw [h] at e; injection e with e
                          have := (hOk15.1.lt x hx).2; omega)
                      have hb5 : q2 ≤ w5.heap.size := Nat.le_trans hb215 hg5.size
                      clear ho5 hg5 ha5 hO15' hOk15 hBq hyc hIy hY1 hY2 hY3
                      go_roundg (ks.length - (k + 1))
                      case measure => have := hg3.out; omega
                      case rel => exact ⟨k + 1, by have := hg3.out; show _ = _; omega, by go_num, HB5.out, HO5.out, HK5.out, hb5, HN5.out⟩
                    · have hke3 : k = ks.length := by omega
                      subst hke3
                      rw [← HJN.out.1] at hO
                      obtain ⟨RA, RC, rfl, hIr⟩ := hO.ints
                      have hIa13 := hIa10.kept (by rw [← HQ2.out]; exact hB)
                      clear hOk hO hB hIa10 HJN HNE
                      go_wp2_with fail
                      refine (same_self RA Aa a RC ca wr hIr hIa13).mono ?_
                      rintro e w20 ⟨rfl, hb20⟩
                      go_wp2_with fail
                      go_ret
                      exact ⟨rfl, below_then hB13 hB13.size hb20⟩
              · have hq1 : (er == 0) = false := beq_eq_false_iff_ne.2 he
                have hq2 : (er != 0) = true := bne_iff_ne.2 he
                cases bm with
                | true =>
                  go_wp2_with fail
                  go_ret
                  exact ⟨rfl, hB9⟩
                | false =>
                  obtain ⟨he2, hab⟩ := HUN3.out rfl
                  first | (exact absurd he2 he) | skip
                  all_goals
                    have cE := same_any Aa Ab a _ ca cb wr hIa9 hIb9
                    rw [decide_eq_true hab] at cE
                    subst he2
                    clear HUN3 hab hq1 hq2
                    go_wp2_with fail
                    refine cE.mono ?_
                    rintro e w10 ⟨rfl, hb10⟩
                    have hcc' := cell_kept hb10 hcc
                    go_wp2_with fail
                    go_ret
                    exact ⟨rfl, below_then hB9 hB9.size hb10⟩
    · have h0 := HBAD.out (.inr hse)
      have hq1 : (substErr l s == 0) = false := beq_eq_false_iff_ne.2 hse
      have hq2 : (substErr l s != 0) = true := bne_iff_ne.2 hse
      have hq3 : (er == 0) = false := beq_eq_false_iff_ne.2 h0.1
      have hq4 : (er != 0) = true := bne_iff_ne.2 h0.1
      obtain ⟨_, ha0⟩ := h0
      subst ha0
      generalize substErr l s = se at cS hq1 hq2
      clear HBAD HUN2 HN2 HJ hse
      go_wp2_with fail
      refine cS.mono ?_
      rintro e w6 ⟨rfl, hb6⟩
      go_wp2_with fail
      go_ret
      exact ⟨rfl, below_then hB5 hB5.size hb6⟩
  · have h0 := HBAD.out (.inl hte)
    have hq1 : (termErr l t == 0) = false := beq_eq_false_iff_ne.2 hte
    have hq2 : (termErr l t != 0) = true := bne_iff_ne.2 hte
    have hq3 : (er == 0) = false := beq_eq_false_iff_ne.2 h0.1
    have hq4 : (er != 0) = true := bne_iff_ne.2 h0.1
    obtain ⟨_, ha0⟩ := h0
    subst ha0
    generalize termErr l t = te at cK hq1 hq2
    clear HBAD HUN2 HN2 HJ hte
    go_wp2_with fail
    refine cK.mono ?_
    rintro e w5 ⟨rfl, hb5⟩
    go_wp2_with fail
    go_ret
    exact ⟨rfl, below_then hB4 hB4.size hb5⟩
end Go.Proofs.YtldnokeejinebaaDoor
