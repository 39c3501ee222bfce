/- The walk of TermParts: over every signature, for any row it answers true. Conditions: utf8's tables as laid. -/
import Derived.Test.YtfhkbfofjjmbaaaDoorNest
import Derived.Test.YtfhkbfofjjmbaaaDoorWhich
import Derived.Test.YtfhkbfofjjmbaaaDoorMake
import Derived.Test.YtfhkbfofjjmbaaaDoorTermChecks
set_option linter.unusedVariables false
set_option linter.unusedSimpArgs false
namespace Go.Proofs.YtfhkbfofjjmbaaaDoor
open Go.RowKit Go.Lib

/-- A place of a row of the call's own is counted once more. -/
theorem RowO.count {w : World} {base g n : Nat} {f : Nat → Nat} {x : Nat} (h : RowO w base (.slice (some ⟨g, 0, none⟩) n n) (tally n f)) (hx : x < n) (hf : f x ≤ 1000) :
    w.cell? ⟨g, x, none⟩ = some (.int .i64 (f x)) ∧ w.frozen? ⟨g, x, none⟩ = false ∧ RowO (w.setCell ⟨g, x, none⟩ (.int .i64 ((f x : Int) + 1))) base (.slice (some ⟨g, 0, none⟩) n n) (tally n (fun j => if j = x then f j + 1 else f j)) ∧
      w.grownBy (w.setCell ⟨g, x, none⟩ (.int .i64 ((f x : Int) + 1))) (some g) := by
  have h1 := h.1
  rw [tally_length] at h1
  have hc := h1.cellAt x (by omega)
  rw [icells_at _ x (by rw [tally_length]; exact hx), tally_at f hx] at hc
  have hs := RowO.stored (k := x) (d := (f x : Int) + 1) h (tally_length n f).symm ⟨by omega, by omega⟩
  rw [tally_set f hx] at hs
  exact ⟨hc, h1.frozenAt x, hs, (h1.stored x _).2⟩
theorem above_right_any (A B : Option Addr) (l : List Sy) (t : List Int) (sc tc p : Nat) (hte : termErr l t = 0) (hp : p < t.length) (hcap : l.length ≤ sc) (w : World) (hl : Sigs w A l) (ht : Ints w B t) (hT : Tabs w) (h8 : t.length * 8 ≤ 140737488355328) :
    Calls Tryd.prog 23 #[.slice A l.length sc, .slice B t.length tc, .int .i64 p] w fun e w' => ∃ v, e = .returned (.tuple #[v, .int .i64 0]) ∧ Below w.heap.size w w' ∧ RowO w' w.heap.size v (aboveOf l t p) := by
  have h := above_any A B l t sc tc (p : Int) (by omega) hcap w hl ht hT h8
  rw [place_ok hte hp, if_pos rfl, Int.toNat_natCast] at h
  exact h
theorem kids_right_any (A B : Option Addr) (l : List Sy) (t : List Int) (sc tc p : Nat) (hte : termErr l t = 0) (hp : p < t.length) (hcap : l.length ≤ sc) (w : World) (hl : Sigs w A l) (ht : Ints w B t) (hT : Tabs w) (h8 : t.length * 8 ≤ 140737488355328) :
    Calls Tryd.prog 21 #[.slice A l.length sc, .slice B t.length tc, .int .i64 p] w fun e w' => ∃ v, e = .returned (.tuple #[v, .int .i64 0]) ∧ Below w.heap.size w w' ∧ RowO w' w.heap.size v (kidsAt l t p) := by
  have h := kids_any A B l t sc tc (p : Int) (by omega) hcap w hl ht hT h8
  rw [place_ok hte hp, if_pos rfl, Int.toNat_natCast] at h
  exact h
set_option maxRecDepth 100000 in
set_option maxHeartbeats 16000000 in
theorem termParts_walk (A : Option Addr) (l : List Sy) (sc : Nat) (B : Option Addr) (t : List Int) (tc : Nat) (w : World) (hT : Tabs w) (hcap : l.length ≤ sc) (hl : Sigs w A l)
    (htc : t.length ≤ tc) (hnt : B = none → t.length = 0 ∧ tc = 0) (h8 : t.length * 8 ≤ 140737488351232) (ht : Ints w B t) :
    Calls Tryd.prog 7 #[.slice A l.length sc, .slice B t.length tc] w fun e w' => e = .returned (.bool true) ∧ Below w.heap.size w w' := by
  have m2 := ht.2.1
  clear hnt
  go_enter Tryd.func7, Tryd.ntmps7
  go_wp2_with fail
  refine (shown_any w hT).mono ?_
  rintro e w1 ⟨rfl, hb1⟩
  have c1 := check_any A B l t l.length sc t.length tc rfl rfl hcap w1 (hl.kept hb1) (ht.kept hb1) (hT.kept hb1)
  have c2 := fun W h1 h2 => refcheck_any A B l t l.length sc t.length tc rfl rfl W h1 h2
  generalize hte : termErr l t = er at c1 c2
  have HTE := Lib.hid hte
  have heq : (er == er) = true := beq_self_eq_true _
  have hne : (er != er) = false := by simp
  clear hte
  go_wp2_with fail
  refine c1.mono ?_
  rintro e w2 ⟨rfl, hb2⟩
  have hB2 := below_then hb1 hb1.size hb2
  have c2 := c2 w2 (hl.kept hB2) (ht.kept hB2)
  clear c1 hb1 hb2
  by_cases h0 : er = 0
  · subst h0
    clear heq hne
    by_cases hbig : 200 < t.length
    · have hbig' : (200 : Int) < (t.length : Int) := by omega
      go_wp2_with fail
      refine c2.mono ?_
      rintro e w3 ⟨rfl, hb3⟩
      go_wp2_with fail
      go_ret
      exact ⟨rfl, below_then hB2 hB2.size hb3⟩
    · have hbig' : ¬ (200 : Int) < (t.length : Int) := by omega
      have hsm : t.length ≤ 200 := by omega
      have h88 : t.length * 8 ≤ 140737488355328 := by omega
      go_wp2_with fail
      refine c2.mono ?_
      rintro e w3 ⟨rfl, hb3⟩
      have hB3 := below_then hB2 hB2.size hb3
      clear c2 hb3 hB2
      obtain ⟨n, hn⟩ : ∃ n, n = t.length := ⟨_, rfl⟩
      have HN := Lib.hid hn
      go_wp2_with (at_make; refine wpList_make_ints rfl _ _ rfl _ _ t.length rfl rfl rfl rfl h88 ?_; intro w4 hO4 hb4)
      obtain ⟨cb, hcb⟩ : ∃ x, x = w3.heap.size := ⟨_, rfl⟩
      have hB4 := below_then hB3 hB3.size hb4
      have hO4 : RowO w4 cb (.slice (some ⟨cb, 0, none⟩) t.length t.length) (tally t.length (cnt l t 0)) := by
        have e : List.replicate t.length (0 : Int) = tally t.length (cnt l t 0) := by
          apply List.ext_getElem
          · simp [tally]
          · intro k h1 h2; simp [tally, cnt_zero]
        rw [← e, hcb]; exact hO4
      have hcl : w.heap.size ≤ cb := by rw [hcb]; exact hB3.size
      rw [← hcb]
      clear hcb hb4 hB3 hn HN
      go_wp2_with fail
      go_loopg [9] t.length (fun gi iv wx => ∃ i : Nat, Aside (gi + i = t.length) ∧ iv = .int .i64 i ∧ Below w.heap.size w wx ∧ RowO wx cb (.slice (some ⟨cb, 0, none⟩) t.length t.length) (tally t.length (cnt l t i)))
      case atStart => exact ⟨0, (rfl : t.length + 0 = _), rfl, hB4, hO4⟩
      case round =>
        clear hO4 hB4
        obtain ⟨i, hgi, rfl, hB, hO⟩ := hrel
        have hi : i ≤ t.length := by have := hgi.out; omega
        have hcbl := hO.block.2
        by_cases hlt : i < t.length
        · have cA := above_right_any A B l t sc tc i HTE.out hlt hcap wr (hl.kept hB) (ht.kept hB) (hT.kept hB) h88
          rw [above_ups] at cA
          have hUl := ups_len (l := l) (t := t) i
          have hU0 := fun h0 => ups_zero HTE.out (i := i) h0 hlt
          have hUat := fun k hk => ups_at (l := l) (t := t) (i := i) (k := k) hk
          have hCI := fun k hk j => cntIn_step (l := l) (t := t) (i := i) (k := k) hk j
          have hCE := fun j hj => cntIn_end HTE.out hlt j hj
          have hCL := fun k j => cntIn_le (l := l) (t := t) i k j
          have hCK := above_kid HTE.out hlt
          rw [above_ups] at hCK
          obtain ⟨U, hU⟩ : ∃ U, U = ups l t i := ⟨_, rfl⟩
          rw [← hU] at cA hUl hU0 hUat hCI hCE hCK
          have HU0 := Lib.hid hU0
          have HUAT := Lib.hid hUat
          have HCI := Lib.hid hCI
          have HCE := Lib.hid hCE
          have HCL := Lib.hid hCL
          have HCK := Lib.hid hCK
          clear hU hU0 hUat hCI hCE hCL hCK
          go_wp2_with fail
          refine cA.mono ?_
          rintro e w5 ⟨v1, rfl, hb5, hV⟩
          have hB5 := below_then hB hB.size hb5
          obtain ⟨VA, vc, rfl, _, _, _, hVI⟩ := hV.reads
          rw [List.length_map] at hV ⊢
          have hcn := cnt_le (l := l) (t := t) i i
          obtain ⟨hc, hf, hs, hg⟩ := (hO.below hb5).count hlt (by omega)
          have HS : Hid (RowO (w5.setCell ⟨cb, i, none⟩ (.int .i64 ((cnt l t i i : Int) + 1))) cb (.slice (some ⟨cb, 0, none⟩) t.length t.length) (tally t.length (cntIn l t i 0))) := Lib.hid (by
            have e : tally t.length (cntIn l t i 0) = tally t.length (fun j => if j = i then cnt l t i j + 1 else cnt l t i j) := tally_congr fun j _ => cntIn_zero i j
            rw [e]; exact hs)
          have HG := Lib.hid hg
          have HV := Lib.hid hV
          have HVI := Lib.hid hVI
          obtain ⟨cv, hcv⟩ : ∃ cv, cv = cnt l t i i := ⟨_, rfl⟩
          rw [← hcv] at hc HS HG hcn
          clear cA hb5 hV hs hg hO hcv
          have hU200 : U.length ≤ 200 := by omega
          rcases Nat.eq_zero_or_pos i with h0 | h0
          · subst h0
            have HU00 : Hid (U.length = 0) := Lib.hid (by omega)
            clear hUl
            go_wp2_with fail
            go_loopg [12] U.length (fun gk kv wx => ∃ k : Nat, Aside (gk + k = U.length) ∧ kv = .int .i64 k ∧ w5.grownBy wx (some cb) ∧ RowO wx cb (.slice (some ⟨cb, 0, none⟩) t.length t.length) (tally t.length (cntIn l t 0 k)))
            case atStart => exact ⟨0, (rfl : U.length + 0 = _), rfl, HG.out, HS.out⟩
            case round =>
              clear HG HS hc hf
              obtain ⟨k, hgk, rfl, hG, hO⟩ := hrel
              have hk : k ≤ U.length := by have := hgk.out; omega
              have hVk : RowO wr _ (.slice VA U.length vc) (U.map Int.ofNat) := HV.out.kept hG (.inr fun e => HV.out.far' hcbl e.symm)
              have hBk : Below w.heap.size w wr := hB5.grown hG hB5.size (fun j hj => by cases hj; exact hcl)
              by_cases hkl : k < U.length
              · have := HU00.out; omega
              · have hke : k = U.length := by omega
                subst hke
                have HO : Hid (RowO wr cb (.slice (some ⟨cb, 0, none⟩) t.length t.length) (tally t.length (cnt l t (0 + 1)))) := Lib.hid (by
                  have e : tally t.length (cnt l t (0 + 1)) = tally t.length (cntIn l t 0 U.length) := tally_congr fun j hj => (HCE.out j hj).symm
                  rw [e]; exact hO)
                have cK := kids_right_any A B l t sc tc 0 HTE.out hlt hcap wr (hl.kept hBk) (ht.kept hBk) (hT.kept hBk) h88
                have hKc := kids_count (l := l) (t := t) (i := 0)
                have HCKk := Lib.hid HCK.out
                obtain ⟨K, hK⟩ : ∃ K, K = kidsAt l t 0 := ⟨_, rfl⟩
                rw [← hK] at cK hKc
                have HCK2 : Hid (∀ k ∈ K, ∃ p : Nat, k = (p : Int) ∧ p < t.length ∧ aboveOf l t p = U.map Int.ofNat ++ [(((0 : Nat) : Int) : Int)]) := Lib.hid (by rw [hK]; exact HCKk.out)
                clear hO hG hVk hK HCKk
                obtain ⟨hE, _, _⟩ := place_end HTE.out hlt
                obtain ⟨_, hcb', _⟩ := scan_more (k := 0) hE
                obtain ⟨tb, tf, c, rfl, hgc, hc1, hc2, hcc⟩ := ht.at_ hlt
                rw [hgc] at hKc hcb'
                clear hE hgc
                go_wp2_with fail
                refine cK.mono ?_
                rintro e w8 ⟨v2, rfl, hb8, hKO⟩
                have hB8 := below_then hBk hBk.size hb8
                have hO8 := Lib.hid (HO.out.below hb8)
                obtain ⟨KA, kc, rfl, hKI⟩ := hKO.ints
                have hcc8 := cell_kept hB8 hcc
                try rw [Nat.add_zero] at hcc8
                clear cK HO hb8 hKO
                by_cases hneg : c < 0
                · rw [if_pos hneg] at hKc
                  have hng : ¬ 0 ≤ c := by omega
                  have hK0 : ¬ 0 < K.length := by omega
                  have hKm : K.length ≤ 8 := by omega
                  clear hcb' hKc
                  go_wp2_with fail
                  go_loopg [15] K.length (fun gq qv wx => ∃ q : Nat, Aside (gq + q = K.length) ∧ qv = .int .i64 q ∧ Below w8.heap.size w8 wx)
                  case atStart => exact ⟨0, (rfl : K.length + 0 = _), rfl, Below.refl _ _⟩
                  case round =>
                    obtain ⟨q, hgq, rfl, hBq⟩ := hrel
                    have hq : q ≤ K.length := by have := hgq.out; omega
                    have hBB := below_then hB8 hB8.size hBq
                    by_cases hql : q < K.length
                    · obtain ⟨kb, ko, y, rfl, hy, _, _, hyc⟩ := (hKI.kept hBq).at_ hql
                      obtain ⟨p, hp, hpl, hpa⟩ := HCK2.out y (getD_mem hql hy)
                      subst hp
                      have cA2 := above_right_any _ _ l t sc tc p HTE.out hpl hcap wr (hl.kept hBB) (ht.kept hBB) (hT.kept hBB) h88
                      rw [hpa] at cA2
                      clear hy hpa
                      go_wp2_with fail
                      refine cA2.mono ?_
                      rintro e w9 ⟨v3, rfl, hb9, hWO⟩
                      have hb89 := below_then hBq hBq.size hb9
                      obtain ⟨WA, wc, rfl, hWI⟩ := hWO.ints
                      obtain ⟨zb, zo, z, hze, hz, _, _, hzc⟩ := hWI.at_ (k := U.length) (by simp)
                      have hzi : z = (((0 : Nat) : Int) : Int) := by rw [← hz]; simp [List.getD_eq_getElem?_getD]
                      subst hze hzi
                      rw [show (U.map Int.ofNat ++ [(((0 : Nat) : Int) : Int)]).length = U.length + 1 by simp]
                      clear hz cA2 hWO hWI hb9
                      go_wp2_with fail
                      go_roundg (K.length - (q + 1))
                      case measure => have := hgq.out; omega
                      case rel => exact ⟨q + 1, by have := hgq.out; show _ = _; omega, by go_num, hb89⟩
                    · have hqe : q = K.length := by omega
                      subst hqe
                      have HF := Lib.hid (hO8.out.below hBq)
                      go_wp2_with fail
                      go_roundg (t.length - (0 + 1))
                      case measure => have := hgi.out; omega
                      case rel => exact ⟨0 + 1, by have := hgi.out; show _ = _; omega, by go_num, hBB, HF.out⟩
                · rw [if_neg hneg] at hKc
                  obtain ⟨cn, rfl⟩ := Int.eq_ofNat_of_zero_le (show 0 ≤ c by omega)
                  have hcn : cn < l.length := by unfold codeBad at hcb'; omega
                  obtain ⟨b2, off2, sn, an, rfl, hgs, _, _, ha⟩ := hl.at_ hcn
                  have han := (good_of (term_sig HTE.out)).2 _ (getD_mem (d := sy0) hcn hgs)
                  have hml := (good_of (term_sig HTE.out)).1
                  obtain ⟨an, rfl⟩ := Int.eq_ofNat_of_zero_le han.1
                  have hKn : K.length = an := by rw [hKc, arOf, if_neg hneg, Int.toNat_natCast, hgs]; rfl
                  have han8 : an ≤ 8 := by have := han.2; simp at this; omega
                  have ha8 := cell_kept hB8 ha
                  have hqa : ((K.length : Int) != (an : Int)) = false := by rw [hKn]; simp
                  have hKm : K.length ≤ 8 := by omega
                  clear hgs han hKc hcb' hKn ha
                  go_wp2_with fail
                  clear hqa ha8 han8 hml hcn hneg hc1 hc2 hcc8 hcc
                  go_loopg [15] K.length (fun gq qv wx => ∃ q : Nat, Aside (gq + q = K.length) ∧ qv = .int .i64 q ∧ Below w8.heap.size w8 wx)
                  case atStart => exact ⟨0, (rfl : K.length + 0 = _), rfl, Below.refl _ _⟩
                  case round =>
                    obtain ⟨q, hgq, rfl, hBq⟩ := hrel
                    have hq : q ≤ K.length := by have := hgq.out; omega
                    have hBB := below_then hB8 hB8.size hBq
                    by_cases hql : q < K.length
                    · obtain ⟨kb, ko, y, rfl, hy, _, _, hyc⟩ := (hKI.kept hBq).at_ hql
                      obtain ⟨p, hp, hpl, hpa⟩ := HCK2.out y (getD_mem hql hy)
                      subst hp
                      have cA2 := above_right_any _ _ l t sc tc p HTE.out hpl hcap wr (hl.kept hBB) (ht.kept hBB) (hT.kept hBB) h88
                      rw [hpa] at cA2
                      clear hy hpa
                      go_wp2_with fail
                      refine cA2.mono ?_
                      rintro e w9 ⟨v3, rfl, hb9, hWO⟩
                      have hb89 := below_then hBq hBq.size hb9
                      obtain ⟨WA, wc, rfl, hWI⟩ := hWO.ints
                      obtain ⟨zb, zo, z, hze, hz, _, _, hzc⟩ := hWI.at_ (k := U.length) (by simp)
                      have hzi : z = (((0 : Nat) : Int) : Int) := by rw [← hz]; simp [List.getD_eq_getElem?_getD]
                      subst hze hzi
                      rw [show (U.map Int.ofNat ++ [(((0 : Nat) : Int) : Int)]).length = U.length + 1 by simp]
                      clear hz cA2 hWO hWI hb9
                      go_wp2_with fail
                      go_roundg (K.length - (q + 1))
                      case measure => have := hgq.out; omega
                      case rel => exact ⟨q + 1, by have := hgq.out; show _ = _; omega, by go_num, hb89⟩
                    · have hqe : q = K.length := by omega
                      subst hqe
                      have HF := Lib.hid (hO8.out.below hBq)
                      go_wp2_with fail
                      go_roundg (t.length - (0 + 1))
                      case measure => have := hgi.out; omega
                      case rel => exact ⟨0 + 1, by have := hgi.out; show _ = _; omega, by go_num, hBB, HF.out⟩
          · obtain ⟨hu1, hu2⟩ := HU0.out h0
            obtain ⟨vb, vo, y, hVe, hy, hy1, hy2, hyc⟩ := HVI.out.at_ (k := 0) (by rw [List.length_map]; exact hu1)
            have hy0 : y = 0 := by
              rw [← hy]
              have : (U.map Int.ofNat).getD 0 0 = ((U.getD 0 0 : Nat) : Int) := by
                simp [List.getD_eq_getElem?_getD, List.getElem?_map, List.getElem?_eq_getElem hu1]
              rw [this, hu2]; rfl
            subst hVe hy0
            have hne : ¬ U.length = 0 := by omega
            rw [Nat.add_zero] at hyc
            clear hy hu2
            go_wp2_with fail
            go_loopg [12] U.length (fun gk kv wx => ∃ k : Nat, Aside (gk + k = U.length) ∧ kv = .int .i64 k ∧ w5.grownBy wx (some cb) ∧ RowO wx cb (.slice (some ⟨cb, 0, none⟩) t.length t.length) (tally t.length (cntIn l t i k)))
            case atStart => exact ⟨0, (rfl : U.length + 0 = _), rfl, HG.out, HS.out⟩
            case round =>
              clear HG HS hc hf
              obtain ⟨k, hgk, rfl, hG, hO⟩ := hrel
              have hk : k ≤ U.length := by have := hgk.out; omega
              have hVk : RowO wr _ (.slice (some ⟨vb, vo, none⟩) U.length vc) (U.map Int.ofNat) := HV.out.kept hG (.inr fun e => HV.out.far' hcbl e.symm)
              have hBk : Below w.heap.size w wr := hB5.grown hG hB5.size (fun j hj => by cases hj; exact hcl)
              by_cases hkl : k < U.length
              · have hUI := hVk.ints'
                obtain ⟨x1, x2, x3, x4⟩ := HUAT.out k hkl
                have HCIk := Lib.hid (HCI.out k hkl)
                have hget : ∀ m, m < U.length → (U.map Int.ofNat).getD m 0 = ((U.getD m 0 : Nat) : Int) := fun m hm => by
                  simp [List.getD_eq_getElem?_getD, List.getElem?_map, List.getElem?_eq_getElem hm]
                obtain ⟨ub, uo, y, hue, hy, _, _, hyc⟩ := hUI.at_ (k := k) (by rw [List.length_map]; exact hkl)
                rw [hget k hkl] at hy
                have hlow : ∀ m, m + 1 = k → ∃ z : Nat, wr.cell? ⟨ub, uo + m, none⟩ = some (.int .i64 z) ∧ z < U.getD k 0 := fun m hm => by
                  obtain ⟨ub', uo', y', hue', hy', _, _, hyc'⟩ := hUI.at_ (k := m) (by rw [List.length_map]; omega)
                  rw [hget m (by omega)] at hy'
                  rw [hue] at hue'
                  cases hue'
                  subst hy'
                  exact ⟨_, hyc', x4 m (by omega)⟩
                cases hue
                obtain ⟨x, hx⟩ : ∃ x, x = U.getD k 0 := ⟨_, rfl⟩
                rw [← hx] at x1 HCIk hy hlow
                subst hy
                have hxn : x < t.length := by omega
                obtain ⟨hc, hf, hs, hg⟩ := hO.count hxn (by have := HCL.out k x; omega)
                have HS : Hid (RowO (wr.setCell ⟨cb, x, none⟩ (.int .i64 ((cntIn l t i k x : Int) + 1))) cb (.slice (some ⟨cb, 0, none⟩) t.length t.length) (tally t.length (cntIn l t i (k + 1)))) := Lib.hid (by
                  have e : tally t.length (cntIn l t i (k + 1)) = tally t.length (fun j => if j = x then cntIn l t i k j + 1 else cntIn l t i k j) := tally_congr fun j _ => HCIk.out j
                  rw [e]; exact hs)
                clear hs hg HS hc hf
                have hx0 : decide ((x : Int) < 0) = false := decide_eq_false (by omega)
                have hxi : ¬ i ≤ x := by omega
                have hxl := HCL.out k x
                have HO := Lib.hid hO
                have HG := Lib.hid hG
                clear x2 x3 x4 hget hO hG hVk hUI hx
                cases k with
                | zero =>
                  rw [Nat.add_zero] at hyc
                  go_wp2_with fail
                  refine wp_region_ext (I := Over wr) (by kernel_rfl) (by kernel_rfl) (Over.refl wr) ?_
                  have f1 := Over.cell hyc
                  repeat (go_big_quiet_step (fail))
                  try refine wpQuiet_nil ?_
                  intro w' hw'
                  have hO' := HO.out.below hw'
                  obtain ⟨hc, hf, hs, hg⟩ := hO'.count hxn (by omega)
                  have hyc' := cell_kept hw' hyc
                  have HS : Hid (RowO (w'.setCell ⟨cb, x, none⟩ (.int .i64 ((cntIn l t i 0 x : Int) + 1))) cb (.slice (some ⟨cb, 0, none⟩) t.length t.length) (tally t.length (cntIn l t i (0 + 1)))) := Lib.hid (by
                    have e : tally t.length (cntIn l t i (0 + 1)) = tally t.length (fun j => if j = x then cntIn l t i 0 j + 1 else cntIn l t i 0 j) := tally_congr fun j _ => HCIk.out j
                    rw [e]; exact hs)
                  have HG2 : Hid (w5.grownBy (w'.setCell ⟨cb, x, none⟩ (.int .i64 ((cntIn l t i 0 x : Int) + 1))) (some cb)) := Lib.hid ((HG.out.andThen (show wr.grownBy w' none from ⟨hw'.os, hw'.tape, hw'.output, hw'.size, fun i hi _ => hw'.block i hi⟩) (fun j hj => by cases hj)).trans hg)
                  obtain ⟨cv2, hcv2⟩ : ∃ cv, cv = cntIn l t i 0 x := ⟨_, rfl⟩
                  rw [← hcv2] at hc HS HG2 hxl
                  clear hs hg hO' f1 hcv2
                  go_wp2_with fail
                  go_roundg (U.length - (0 + 1))
                  case measure => have := hgk.out; omega
                  case rel => exact ⟨0 + 1, by have := hgk.out; show _ = _; omega, by go_num, HG2.out, HS.out⟩
                | succ m =>
                  obtain ⟨z, hzc, hzx⟩ := hlow m rfl
                  have hxz : ¬ x ≤ z := by omega
                  go_wp2_with fail
                  refine wp_region_ext (I := Over wr) (by kernel_rfl) (by kernel_rfl) (Over.refl wr) ?_
                  have f1 := Over.cell hyc
                  have f2 := Over.cell hzc
                  repeat (go_big_quiet_step (fail))
                  try refine wpQuiet_nil ?_
                  intro w' hw'
                  have hO' := HO.out.below hw'
                  obtain ⟨hc, hf, hs, hg⟩ := hO'.count hxn (by omega)
                  have hyc' := cell_kept hw' hyc
                  have HS : Hid (RowO (w'.setCell ⟨cb, x, none⟩ (.int .i64 ((cntIn l t i (m + 1) x : Int) + 1))) cb (.slice (some ⟨cb, 0, none⟩) t.length t.length) (tally t.length (cntIn l t i (m + 1 + 1)))) := Lib.hid (by
                    have e : tally t.length (cntIn l t i (m + 1 + 1)) = tally t.length (fun j => if j = x then cntIn l t i (m + 1) j + 1 else cntIn l t i (m + 1) j) := tally_congr fun j _ => HCIk.out j
                    rw [e]; exact hs)
                  have HG2 : Hid (w5.grownBy (w'.setCell ⟨cb, x, none⟩ (.int .i64 ((cntIn l t i (m + 1) x : Int) + 1))) (some cb)) := Lib.hid ((HG.out.andThen (show wr.grownBy w' none from ⟨hw'.os, hw'.tape, hw'.output, hw'.size, fun i hi _ => hw'.block i hi⟩) (fun j hj => by cases hj)).trans hg)
                  obtain ⟨cv2, hcv2⟩ : ∃ cv, cv = cntIn l t i (m + 1) x := ⟨_, rfl⟩
                  rw [← hcv2] at hc HS HG2 hxl
                  clear hs hg hO' f1 hcv2
                  go_wp2_with fail
                  go_roundg (U.length - (m + 1 + 1))
                  case measure => have := hgk.out; omega
                  case rel => exact ⟨m + 1 + 1, by have := hgk.out; show _ = _; omega, by go_num, HG2.out, HS.out⟩
              · have hke : k = U.length := by omega
                subst hke
                have HO : Hid (RowO wr cb (.slice (some ⟨cb, 0, none⟩) t.length t.length) (tally t.length (cnt l t (i + 1)))) := Lib.hid (by
                  have e : tally t.length (cnt l t (i + 1)) = tally t.length (cntIn l t i U.length) := tally_congr fun j hj => (HCE.out j hj).symm
                  rw [e]; exact hO)
                have cK := kids_right_any A B l t sc tc i HTE.out hlt hcap wr (hl.kept hBk) (ht.kept hBk) (hT.kept hBk) h88
                have hKc := kids_count (l := l) (t := t) (i := i)
                have HCKk := Lib.hid HCK.out
                obtain ⟨K, hK⟩ : ∃ K, K = kidsAt l t i := ⟨_, rfl⟩
                rw [← hK] at cK hKc
                have HCK2 : Hid (∀ k ∈ K, ∃ p : Nat, k = (p : Int) ∧ p < t.length ∧ aboveOf l t p = U.map Int.ofNat ++ [(i : Int)]) := Lib.hid (by rw [hK]; exact HCKk.out)
                clear hO hG hVk hK HCKk
                obtain ⟨hE, _, _⟩ := place_end HTE.out hlt
                obtain ⟨_, hcb', _⟩ := scan_more (k := 0) hE
                obtain ⟨tb, tf, c, rfl, hgc, hc1, hc2, hcc⟩ := ht.at_ hlt
                rw [hgc] at hKc hcb'
                clear hE hgc
                go_wp2_with fail
                refine cK.mono ?_
                rintro e w8 ⟨v2, rfl, hb8, hKO⟩
                have hB8 := below_then hBk hBk.size hb8
                have hO8 := Lib.hid (HO.out.below hb8)
                obtain ⟨KA, kc, rfl, hKI⟩ := hKO.ints
                have hcc8 := cell_kept hB8 hcc
                try rw [Nat.add_zero] at hcc8
                clear cK HO hb8 hKO
                by_cases hneg : c < 0
                · rw [if_pos hneg] at hKc
                  have hng : ¬ 0 ≤ c := by omega
                  have hK0 : ¬ 0 < K.length := by omega
                  have hKm : K.length ≤ 8 := by omega
                  clear hcb' hKc
                  go_wp2_with fail
                  go_loopg [15] K.length (fun gq qv wx => ∃ q : Nat, Aside (gq + q = K.length) ∧ qv = .int .i64 q ∧ Below w8.heap.size w8 wx)
                  case atStart => exact ⟨0, (rfl : K.length + 0 = _), rfl, Below.refl _ _⟩
                  case round =>
                    obtain ⟨q, hgq, rfl, hBq⟩ := hrel
                    have hq : q ≤ K.length := by have := hgq.out; omega
                    have hBB := below_then hB8 hB8.size hBq
                    by_cases hql : q < K.length
                    · obtain ⟨kb, ko, y, rfl, hy, _, _, hyc⟩ := (hKI.kept hBq).at_ hql
                      obtain ⟨p, hp, hpl, hpa⟩ := HCK2.out y (getD_mem hql hy)
                      subst hp
                      have cA2 := above_right_any _ _ l t sc tc p HTE.out hpl hcap wr (hl.kept hBB) (ht.kept hBB) (hT.kept hBB) h88
                      rw [hpa] at cA2
                      clear hy hpa
                      go_wp2_with fail
                      refine cA2.mono ?_
                      rintro e w9 ⟨v3, rfl, hb9, hWO⟩
                      have hb89 := below_then hBq hBq.size hb9
                      obtain ⟨WA, wc, rfl, hWI⟩ := hWO.ints
                      obtain ⟨zb, zo, z, hze, hz, _, _, hzc⟩ := hWI.at_ (k := U.length) (by simp)
                      have hzi : z = (i : Int) := by rw [← hz]; simp [List.getD_eq_getElem?_getD]
                      subst hze hzi
                      rw [show (U.map Int.ofNat ++ [(i : Int)]).length = U.length + 1 by simp]
                      clear hz cA2 hWO hWI hb9
                      go_wp2_with fail
                      go_roundg (K.length - (q + 1))
                      case measure => have := hgq.out; omega
                      case rel => exact ⟨q + 1, by have := hgq.out; show _ = _; omega, by go_num, hb89⟩
                    · have hqe : q = K.length := by omega
                      subst hqe
                      have HF := Lib.hid (hO8.out.below hBq)
                      go_wp2_with fail
                      go_roundg (t.length - (i + 1))
                      case measure => have := hgi.out; omega
                      case rel => exact ⟨i + 1, by have := hgi.out; show _ = _; omega, by go_num, hBB, HF.out⟩
                · rw [if_neg hneg] at hKc
                  obtain ⟨cn, rfl⟩ := Int.eq_ofNat_of_zero_le (show 0 ≤ c by omega)
                  have hcn : cn < l.length := by unfold codeBad at hcb'; omega
                  obtain ⟨b2, off2, sn, an, rfl, hgs, _, _, ha⟩ := hl.at_ hcn
                  have han := (good_of (term_sig HTE.out)).2 _ (getD_mem (d := sy0) hcn hgs)
                  have hml := (good_of (term_sig HTE.out)).1
                  obtain ⟨an, rfl⟩ := Int.eq_ofNat_of_zero_le han.1
                  have hKn : K.length = an := by rw [hKc, arOf, if_neg hneg, Int.toNat_natCast, hgs]; rfl
                  have han8 : an ≤ 8 := by have := han.2; simp at this; omega
                  have ha8 := cell_kept hB8 ha
                  have hqa : ((K.length : Int) != (an : Int)) = false := by rw [hKn]; simp
                  have hKm : K.length ≤ 8 := by omega
                  clear hgs han hKc hcb' hKn ha
                  go_wp2_with fail
                  clear hqa ha8 han8 hml hcn hneg hc1 hc2 hcc8 hcc
                  go_loopg [15] K.length (fun gq qv wx => ∃ q : Nat, Aside (gq + q = K.length) ∧ qv = .int .i64 q ∧ Below w8.heap.size w8 wx)
                  case atStart => exact ⟨0, (rfl : K.length + 0 = _), rfl, Below.refl _ _⟩
                  case round =>
                    obtain ⟨q, hgq, rfl, hBq⟩ := hrel
                    have hq : q ≤ K.length := by have := hgq.out; omega
                    have hBB := below_then hB8 hB8.size hBq
                    by_cases hql : q < K.length
                    · obtain ⟨kb, ko, y, rfl, hy, _, _, hyc⟩ := (hKI.kept hBq).at_ hql
                      obtain ⟨p, hp, hpl, hpa⟩ := HCK2.out y (getD_mem hql hy)
                      subst hp
                      have cA2 := above_right_any _ _ l t sc tc p HTE.out hpl hcap wr (hl.kept hBB) (ht.kept hBB) (hT.kept hBB) h88
                      rw [hpa] at cA2
                      clear hy hpa
                      go_wp2_with fail
                      refine cA2.mono ?_
                      rintro e w9 ⟨v3, rfl, hb9, hWO⟩
                      have hb89 := below_then hBq hBq.size hb9
                      obtain ⟨WA, wc, rfl, hWI⟩ := hWO.ints
                      obtain ⟨zb, zo, z, hze, hz, _, _, hzc⟩ := hWI.at_ (k := U.length) (by simp)
                      have hzi : z = (i : Int) := by rw [← hz]; simp [List.getD_eq_getElem?_getD]
                      subst hze hzi
                      rw [show (U.map Int.ofNat ++ [(i : Int)]).length = U.length + 1 by simp]
                      clear hz cA2 hWO hWI hb9
                      go_wp2_with fail
                      go_roundg (K.length - (q + 1))
                      case measure => have := hgq.out; omega
                      case rel => exact ⟨q + 1, by have := hgq.out; show _ = _; omega, by go_num, hb89⟩
                    · have hqe : q = K.length := by omega
                      subst hqe
                      have HF := Lib.hid (hO8.out.below hBq)
                      go_wp2_with fail
                      go_roundg (t.length - (i + 1))
                      case measure => have := hgi.out; omega
                      case rel => exact ⟨i + 1, by have := hgi.out; show _ = _; omega, by go_num, hBB, HF.out⟩
        · have hie : i = t.length := by omega
          subst hie
          obtain ⟨wz, hwz⟩ : ∃ x, x = wr := ⟨_, rfl⟩
          subst hwz
          have HO := Lib.hid hO
          clear hO
          go_wp2_with fail
          go_loopg [18] t.length (fun gi iv wx => ∃ i : Nat, Aside (gi + i = t.length) ∧ iv = .int .i64 i ∧ Below wz.heap.size wz wx)
          case atStart => exact ⟨0, (rfl : t.length + 0 = _), rfl, Below.refl _ _⟩
          case round =>
            obtain ⟨i, hgi2, rfl, hB2⟩ := hrel
            have hi2 : i ≤ t.length := by have := hgi2.out; omega
            have hBz := below_then hB hB.size hB2
            by_cases hlt2 : i < t.length
            · have cS := sub_right_any A B l t sc tc i HTE.out hlt2 hcap htc wr (hl.kept hBz) (ht.kept hBz) (hT.kept hBz) h88
              have hSl := sub_length HTE.out hlt2
              have hSt := sub_term HTE.out hlt2
              obtain ⟨_, hpe1, hpe2⟩ := place_end HTE.out hlt2
              have hcn := cnt_all HTE.out hlt2
              have hS0 : (subAt l t i).getD 0 0 = t.getD i 0 := by
                unfold subAt
                rw [drop_cons t i hlt2, show endOf l t i - i = (endOf l t i - i - 1) + 1 by omega, List.take_succ_cons]; rfl
              obtain ⟨S, hS⟩ : ∃ S, S = subAt l t i := ⟨_, rfl⟩
              rw [← hS] at cS hSl hSt hS0
              clear hS
              go_wp2_with fail
              refine cS.mono ?_
              rintro e w9 ⟨v, rfl, hb9, hSO⟩
              have hb29 := below_then hB2 hB2.size hb9
              have hB9 := below_then hBz hBz.size hb9
              obtain ⟨SA, ss, rfl, hSI⟩ := hSO.ints
              have hSm : S.length ≤ 200 := by omega
              have hc : w9.cell? ⟨cb, i, none⟩ = some (.int .i64 (S.length : Int)) := by
                have := ((HO.out.below hb29).count hlt2 (by rw [hcn]; omega)).1
                rw [hcn, ← hSl] at this
                exact this
              obtain ⟨s0b, s0o, y, hye, hy, _, _, hyc⟩ := hSI.at_ (k := 0) (by omega)
              subst hye
              rw [Nat.add_zero] at hyc
              obtain ⟨tb, tf, c, hte2, hgc, _, _, hcc⟩ := (ht.kept hB9).at_ hlt2
              subst hte2
              have hyx : y = c := by rw [← hy, hS0, hgc]
              subst hyx
              have cC := fun W h1 h2 h3 => check_any A (some ⟨s0b, s0o, none⟩) l S l.length sc S.length ss rfl rfl hcap W h1 h2 h3
              rw [hSt] at cC
              have hl9 := hl.kept hB9
              have hT9 := hT.kept hB9
              have hq1 : ((S.length : Int) != (S.length : Int)) = false := by simp
              have hq2 : (y != y) = false := by simp
              have hSp : 0 < S.length := by omega
              clear cS hSl hSt hpe1 hpe2 hcn hS0 hy hgc hSO hb9
              go_wp2_with fail
              refine wp_region_ext (I := Over w9) (by kernel_rfl) (by kernel_rfl) (Over.refl w9) ?_
              have f1 := Over.cell hc
              have f2 := Over.cell hyc
              have f3 := Over.cell hcc
              repeat (go_big_quiet_step ((go_at_call 14; exact Calls.over (cC _ (hl9.kept (Ext.ok _)) (hSI.kept (Ext.ok _)) (hT9.kept (Ext.ok _))))))
              try refine wpQuiet_nil ?_
              intro w' hw'
              have hb2w := below_then hb29 hb29.size hw'
              clear f1 f2 f3
              go_wp2_with fail
              go_roundg (t.length - (i + 1))
              case measure => have := hgi2.out; omega
              case rel => exact ⟨i + 1, by have := hgi2.out; show _ = _; omega, by go_num, hb2w⟩
            · go_wp2_with fail
              go_ret
              exact ⟨rfl, hBz⟩
  · have hq1 : (er == 0) = false := beq_eq_false_iff_ne.2 h0
    have hq2 : (er != 0) = true := bne_iff_ne.2 h0
    clear h0
    go_wp2_with fail
    refine c2.mono ?_
    rintro e w3 ⟨rfl, hb3⟩
    go_wp2_with fail
    go_ret
    exact ⟨rfl, below_then hB2 hB2.size hb3⟩
end Go.Proofs.YtfhkbfofjjmbaaaDoor
