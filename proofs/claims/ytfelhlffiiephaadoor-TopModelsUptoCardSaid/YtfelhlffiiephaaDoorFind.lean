/- Down to a place of a term: the node there and the places above it, and the walk of the program's way. Conditions: utf8's tables as laid. -/
import Derived.Test.YtfelhlffiiephaaDoorPlaces
import Derived.Test.YtfelhlffiiephaaDoorRow
import Derived.Test.YtfelhlffiiephaaDoorTree
set_option linter.unusedVariables false
set_option linter.unusedSimpArgs false
namespace Go.Proofs.YtfelhlffiiephaaDoor
open Go.RowKit Go.Lib

/-- A node stands for the term at its place. -/
theorem KidsBy.scan {w : World} {S : Nat → Prop} {l : List Sy} {t : List Int} {f : Nat} (hN : ∀ v i e, Node w S l t f v i e → scanAt l t 1 i = .ok e) : ∀ (ks : List Value) (i e : Nat), KidsBy (Node w S l t f) ks i e → scanAt l t ks.length i = .ok e
  | [], i, e, h => by rw [show ([] : List Value).length = 0 from rfl, scanAt_zero]; cases h; rfl
  | v :: ks, i, e, ⟨m, h1, h2⟩ => by
    rw [List.length_cons, Nat.add_comm, scanAt_add, hN v i m h1]
    exact KidsBy.scan hN ks m e h2
theorem Node.scan {w : World} {S : Nat → Prop} {l : List Sy} {t : List Int} (hroot : scanAt l t 1 0 = .ok t.length) : ∀ {f : Nat} {v : Value} {i e : Nat}, Node w S l t f v i e → scanAt l t 1 i = .ok e
  | 0, _, _, _, h => h.elim
  | f + 1, v, i, e, ⟨h1, h2, h3⟩ => by
    obtain ⟨e', he', _, _⟩ := scan_inside t.length 1 0 t.length (by omega) hroot i (Nat.zero_le _) h1
    have hb : ¬ codeBad l (t.getD i 0) := fun hb => by rw [scanAt_bad l t 0 i h1 hb] at he'; cases he'
    rw [scanAt_step l t 0 i h1 hb, Nat.zero_add]
    rcases h3 with ⟨hn, rfl, _⟩ | ⟨hp, b, kv, ks, _, _, _, _, _, _, hk, hkids⟩
    · rw [arOf, if_pos hn, scanAt_zero]
    · rw [← hk]
      exact KidsBy.scan (fun v i e h => Node.scan hroot h) ks (i + 1) e hkids
theorem KidsBy.get {R : Value → Nat → Nat → Prop} : ∀ {ks : List Value} {q i e : Nat}, KidsBy R (ks.drop q) i e → q < ks.length → ∃ m, R (ks.getD q undef) i m ∧ KidsBy R (ks.drop (q + 1)) m e := by
  intro ks q i e h hq
  have hd : ks.drop q = ks.getD q undef :: ks.drop (q + 1) := by
    rw [List.drop_eq_getElem_cons hq]; simp [List.getD_eq_getElem?_getD, List.getElem?_eq_getElem hq]
  rw [hd] at h
  exact h
theorem KidsBy.le {R : Value → Nat → Nat → Prop} (hR : ∀ v i e, R v i e → i < e) : ∀ {ks : List Value} {i e : Nat}, KidsBy R ks i e → i ≤ e
  | [], i, e, h => by cases h; exact Nat.le_refl _
  | v :: ks, i, e, ⟨m, h1, h2⟩ => by have := hR v i m h1; have := KidsBy.le hR h2; omega
theorem Node.lt {w : World} {S : Nat → Prop} {l : List Sy} {t : List Int} : ∀ {f : Nat} {v : Value} {i e : Nat}, Node w S l t f v i e → i < e
  | 0, _, _, _, h => h.elim
  | _ + 1, _, _, _, h => h.2.1

theorem assert_inner (b : Nat) (w : World) : (Instr.typeAssert (innerV b) 78 114 false).run Tryd.prog w = .ok (.pointer (some ⟨b, 0, none⟩)) w := by kernel_rfl
/-- What a finder has found. -/
def FindPost (l : List Sy) (t : List Int) (a : Int) (w : World) (e : Ending) (w' : World) : Prop :=
  ∃ v u, e = .returned (.tuple #[v, u, .int .i64 (placeErr l t a)]) ∧ Below w.heap.size w w' ∧ (placeErr l t a = 0 → RowO w' w.heap.size u (aboveOf l t a.toNat) ∧ ∃ f, Node w' (From w.heap.size) l t f v a.toNat (endOf l t a.toNat)) ∧ (placeErr l t a ≠ 0 → RowO w' w.heap.size u [])
set_option maxRecDepth 100000 in
set_option maxHeartbeats 2000000 in
theorem find_any (A B : Option Addr) (l : List Sy) (t : List Int) (sc tc : Nat) (a : Int) (ha : -9223372036854775808 ≤ a ∧ a ≤ 9223372036854775807) (hcap : l.length ≤ sc) (w : World) (hl : Sigs w A l) (ht : Ints w B t) (hT : Tabs w) (h8 : t.length * 8 ≤ 140737488355328) :
    Calls Tryd.prog 44 #[.slice A l.length sc, .slice B t.length tc, .int .i64 a] w (FindPost l t a w) := by
  have m2 := ht.2.1
  have cT := tree_any A B l t l.length sc t.length tc rfl rfl hcap w hl ht hT
  have hroot : termErr l t = 0 → scanAt l t 1 0 = .ok t.length := fun h => by
    have hs : sigErr l = 0 := by
      unfold termErr at h
      by_cases hs : sigErr l = 0
      · exact hs
      · rw [if_pos hs] at h; exact absurd h hs
    have hr : rowErr l t = 0 := by unfold termErr at h; rwa [if_neg (by simp [hs])] at h
    have := rowErr_at l t
    rw [hr] at this
    cases hq : scanAt l t 1 0 with
    | error er => rw [hq] at this; rcases scanAt_err hq with h | h <;> simp [h] at this
    | ok n =>
      rw [hq] at this
      have hn := (scanAt_ok hq).2 (Nat.zero_le _)
      simp only at this
      by_cases hlt : n < t.length
      · rw [if_pos hlt] at this; cases this
      · have : n = t.length := by omega
        rw [this]
  unfold FindPost placeErr
  generalize termErr l t = er at cT hroot ⊢
  by_cases h0 : er = 0
  · subst h0
    simp only [ne_eq, eq_self_iff_true, not_true_eq_false, if_false]
    by_cases ha0 : a < 0
    · simp only [ha0, true_or, if_true]
      go_enter Tryd.func44, Tryd.ntmps44
      go_wp2_with fail
      refine cT.mono ?_
      rintro e w1 ⟨v, rfl, hb1, _⟩
      go_wp2_with fail
      go_ret3
      exact ⟨_, _, rfl, hb1, (fun h => by cases h), fun _ => RowO.nil _ _⟩
    by_cases hal : (t.length : Int) ≤ a
    · simp only [hal, or_true, if_true]
      go_enter Tryd.func44, Tryd.ntmps44
      go_wp2_with fail
      refine cT.mono ?_
      rintro e w1 ⟨v, rfl, hb1, _⟩
      go_wp2_with fail
      go_ret3
      exact ⟨_, _, rfl, hb1, (fun h => by cases h), fun _ => RowO.nil _ _⟩
    simp only [ha0, hal, or_self, if_false]
    obtain ⟨p, rfl⟩ := Int.eq_ofNat_of_zero_le (show 0 ≤ a by omega)
    have hp : p < t.length := by omega
    have e1 : ¬ t.length ≤ p := by omega
    have e2 : ¬ (p : Int) < 0 := by omega
    have HR := Lib.hid (hroot rfl)
    clear hroot ha0 hal
    go_enter Tryd.func44, Tryd.ntmps44
    go_wp2_with fail
    refine cT.mono ?_
    rintro e w1 ⟨v, rfl, hb1, hN⟩
    have HN : Hid (Node w1 (From w.heap.size) l t t.length v 0 t.length) := Lib.hid (by first | exact hN rfl | exact hN trivial)
    clear hN cT
    go_wp2_with fail
    go_loopg [9, 11, 12] p (fun gk x up iv wr => ∃ (h e f : Nat), Aside (p ≤ gk + h) ∧ iv = .int .i64 h ∧ h ≤ p ∧ p < e ∧ Node w1 (From w.heap.size) l t f x h e ∧ Below w1.heap.size w1 wr ∧
      RowO wr w1.heap.size up (((List.range h).filter fun i => decide (p < endOf l t i)).map Int.ofNat))
    case atStart => exact ⟨0, t.length, t.length, Nat.le_refl _, rfl, Nat.zero_le _, hp, HN.out, Below.refl _ _, RowO.nil _ _⟩
    case round =>
      obtain ⟨h, e, f, hg, rfl, hhp, hpe, hNode, hB, hO⟩ := hrel
      have HSC := Lib.hid (Node.scan HR.out hNode)
      by_cases hlt : h < p
      · cases f with
        | zero => exact hNode.elim
        | succ f =>
          obtain ⟨hh1, hh2, hh3⟩ := hNode
          rcases hh3 with ⟨_, he, _⟩ | ⟨hh4, b, kv, ks, rfl, hbS, c0, c1, c2, hkr, hka, hkids⟩
          · omega
          clear hka hh4
          rcases hkr with ⟨rfl, rfl⟩ | ⟨g, cap, rfl, hgS, hgl, hgc, hgk⟩
          · cases hkids; omega
          obtain ⟨FF, hFF⟩ : ∃ F, F = (((List.range h).filter fun i => decide (p < endOf l t i)).map Int.ofNat) := ⟨_, rfl⟩
          have hFl : FF.length ≤ h := by rw [hFF, List.length_map]; exact Nat.le_trans (List.length_filter_le _ _) (by simp)
          rw [← hFF] at hO
          have HUP : Hid (∀ m, h < m → m ≤ p → (∀ j, h + 1 ≤ j → j < m → endOf l t j ≤ p) → (((List.range m).filter fun i => decide (p < endOf l t i)).map Int.ofNat) = FF ++ [(h : Int)]) := Lib.hid (fun m h1 h2 h3 => by
            have e1 := above_skip (l := l) (t := t) (a := p) (i := h + 1) (m - (h + 1)) (fun j h4 h5 => h3 j h4 (by omega))
            rw [show h + 1 + (m - (h + 1)) = m by omega] at e1
            rw [e1, above_snoc (by rw [endOf_ok HSC.out]; exact hpe), List.map_append, ← hFF]; rfl)
          have hbl : b < w1.heap.size := World.block_lt_of_cell? w1 _ c2
          have d2 := cell_kept hB c2
          have hta := assert_inner b wr
          have hblw : b < wr.heap.size := Nat.lt_of_lt_of_le hbl hB.size
          obtain ⟨OA, OC, rfl, _⟩ := own_slice hO.1
          have hO1 := hO.1
          have h99 : (FF.length + 1) * 8 ≤ 140737488355328 := by omega
          have hrg := Lib.hid hO.2.2
          have hw1 : w1.heap.size ≤ wr.heap.size := hB.size
          have hkl : ks.length ≤ 140737488355328 := by
            have := KidsBy.scan (fun v i e h => Node.scan HR.out h) ks (h + 1) e hkids
            have h2 := scanAt_ok this
            have h3 := h2.2 (by omega)
            omega
          clear hFF hO c0 c1
          go_wp2_with (at_builtin; go_loud (refine push_all (.tmp 40) (.tmp 42) 38 3 (.int .i64 0) 1 8 rfl rfl Tryd.underlying38 infoInt rfl (by decide) (by decide) w1.heap.size _ FF.length (icells FF) (icells [(h : Int)]) rfl (hO1.alloc _) _ 1 1 rfl (fun h => by cases h) (icells_length _) (fun _ => ⟨_, 0, rfl, var_cells _ _ _ _ rfl⟩) (icells_one _) h99 (by simp; omega) ?_); intro v5 w5 ho5 hg5 ha5; have d5 := hg5.cell (cell_kept (below_alloc0 _ _) d2) (fun e => by have := (hO1.lt b e.symm).1; omega))
          have HB5 : Hid (Below w1.heap.size w1 w5) := Lib.hid ((below_alloc hB hw1 _).grown hg5 (by simp; omega) (fun j hj => (hO1.lt j hj).1))
          have HO5 : Hid (RowO w5 w1.heap.size v5 (FF ++ [(h : Int)])) := Lib.hid (RowO.pushed (piece := [(h : Int)]) ho5 (by simp only [List.length_cons, List.length_nil]; omega) hrg.out (fun y hy => by simp at hy; subst hy; exact ⟨by omega, by omega⟩))
          clear ho5 hg5 ha5 hO1
          go_loopg [12, 51] ks.length (fun gq hv iv wx => ∃ (q m : Nat), Aside (gq + q = ks.length) ∧ iv = .int .i64 q ∧ hv = .int .i64 m ∧ KidsBy (Node w1 (From w.heap.size) l t f) (ks.drop q) m e ∧ m ≤ p ∧ Below w5.heap.size w5 wx ∧ h < m ∧ Aside (∀ j, h + 1 ≤ j → j < m → endOf l t j ≤ p))
          case atStart => exact ⟨0, h + 1, (rfl : ks.length + 0 = _), rfl, by go_num, hkids, by omega, Below.refl _ _, by omega, fun j h1 h2 => by omega⟩
          case round =>
            clear hkids
            obtain ⟨q, m, hgq, rfl, rfl, hkd, hmp, hBq, hhm, hskip⟩ := hrel
            have hq : q ≤ ks.length := by have := hgq.out; omega
            by_cases hql : q < ks.length
            · obtain ⟨m', hk1, hk2⟩ := hkd.get hql
              have hmm := Node.lt hk1
              have hm'e := KidsBy.le (fun v i e h => Node.lt h) hk2
              have HSK := Lib.hid (Node.scan HR.out hk1)
              have hsz := hk1.sized
              have hub := hgk q (ks.getD q undef) (by simp [List.getD_eq_getElem?_getD, List.getElem?_eq_getElem hql])
              have hB15 := below_then HB5.out HB5.out.size hBq
              have hub5 := cell_kept hB15 hub
              have hel : e ≤ t.length := (scanAt_ok HSC.out).2 (by omega)
              have hel2 : m' ≤ t.length := Nat.le_trans hm'e hel
              clear hkd
              rcases hsz with ⟨nn, hu, hs1⟩ | ⟨bb, hu, hbb, hsc⟩
              · rw [hu] at hub5 hk1
                have hm1 : m' = m + 1 := by omega
                by_cases hgt : p < m'
                · have hgt' : (p : Int) < (m : Int) + 1 := by omega
                  go_wp2_with (go_at_call 65; refine (leafsize_any _ _).mono ?_; rintro e' w' ⟨rfl, rfl⟩)
                  go_roundg (p - m)
                  case measure => have := hg.out; omega
                  case rel =>
                    refine ⟨m, m', f, by show _ ≤ _; omega, by go_num, hmp, hgt, hk1, below_then HB5.out HB5.out.size hBq, ?_⟩
                    have e1 := HUP.out m hhm hmp hskip.out
                    rw [e1]
                    exact HO5.out.below hBq
                · have hgt' : ¬ (p : Int) < (m : Int) + 1 := by omega
                  have q1 : ¬ p ≤ m := by omega
                  have q2 : m < p := by omega
                  have q3 : m + 1 ≤ p := by omega
                  go_wp2_with (go_at_call 65; refine (leafsize_any _ _).mono ?_; rintro e' w' ⟨rfl, rfl⟩)
                  go_roundg (ks.length - (q + 1))
                  case measure => have := hgq.out; omega
                  case rel =>
                    refine ⟨q + 1, m', by have := hgq.out; show _ = _; omega, by go_num, by go_num, hk2, by omega, hBq, by omega, fun j h1 h2 => ?_⟩
                    by_cases hjm : j < m
                    · exact hskip.out j h1 hjm
                    · obtain ⟨e', he', hle, _⟩ := scan_inside t.length 1 m m' (by omega) (HSK.out) j (by omega) h2
                      rw [endOf_ok he']; omega
              · rw [hu] at hub5 hk1
                have hsz5 := cell_kept hB15 hsc
                by_cases hgt : p < m'
                · have hgt' : (p : Int) < (m : Int) + ((m' : Int) - (m : Int)) := by omega
                  have q3 : (m : Int) + ((m' : Int) - (m : Int)) = m' := by omega
                  go_wp2_with (go_at_call 66; refine (innersize_any _ _ _ hsz5).mono ?_; rintro e' w' ⟨rfl, rfl⟩)
                  go_roundg (p - m)
                  case measure => have := hg.out; omega
                  case rel =>
                    refine ⟨m, m', f, by show _ ≤ _; omega, by go_num, hmp, hgt, hk1, below_then HB5.out HB5.out.size hBq, ?_⟩
                    have e1 := HUP.out m hhm hmp hskip.out
                    rw [e1]
                    exact HO5.out.below hBq
                · have hgt' : ¬ (p : Int) < (m : Int) + ((m' : Int) - (m : Int)) := by omega
                  have q1 : m' ≤ p := by omega
                  have q2 : ¬ (p : Int) < (m' : Int) := by omega
                  have q3 : (m : Int) + ((m' : Int) - (m : Int)) = m' := by omega
                  go_wp2_with (go_at_call 66; refine (innersize_any _ _ _ hsz5).mono ?_; rintro e' w' ⟨rfl, rfl⟩)
                  go_roundg (ks.length - (q + 1))
                  case measure => have := hgq.out; omega
                  case rel =>
                    refine ⟨q + 1, m', by have := hgq.out; show _ = _; omega, by go_num, by go_num, hk2, by omega, hBq, by omega, fun j h1 h2 => ?_⟩
                    by_cases hjm : j < m
                    · exact hskip.out j h1 hjm
                    · obtain ⟨e', he', hle, _⟩ := scan_inside t.length 1 m m' (by omega) (HSK.out) j (by omega) h2
                      rw [endOf_ok he']; omega
            · have hqe : q = ks.length := by omega
              subst hqe
              rw [List.drop_length] at hkd
              cases hkd
              omega
      · have hhe : h = p := by omega
        subst hhe
        go_wp2_with fail
        go_ret3
        refine ⟨_, _, rfl, below_then hb1 hb1.size hB, fun _ => ⟨by rw [Int.toNat_natCast]; exact hO.base hb1.size, f, ?_⟩, fun h => by first | exact h.elim | exact absurd trivial h | exact absurd rfl h⟩
        rw [Int.toNat_natCast, endOf_ok HSC.out]
        exact hNode.keep ⟨hB.size, fun b hb hlt => ⟨hb, hB.block b hlt⟩⟩
  · have hq1 : (er == 0) = false := beq_eq_false_iff_ne.2 h0
    have hq2 : (er != 0) = true := bne_iff_ne.2 h0
    simp only [ne_eq, h0, not_false_eq_true, if_true]
    have H0 := Lib.hid h0
    clear hroot h0
    go_enter Tryd.func44, Tryd.ntmps44
    go_wp2_with fail
    refine cT.mono ?_
    rintro e w1 ⟨v, rfl, hb1, _⟩
    go_wp2_with fail
    go_ret3
    exact ⟨_, _, rfl, hb1, (fun h => by first | exact absurd h H0.out | exact h.elim), fun _ => RowO.nil _ _⟩
end Go.Proofs.YtfelhlffiiephaaDoor
