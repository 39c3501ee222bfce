/- In each algebra in which the equations hold, every lemma that is taken holds: the walk of TopModels. Conditions: utf8's tables as laid; equations and lemmas together in the reach of one row. -/
import Derived.Test.YtfelhlffiiephaaDoorRules
import Derived.Test.YtfelhlffiiephaaDoorModel
import Derived.Test.YtfelhlffiiephaaDoorAlike
import Derived.Test.YtfelhlffiiephaaDoorProofCheck
set_option linter.unusedVariables false
set_option linter.unusedSimpArgs false
set_option linter.unnecessarySimpa false
namespace Go.Proofs.YtfelhlffiiephaaDoor

theorem RowWorth.refl {l : List Sy} {m : Int} {F : Int → Nat → Int} (t : List Int) : RowWorth l m F t t := Worth.refl _
theorem do_worth {l : List Sy} {m : Int} {F : Int → Nat → Int} {known : List Rl} {t u : List Int} {x : Stp} (hk : ∀ q, q ∈ known → RowWorth l m F q.1 q.2) (ht : termErr l t = 0) (h : doStep l known t x = some u) : termErr l u = 0 ∧ RowWorth l m F t u := by
  unfold doStep at h
  by_cases hb : doBad l known t x
  · rw [if_pos hb] at h; cases h
  · rw [if_neg hb] at h
    injection h with h
    unfold doBad at hb
    simp only [not_or, Classical.not_not, Int.not_lt, Int.not_le, ne_eq] at hb
    obtain ⟨h1, h2, h3, h4, h5, h6, h7, h8⟩ := hb
    obtain ⟨_, p1, p2⟩ := place_zero h4
    have hm : known.getD x.eq.toNat rl0 ∈ known := getD_mem (by omega) rfl
    have hw := hk _ hm
    have hft : RowWorth l m F (fromOf known x) (toOf known x) := by
      unfold fromOf toOf
      cases x.back with
      | true => exact Worth.symm hw
      | false => exact hw
    have := step_worth hft h5 h7 ht (show x.at_.toNat < t.length by omega) h6
    rw [h] at this
    exact this
theorem steps_worth {l : List Sy} {m : Int} {F : Int → Nat → Int} {known : List Rl} (hk : ∀ q, q ∈ known → RowWorth l m F q.1 q.2) : ∀ (xs : List Stp) (t u : List Int), termErr l t = 0 → goSteps l known t xs = some u → termErr l u = 0 ∧ RowWorth l m F t u
  | [], t, u, ht, h => by
    rw [goSteps] at h
    injection h with h
    subst h
    exact ⟨ht, RowWorth.refl _⟩
  | x :: xs, t, u, ht, h => by
    rw [goSteps] at h
    cases hd : doStep l known t x with
    | none => rw [hd] at h; cases h
    | some v =>
      rw [hd] at h
      obtain ⟨h1, h2⟩ := do_worth hk ht hd
      obtain ⟨h3, h4⟩ := steps_worth hk xs v u h1 h
      exact ⟨h3, Worth.trans h2 h4⟩
theorem lemma_worth {l : List Sy} {m : Int} {F : Int → Nat → Int} {known : List Rl} (hk : ∀ q, q ∈ known → RowWorth l m F q.1 q.2) {x : Lem} (h : lemmaErr l known x = 0) : (termErr l x.L = 0 ∧ x.L.length ≤ 512) ∧ (termErr l x.R = 0 ∧ x.R.length ≤ 512) ∧ RowWorth l m F x.L x.R := by
  unfold lemmaErr at h
  by_cases hb : sideBad l x.L ∨ sideBad l x.R
  · rw [if_pos hb] at h; cases h
  · rw [if_neg hb] at h
    simp only [sideBad, not_or, Classical.not_not, ne_eq, Nat.not_lt] at hb
    obtain ⟨⟨h1, h2⟩, h3, h4⟩ := hb
    refine ⟨⟨h1, h2⟩, ⟨h3, h4⟩, ?_⟩
    cases hg : goSteps l known x.L x.steps with
    | none => rw [hg] at h; cases h
    | some t =>
      rw [hg] at h
      unfold endErr at h
      by_cases e : t = x.R
      · have := (steps_worth hk x.steps x.L t h1 hg).2
        rw [e] at this
        exact this
      · simp only [if_neg e] at h; cases h
theorem lemmas_worth {l : List Sy} {m : Int} {F : Int → Nat → Int} : ∀ (ls : List Lem) (known : List Rl), (∀ q, q ∈ known → RowWorth l m F q.1 q.2) → lemmasErr l known ls = 0 → ∀ x, x ∈ ls → (termErr l x.L = 0 ∧ x.L.length ≤ 512) ∧ (termErr l x.R = 0 ∧ x.R.length ≤ 512) ∧ RowWorth l m F x.L x.R
  | [], _, _, _, x, hx => by cases hx
  | y :: ls, known, hk, h, x, hx => by
    rw [lemmasErr] at h
    by_cases hz : lemmaErr l known y = 0
    · rw [if_neg (by simp [hz])] at h
      have hy := lemma_worth hk hz
      rcases List.mem_cons.1 hx with rfl | hx
      · exact hy
      · refine lemmas_worth ls _ (fun q hq => ?_) h x hx
        rcases List.mem_append.1 hq with h | h
        · exact hk q h
        · simp at h
          subst h
          exact hy.2.2
    · rw [if_pos hz] at h; exact absurd h hz
theorem check_worth {l : List Sy} {m : Int} {F : Int → Nat → Int} {eqs : List Rl} {ls : List Lem} (hk : ∀ q, q ∈ eqs → RowWorth l m F q.1 q.2) (h : checkErr l eqs ls = 0) : ∀ x, x ∈ ls → (termErr l x.L = 0 ∧ x.L.length ≤ 512) ∧ (termErr l x.R = 0 ∧ x.R.length ≤ 512) ∧ RowWorth l m F x.L x.R := by
  unfold checkErr at h
  by_cases h1 : sigErr l = 0
  · rw [if_neg (by simp [h1])] at h
    split at h
    · cases h
    · split at h
      · cases h
      · exact lemmas_worth ls eqs hk h
  · rw [if_pos h1] at h; exact absurd h h1
end Go.Proofs.YtfelhlffiiephaaDoor
namespace Go.Proofs.YtfelhlffiiephaaDoor
open Go.RowKit Go.Lib

/-- An equation that holds, of terms that are not too big. -/
def EqOk (l : List Sy) (M : Int) (lins : List (List Int)) (q : Rl) : Prop := termErr l q.1 = 0 ∧ termErr l q.2 = 0 ∧ q.1.length ≤ 60 ∧ q.2.length ≤ 60 ∧ RowWorth l (modOf M) (facOf M lins) q.1 q.2
def ModelRes (l : List Sy) (M : Int) (lins : List (List Int)) (eqs : List Rl) (e : Ending) : Prop := ∃ r : Bool, e = .returned (.bool r) ∧ (r = true ↔ ∀ q, q ∈ eqs → EqOk l M lins q)
theorem ModelRes.no {l : List Sy} {M : Int} {lins : List (List Int)} {eqs : List Rl} {q : Rl} (hq : q ∈ eqs) (h : ¬ EqOk l M lins q) : ModelRes l M lins eqs (.returned (.bool false)) := ⟨false, rfl, (fun h => by cases h), fun h' => absurd (h' q hq) h⟩
set_option maxRecDepth 100000 in
set_option maxHeartbeats 8000000 in
theorem model_any (M : Int) (LA : Option Addr) (lins : List (List Int)) (lc : Nat) (hM : -9223372036854775808 ≤ M ∧ M ≤ 9223372036854775807) (A : Option Addr) (l : List Sy) (sc : Nat) (EA : Option Addr) (eqs : List Rl) (ec : Nat) (w : World)
    (hL : RowsIn w LA lins) (hl : Sigs w A l) (he : Rules w EA eqs) :
    Calls Tryd.prog 7 #[.agg #[.int .i64 M, .slice LA lins.length lc], .slice A l.length sc, .slice EA eqs.length ec] w fun e w' => ModelRes l M lins eqs e ∧ Below w.heap.size w w' := by
  have hen := he.1
  obtain ⟨w0, hw0⟩ : ∃ x, x = w.alloc (.cells #[.int .i64 M, .slice LA lins.length lc] 26) := ⟨_, rfl⟩
  have hb0 : Below w.heap.size w w0 := by rw [hw0]; exact below_alloc0 w _
  obtain ⟨a3, ha3⟩ : ∃ x, x = w.heap.size := ⟨_, rfl⟩
  have x0 : w0.cell? ⟨a3, 0, none⟩ = some (.int .i64 M) := by rw [hw0, ha3]; exact World.cell?_alloc_new _ _ _ 0
  have x1 : w0.cell? ⟨a3, 1, none⟩ = some (.slice LA lins.length lc) := by rw [hw0, ha3]; exact World.cell?_alloc_new _ _ _ 1
  have hL0 := hL.kept hb0
  have hl0 := hl.kept hb0
  have he0 := he.kept hb0
  have HB0 := Lib.hid hb0
  clear hL hl he hb0
  go_enter Tryd.func7, Tryd.ntmps7
  go_wp2_with fail
  rw [← hw0, ← ha3]
  clear hw0 ha3
  go_loopg [7, 8, 9, 10] eqs.length (fun gk v u8 u9 u10 wr => ∃ k : Nat, Aside (gk + k = eqs.length) ∧ v = .int .i64 k ∧ Below w0.heap.size w0 wr ∧ Aside (∀ q, q ∈ eqs.take k → EqOk l M lins q))
  case atStart => exact ⟨0, (rfl : eqs.length + 0 = _), rfl, Below.refl _ _, fun q hq => by simp at hq⟩
  case round =>
    obtain ⟨k, hg, rfl, hB, hE⟩ := hrel
    have hk : k ≤ eqs.length := by have := hg.out; omega
    have HE := Lib.hid hE.out
    have HBr := Lib.hid (below_then HB0.out HB0.out.size hB)
    have x0r := cell_kept hB x0
    have x1r := cell_kept hB x1
    have hLr := hL0.kept hB
    have hlr := hl0.kept hB
    have her := he0.kept hB
    clear hE
    by_cases hlt : k < eqs.length
    · obtain ⟨qb, qo, x, y, B, C, c, d, rfl, hq, hc1, hc2, hv1, hv2⟩ := her.at_ hlt
      have hqm : (x, y) ∈ eqs := getD_mem hlt hq
      have HQ := Lib.hid hq
      have HQM := Lib.hid hqm
      obtain ⟨g1, g2, g3, g4⟩ := hv1.get
      obtain ⟨k1, k2, k3, k4⟩ := hv2.get
      have cX := topterm_any A B l x sc c wr hlr g4
      obtain ⟨X, hX⟩ : ∃ X : Bool, X = decide (termErr l x = 0 ∧ x.length ≤ 512) := ⟨_, rfl⟩
      obtain ⟨Y, hY⟩ : ∃ Y : Bool, Y = decide (termErr l y = 0 ∧ y.length ≤ 512) := ⟨_, rfl⟩
      rw [← hX] at cX
      have CX := Lib.hid cX
      have HX := Lib.hid hX
      have HY := Lib.hid hY
      have HV1 := Lib.hid hv1
      have HV2 := Lib.hid hv2
      clear hq hqm g2 g4 k2 k4 cX hX hY hv1 hv2
      go_wp2_with fail
      refine CX.out.mono ?_
      rintro e w2 ⟨rfl, hb2⟩
      have hc1' := cell_kept hb2 hc1
      have hc2' := cell_kept hb2 hc2
      have cY := topterm_any A C l y sc d w2 (hlr.kept hb2) (HV2.out.kept hb2).get.2.2.2
      rw [← HY.out] at cY
      have CY := Lib.hid cY
      have HB2 := Lib.hid (below_then hB hB.size hb2)
      have HBW2 := Lib.hid hb2
      clear cY hb2 hc1 hc2 CX
      go_wp2_with fail
      refine CY.out.mono ?_
      rintro e w3 ⟨rfl, hb3⟩
      have hc1 := cell_kept hb3 hc1'
      have hc2 := cell_kept hb3 hc2'
      have hb4 := below_then HBW2.out HBW2.out.size hb3
      have HB3 := Lib.hid (below_then HB2.out HB2.out.size hb3)
      have HBW3 := Lib.hid hb4
      clear hb3 hb4 hc1' hc2' CY
      by_cases hok : (X = true ∧ Y = true) ∧ (x.length ≤ 60 ∧ y.length ≤ 60)
      · obtain ⟨⟨rfl, rfl⟩, h60, h61⟩ := hok
        have hx0 := of_decide_eq_true HX.out.symm
        have hy0 := of_decide_eq_true HY.out.symm
        have x0s := cell_kept HBW3.out x0r
        have x1s := cell_kept HBW3.out x1r
        have cA := fun W h1 h2 h3 h4 => alike_any M LA lins lc hM A l sc B C x y c d W (by omega) (by omega) g1 k1 hx0.1 hy0.1 h1 h2 h3 h4
        have CA := Lib.hid cA
        have HX0 := Lib.hid hx0.1
        have HY0 := Lib.hid hy0.1
        have hL3 := hLr.kept HBW3.out
        have hl3 := hlr.kept HBW3.out
        have hx3 := (HV1.out.kept HBW3.out).get.2.2.2
        have hy3 := (HV2.out.kept HBW3.out).get.2.2.2
        clear cA hx0 hy0 x0r x1r hLr hlr her
        go_wp2_with fail
        go_region_held_law (fun w' => w'.cell? ⟨a3, 0, none⟩ = some (.int .i64 M) ∧ w'.cell? ⟨a3, 1, none⟩ = some (.slice LA lins.length lc) ∧ w'.cell? ⟨qb, qo + k * 2, none⟩ = some (.slice B x.length c) ∧ w'.cell? ⟨qb, qo + k * 2 + 1, none⟩ = some (.slice C y.length d)) (go_keep) (
          (go_at_call 9
           (with_reducible refine (CA.out _ (hL3.kept (below_draw (Below.refl _ _))) (hl3.kept (below_draw (Below.refl _ _))) (hx3.kept (below_draw (Below.refl _ _))) (hy3.kept (below_draw (Below.refl _ _)))).mono ?_)
           rintro e w4 ⟨⟨r, rfl, hr⟩, hb2⟩
           have hb3 : Below w3.heap.size w3 w4 := below_then (below_draw (Below.refl _ _)) (Nat.le_refl _) hb2
           have HB4 := Lib.hid (below_then HB3.out HB3.out.size hb3)
           have x0t := cell_kept hb3 x0s
           have x1t := cell_kept hb3 x1s
           have hc1' := cell_kept hb3 hc1
           have hc2' := cell_kept hb3 hc2
           have HR := Lib.hid hr
           clear hr hb2 hb3))
        cases r with
        | true =>
          have hqok : EqOk l M lins (x, y) := ⟨HX0.out, HY0.out, h60, h61, HR.out.1 rfl⟩
          have HQOK := Lib.hid hqok
          clear hqok HR
          go_wp2_with fail
          go_roundg (eqs.length - (k + 1))
          case measure => have := hg.out; omega
          case rel =>
            refine ⟨k + 1, by have := hg.out; show _ = _; omega, by go_num, HB4.out, fun q hq => ?_⟩
            rw [take_succ' eqs rl0 hlt, HQ.out] at hq
            rcases List.mem_append.1 hq with h | h
            · exact HE.out q h
            · simp at h
              subst h
              exact HQOK.out
        | false =>
          have hno : ModelRes l M lins eqs (.returned (.bool false)) := ModelRes.no HQM.out fun h => by have := HR.out.2 h.2.2.2.2; cases this
          have HNO := Lib.hid hno
          clear hno HR
          go_wp2_with fail
          go_ret
          exact ⟨HNO.out, below_then HB0.out HB0.out.size HB4.out⟩
      · have hno : ModelRes l M lins eqs (.returned (.bool false)) := ModelRes.no HQM.out fun h => by
          apply hok
          refine ⟨⟨?_, ?_⟩, h.2.2.1, h.2.2.2.1⟩
          · rw [HX.out]; exact decide_eq_true ⟨h.1, by have := h.2.2.1; simp at this; omega⟩
          · rw [HY.out]; exact decide_eq_true ⟨h.2.1, by have := h.2.2.2.1; simp at this; omega⟩
        have HNO := Lib.hid hno
        clear hno
        have HBA := Lib.hid (below_then HB0.out HB0.out.size HB3.out)
        cases X with
        | false =>
          clear hok
          go_wp2_with fail
          go_ret
          exact ⟨HNO.out, HBA.out⟩
        | true => cases Y with
          | false =>
            clear hok
            go_wp2_with fail
            go_ret
            exact ⟨HNO.out, HBA.out⟩
          | true =>
            by_cases h60 : x.length ≤ 60
            · have h61 : 60 < y.length := by
                rcases Nat.lt_or_ge 60 y.length with h | h
                · exact h
                · exact absurd ⟨⟨rfl, rfl⟩, h60, h⟩ hok
              clear hok
              go_wp2_with fail
              go_ret
              exact ⟨HNO.out, HBA.out⟩
            · have h61 : 60 < x.length := by omega
              clear hok
              go_wp2_with fail
              go_ret
              exact ⟨HNO.out, HBA.out⟩
    · have hke : k = eqs.length := by omega
      subst hke
      have hyes : ModelRes l M lins eqs (.returned (.bool true)) := ⟨true, rfl, fun _ q hq => HE.out q (by rw [List.take_length]; exact hq), fun _ => rfl⟩
      have HYES := Lib.hid hyes
      clear hyes
      go_wp2_with fail
      go_ret
      exact ⟨HYES.out, HBr.out⟩
end Go.Proofs.YtfelhlffiiephaaDoor
namespace Go.Proofs.YtfelhlffiiephaaDoor
open Go.RowKit Go.Lib

def addsL : List Sy := [(⟨#[122, 101, 114, 111]⟩, 0), (⟨#[115]⟩, 1), (⟨#[112, 108, 117, 115]⟩, 2)]
def addsR : List Rl := [([2, 0, -2], [-2]), ([2, 1, -1, -2], [1, 2, -1, -2])]
theorem Rules.two {w : World} {b : Nat} {x y x' y' : List Int} {u v u' v' : Value} (h0 : w.cell? ⟨b, 0, none⟩ = some u) (h1 : w.cell? ⟨b, 1, none⟩ = some v) (h2 : w.cell? ⟨b, 2, none⟩ = some u') (h3 : w.cell? ⟨b, 3, none⟩ = some v') (hu : RowV w u x) (hv : RowV w v y) (hu' : RowV w u' x') (hv' : RowV w v' y') :
    Rules w (some ⟨b, 0, none⟩) [(x, y), (x', y')] := by
  refine ⟨by simp, fun _ => ⟨b, 0, rfl, fun k hk => ?_⟩⟩
  have hk' : k < 2 := hk
  match k, hk' with
  | 0, _ => exact ⟨u, v, h0, hu, h1, hv⟩
  | 1, _ => exact ⟨u', v', h2, hu', h3, hv'⟩
theorem row_lit {V : World} {t : List Int} {b n : Nat} (hn : n = t.length) (ht : small t) (hc : ∀ k, k < t.length → V.cell? ⟨b, k, none⟩ = some (.int .i64 (t.getD k 0))) : RowV V (.slice (some ⟨b, 0, none⟩) n n) t := by
  subst hn
  exact ⟨_, _, rfl, Nat.le_refl _, (fun h => by cases h), ht.1, ht.2, by have := ht.1; omega, fun h0 => ⟨b, 0, rfl, fun k hk => by rw [Nat.zero_add]; exact hc k hk⟩⟩
theorem row_lit1 {V : World} {a : Int} {b : Nat} (ht : small [a]) (h0 : V.cell? ⟨b, 0, none⟩ = some (.int .i64 a)) : RowV V (.slice (some ⟨b, 0, none⟩) 1 1) [a] :=
  row_lit rfl ht fun k hk => by
    have hk' : k < 1 := hk
    match k, hk' with
    | 0, _ => exact h0
theorem row_lit2 {V : World} {a c : Int} {b : Nat} (ht : small [a, c]) (h0 : V.cell? ⟨b, 0, none⟩ = some (.int .i64 a)) (h1 : V.cell? ⟨b, 1, none⟩ = some (.int .i64 c)) : RowV V (.slice (some ⟨b, 0, none⟩) 2 2) [a, c] :=
  row_lit rfl ht fun k hk => by
    have hk' : k < 2 := hk
    match k, hk' with
    | 0, _ => exact h0
    | 1, _ => exact h1
theorem row_lit3 {V : World} {a c d : Int} {b : Nat} (ht : small [a, c, d]) (h0 : V.cell? ⟨b, 0, none⟩ = some (.int .i64 a)) (h1 : V.cell? ⟨b, 1, none⟩ = some (.int .i64 c)) (h2 : V.cell? ⟨b, 2, none⟩ = some (.int .i64 d)) : RowV V (.slice (some ⟨b, 0, none⟩) 3 3) [a, c, d] :=
  row_lit rfl ht fun k hk => by
    have hk' : k < 3 := hk
    match k, hk' with
    | 0, _ => exact h0
    | 1, _ => exact h1
    | 2, _ => exact h2
theorem row_lit4 {V : World} {a c d e : Int} {b : Nat} (ht : small [a, c, d, e]) (h0 : V.cell? ⟨b, 0, none⟩ = some (.int .i64 a)) (h1 : V.cell? ⟨b, 1, none⟩ = some (.int .i64 c)) (h2 : V.cell? ⟨b, 2, none⟩ = some (.int .i64 d)) (h3 : V.cell? ⟨b, 3, none⟩ = some (.int .i64 e)) : RowV V (.slice (some ⟨b, 0, none⟩) 4 4) [a, c, d, e] :=
  row_lit rfl ht fun k hk => by
    have hk' : k < 4 := hk
    match k, hk' with
    | 0, _ => exact h0
    | 1, _ => exact h1
    | 2, _ => exact h2
    | 3, _ => exact h3
theorem sigs_lit {V : World} {b : Nat} {x y z : ByteArray} {i j k : Int} (hs : ∀ q ∈ [(x, i), (y, j), (z, k)], q.1.size ≤ 9223372036854775807) (h0 : V.cell? ⟨b, 0, none⟩ = some (.string x)) (h1 : V.cell? ⟨b, 1, none⟩ = some (.int .i64 i)) (h2 : V.cell? ⟨b, 2, none⟩ = some (.string y)) (h3 : V.cell? ⟨b, 3, none⟩ = some (.int .i64 j)) (h4 : V.cell? ⟨b, 4, none⟩ = some (.string z)) (h5 : V.cell? ⟨b, 5, none⟩ = some (.int .i64 k)) :
    Sigs V (some ⟨b, 0, none⟩) [(x, i), (y, j), (z, k)] := by
  refine ⟨?_, by simp, fun _ => ⟨b, 0, rfl, fun m hm => ?_⟩⟩
  · exact hs
  · have hm' : m < 3 := hm
    match m, hm' with
    | 0, _ => exact ⟨h0, h1⟩
    | 1, _ => exact ⟨h2, h3⟩
    | 2, _ => exact ⟨h4, h5⟩
set_option maxRecDepth 100000 in
set_option maxHeartbeats 4000000 in
theorem adds_any (w : World) : Calls Tryd.prog 4 #[] w fun e w' => ∃ sb rb v, e = .returned (.tuple #[.agg #[.slice (some ⟨sb, 0, none⟩) 3 3, .slice (some ⟨rb, 0, none⟩) 2 2], v]) ∧ Below w.heap.size w w' ∧ Sigs w' (some ⟨sb, 0, none⟩) addsL ∧ Rules w' (some ⟨rb, 0, none⟩) addsR := by
  go_enter Tryd.func4, Tryd.ntmps4
  go_wp2_with fail
  obtain ⟨V, hV⟩ : ∃ V, V = (((((((((w.alloc (.cells #[.slice (some ⟨w.heap.size + 1, 0, none⟩) 3 3, .slice (some ⟨w.heap.size + 1 + 1 + 1 + 1 + 1 + 1, 0, none⟩) 2 2] 31)).alloc (.cells #[.string ⟨#[122, 101, 114, 111]⟩, .int .i64 0, .string ⟨#[115]⟩, .int .i64 1, .string ⟨#[112, 108, 117, 115]⟩, .int .i64 2] 53)).alloc
    (.cells #[.int .i64 2, .int .i64 0, .int .i64 (-2)] 3)).alloc (.cells #[.int .i64 (-2)] 3)).alloc (.cells #[.int .i64 2, .int .i64 1, .int .i64 (-1), .int .i64 (-2)] 3)).alloc (.cells #[.int .i64 1, .int .i64 2, .int .i64 (-1), .int .i64 (-2)] 3)).alloc
    (.cells #[.slice (some ⟨w.heap.size + 1 + 1, 0, none⟩) 3 3, .slice (some ⟨w.heap.size + 1 + 1 + 1, 0, none⟩) 1 1, .slice (some ⟨w.heap.size + 1 + 1 + 1 + 1, 0, none⟩) 4 4, .slice (some ⟨w.heap.size + 1 + 1 + 1 + 1 + 1, 0, none⟩) 4 4] 55)).alloc
    (.cells #[.slice (some ⟨w.heap.size + 1, 0, none⟩) 3 3, .slice (some ⟨w.heap.size + 1 + 1 + 1 + 1 + 1 + 1, 0, none⟩) 2 2] 31)).alloc (.cells #[.int .i64 2, .int .i64 1] 56)).alloc
    (.cells #[.int .i64 1, .slice (some ⟨w.heap.size + 1 + 1 + 1 + 1 + 1 + 1 + 1 + 1, 0, none⟩) 1 1, .slice none 0 0, .int .i64 0] 60) := ⟨_, rfl⟩
  rw [← hV]
  have hb : Below w.heap.size w V := by
    rw [hV]
    have b0 := Below.refl w.heap.size w
    repeat (first | exact b0 | refine below_alloc ?_ (by first | (simp; done) | (simp; omega)) _)
  have c0 : V.cell? ⟨w.heap.size, 0, none⟩ = some (.slice (some ⟨w.heap.size + 1, 0, none⟩) 3 3) := by rw [hV]; go_simp
  have c1 : V.cell? ⟨w.heap.size, 1, none⟩ = some (.slice (some ⟨w.heap.size + 1 + 1 + 1 + 1 + 1 + 1, 0, none⟩) 2 2) := by rw [hV]; go_simp
  have hs : Sigs V (some ⟨w.heap.size + 1, 0, none⟩) addsL := sigs_lit (by decide) (by rw [hV]; go_simp) (by rw [hV]; go_simp) (by rw [hV]; go_simp) (by rw [hV]; go_simp) (by rw [hV]; go_simp) (by rw [hV]; go_simp)
  have r1 : RowV V (.slice (some ⟨w.heap.size + 1 + 1, 0, none⟩) 3 3) [2, 0, -2] := row_lit3 (by decide) (by rw [hV]; go_simp) (by rw [hV]; go_simp) (by rw [hV]; go_simp)
  have r2 : RowV V (.slice (some ⟨w.heap.size + 1 + 1 + 1, 0, none⟩) 1 1) [-2] := row_lit1 (by decide) (by rw [hV]; go_simp)
  have r3 : RowV V (.slice (some ⟨w.heap.size + 1 + 1 + 1 + 1, 0, none⟩) 4 4) [2, 1, -1, -2] := row_lit4 (by decide) (by rw [hV]; go_simp) (by rw [hV]; go_simp) (by rw [hV]; go_simp) (by rw [hV]; go_simp)
  have r4 : RowV V (.slice (some ⟨w.heap.size + 1 + 1 + 1 + 1 + 1, 0, none⟩) 4 4) [1, 2, -1, -2] := row_lit4 (by decide) (by rw [hV]; go_simp) (by rw [hV]; go_simp) (by rw [hV]; go_simp) (by rw [hV]; go_simp)
  have hr : Rules V (some ⟨w.heap.size + 1 + 1 + 1 + 1 + 1 + 1, 0, none⟩) addsR := Rules.two (by rw [hV]; go_simp) (by rw [hV]; go_simp) (by rw [hV]; go_simp) (by rw [hV]; go_simp) r1 r2 r3 r4
  clear hV r1 r2 r3 r4
  refine bodyPost_ret (v := .tuple #[.agg #[.slice (some ⟨w.heap.size + 1, 0, none⟩) 3 3, .slice (some ⟨w.heap.size + 1 + 1 + 1 + 1 + 1 + 1, 0, none⟩) 2 2], .slice (some ⟨w.heap.size + 1 + 1 + 1 + 1 + 1 + 1 + 1 + 1 + 1, 0, none⟩) 1 1]) (by simp [results, Tryd.results4, go_sem, c0, c1]; try rfl) rfl ?_
  exact ⟨_, _, _, rfl, hb, hs, hr⟩
theorem ex_fine : checkErr addsL addsR [⟨[2, 0, 0], [0], [⟨0, false, 0, [(1, [0])]⟩]⟩] = 0 := by kernel_rfl
theorem ex_bad : checkErr addsL addsR [⟨[0], [1, 0], []⟩] = 192 := by kernel_rfl
end Go.Proofs.YtfelhlffiiephaaDoor
namespace Go.Proofs.YtfelhlffiiephaaDoor
open Go.RowKit Go.Lib

theorem binds_one {V : World} {b : Nat} {x : Int} {t : List Int} {u : Value} (hx : -9223372036854775808 ≤ x ∧ x ≤ 9223372036854775807) (h0 : V.cell? ⟨b, 0, none⟩ = some (.int .i64 x)) (h1 : V.cell? ⟨b, 1, none⟩ = some u) (hu : RowV V u t) : Binds V (some ⟨b, 0, none⟩) [(x, t)] := by
  refine ⟨by simp, fun _ => ⟨b, 0, rfl, fun k hk => ?_⟩⟩
  have hk' : k < 1 := hk
  match k, hk' with
  | 0, _ => exact ⟨h0, hx, u, h1, hu⟩
theorem steps_one {V : World} {b : Nat} {x : Stp} {B : Option Addr} {c : Nat} (he : -9223372036854775808 ≤ x.eq ∧ x.eq ≤ 9223372036854775807) (ha : -9223372036854775808 ≤ x.at_ ∧ x.at_ ≤ 9223372036854775807) (h0 : V.cell? ⟨b, 0, none⟩ = some (.int .i64 x.eq)) (h1 : V.cell? ⟨b, 1, none⟩ = some (.bool x.back)) (h2 : V.cell? ⟨b, 2, none⟩ = some (.int .i64 x.at_)) (h3 : V.cell? ⟨b, 3, none⟩ = some (.slice B x.binds.length c)) (hB : Binds V B x.binds) :
    Steps V (some ⟨b, 0, none⟩) [x] := by
  refine ⟨by simp, fun _ => ⟨b, 0, rfl, fun k hk => ?_⟩⟩
  have hk' : k < 1 := hk
  match k, hk' with
  | 0, _ => exact ⟨he, ha, h0, h1, h2, B, c, h3, hB⟩
theorem lemmas_one {V : World} {b : Nat} {x : Lem} {u v : Value} {B : Option Addr} {c : Nat} (h0 : V.cell? ⟨b, 0, none⟩ = some u) (h1 : V.cell? ⟨b, 1, none⟩ = some v) (h2 : V.cell? ⟨b, 2, none⟩ = some (.slice B x.steps.length c)) (hu : RowV V u x.L) (hv : RowV V v x.R) (hB : Steps V B x.steps) :
    Lemmas V (some ⟨b, 0, none⟩) [x] := by
  refine ⟨by simp, fun _ => ⟨b, 0, rfl, fun k hk => ?_⟩⟩
  have hk' : k < 1 := hk
  match k, hk' with
  | 0, _ => exact ⟨u, v, B, c, h0, hu, h1, hv, h2, hB⟩
theorem steps_nil (V : World) : Steps V none [] := ⟨by simp, fun h => by simp at h⟩
set_option maxRecDepth 100000 in
theorem ex_one (w1 V : World) (sb rb : Nat) (hT : Tabs w1) (hS : Sigs w1 (some ⟨sb, 0, none⟩) addsL) (hR : Rules w1 (some ⟨rb, 0, none⟩) addsR)
    (hV : V = ((((((w1.alloc (.cells #[.slice (some ⟨sb, 0, none⟩) 3 3, .slice (some ⟨rb, 0, none⟩) 2 2] 31)).alloc (.cells #[.int .i64 2, .int .i64 0, .int .i64 0] 3)).alloc (.cells #[.int .i64 0] 3)).alloc (.cells #[.int .i64 0] 3)).alloc
      (.cells #[.int .i64 1, .slice (some ⟨w1.heap.size + 1 + 1 + 1, 0, none⟩) 1 1] 40)).alloc (.cells #[.int .i64 0, .bool false, .int .i64 0, .slice (some ⟨w1.heap.size + 1 + 1 + 1 + 1, 0, none⟩) 1 1] 43)).alloc
      (.cells #[.slice (some ⟨w1.heap.size + 1, 0, none⟩) 3 3, .slice (some ⟨w1.heap.size + 1 + 1, 0, none⟩) 1 1, .slice (some ⟨w1.heap.size + 1 + 1 + 1 + 1 + 1, 0, none⟩) 1 1] 46)) :
    Calls Tryd.prog 5 #[.slice (some ⟨sb, 0, none⟩) 3 3, .slice (some ⟨rb, 0, none⟩) 2 2, .slice (some ⟨w1.heap.size + 1 + 1 + 1 + 1 + 1 + 1, 0, none⟩) 1 1] V fun e w' => ∃ v, e = .returned (.tuple #[.int .i64 0, v]) ∧ Below w1.heap.size w1 w' ∧ w'.cell? ⟨w1.heap.size, 0, none⟩ = some (.slice (some ⟨sb, 0, none⟩) 3 3) ∧ w'.cell? ⟨w1.heap.size, 1, none⟩ = some (.slice (some ⟨rb, 0, none⟩) 2 2) ∧ w1.heap.size + 1 ≤ w'.heap.size := by
  have hb : Below w1.heap.size w1 V := by
    rw [hV]
    have b0 := Below.refl w1.heap.size w1
    repeat (first | exact b0 | refine below_alloc ?_ (by first | (simp; done) | (simp; omega)) _)
  have hsz : w1.heap.size + 1 ≤ V.heap.size := by rw [hV]; simp
  have c0 : V.cell? ⟨w1.heap.size, 0, none⟩ = some (.slice (some ⟨sb, 0, none⟩) 3 3) := by rw [hV]; go_simp
  have c1 : V.cell? ⟨w1.heap.size, 1, none⟩ = some (.slice (some ⟨rb, 0, none⟩) 2 2) := by rw [hV]; go_simp
  have r1 : RowV V (.slice (some ⟨w1.heap.size + 1, 0, none⟩) 3 3) [2, 0, 0] := row_lit3 (by decide) (by rw [hV]; go_simp) (by rw [hV]; go_simp) (by rw [hV]; go_simp)
  have r2 : RowV V (.slice (some ⟨w1.heap.size + 1 + 1, 0, none⟩) 1 1) [0] := row_lit1 (by decide) (by rw [hV]; go_simp)
  have r3 : RowV V (.slice (some ⟨w1.heap.size + 1 + 1 + 1, 0, none⟩) 1 1) [0] := row_lit1 (by decide) (by rw [hV]; go_simp)
  have hB : Binds V (some ⟨w1.heap.size + 1 + 1 + 1 + 1, 0, none⟩) [(1, [0])] := binds_one (by decide) (by rw [hV]; go_simp) (by rw [hV]; go_simp) r3
  have hSt : Steps V (some ⟨w1.heap.size + 1 + 1 + 1 + 1 + 1, 0, none⟩) [⟨0, false, 0, [(1, [0])]⟩] := steps_one (c := 1) (by decide) (by decide) (by rw [hV]; go_simp) (by rw [hV]; go_simp) (by rw [hV]; go_simp) (by rw [hV]; go_simp) hB
  have hL : Lemmas V (some ⟨w1.heap.size + 1 + 1 + 1 + 1 + 1 + 1, 0, none⟩) [⟨[2, 0, 0], [0], [⟨0, false, 0, [(1, [0])]⟩]⟩] := lemmas_one (c := 1) (by rw [hV]; go_simp) (by rw [hV]; go_simp) (by rw [hV]; go_simp) r1 r2 hSt
  have h := proof_check_any (some ⟨sb, 0, none⟩) addsL 3 (by decide) (some ⟨rb, 0, none⟩) addsR 2 (by decide) (fun h => by cases h) (some ⟨w1.heap.size + 1 + 1 + 1 + 1 + 1 + 1, 0, none⟩) [⟨[2, 0, 0], [0], [⟨0, false, 0, [(1, [0])]⟩]⟩] 1 V (hT.kept hb) (hS.kept hb) (hR.kept hb) hL (by decide)
  refine h.mono ?_
  rintro e w' ⟨v, rfl, hb2⟩
  rw [ex_fine]
  exact ⟨v, rfl, below_then hb hb.size hb2, cell_kept hb2 c0, cell_kept hb2 c1, Nat.le_trans hsz hb2.size⟩
set_option maxRecDepth 100000 in
theorem ex_two (w1 V : World) (sb rb : Nat) (hT : Tabs w1) (hS : Sigs w1 (some ⟨sb, 0, none⟩) addsL) (hR : Rules w1 (some ⟨rb, 0, none⟩) addsR)
    (hV : V = ((w1.alloc (.cells #[.int .i64 0] 3)).alloc (.cells #[.int .i64 1, .int .i64 0] 3)).alloc (.cells #[.slice (some ⟨w1.heap.size, 0, none⟩) 1 1, .slice (some ⟨w1.heap.size + 1, 0, none⟩) 2 2, .slice none 0 0] 46)) :
    Calls Tryd.prog 5 #[.slice (some ⟨sb, 0, none⟩) 3 3, .slice (some ⟨rb, 0, none⟩) 2 2, .slice (some ⟨w1.heap.size + 1 + 1, 0, none⟩) 1 1] V fun e w' => ∃ v, e = .returned (.tuple #[.int .i64 192, v]) ∧ Below w1.heap.size w1 w' := by
  have hb : Below w1.heap.size w1 V := by
    rw [hV]
    have b0 := Below.refl w1.heap.size w1
    repeat (first | exact b0 | refine below_alloc ?_ (by first | (simp; done) | (simp; omega)) _)
  have r1 : RowV V (.slice (some ⟨w1.heap.size, 0, none⟩) 1 1) [0] := row_lit1 (by decide) (by rw [hV]; go_simp)
  have r2 : RowV V (.slice (some ⟨w1.heap.size + 1, 0, none⟩) 2 2) [1, 0] := row_lit2 (by decide) (by rw [hV]; go_simp) (by rw [hV]; go_simp)
  have hL : Lemmas V (some ⟨w1.heap.size + 1 + 1, 0, none⟩) [⟨[0], [1, 0], []⟩] := lemmas_one (c := 0) (B := none) (by rw [hV]; go_simp) (by rw [hV]; go_simp) (by rw [hV]; go_simp) r1 r2 (steps_nil V)
  have h := proof_check_any (some ⟨sb, 0, none⟩) addsL 3 (by decide) (some ⟨rb, 0, none⟩) addsR 2 (by decide) (fun h => by cases h) (some ⟨w1.heap.size + 1 + 1, 0, none⟩) [⟨[0], [1, 0], []⟩] 1 V (hT.kept hb) (hS.kept hb) (hR.kept hb) hL (by decide)
  refine h.mono ?_
  rintro e w' ⟨v, rfl, hb2⟩
  rw [ex_bad]
  exact ⟨v, rfl, below_then hb hb.size hb2⟩
set_option maxRecDepth 100000 in
set_option maxHeartbeats 8000000 in
theorem topModels_walk (SA : Option Addr) (l : List Sy) (sc : Nat) (EA : Option Addr) (eqs : List Rl) (ec : Nat) (M : Int) (LA : Option Addr) (lins : List (List Int)) (lc : Nat) (PA : Option Addr) (ls : List Lem) (pc : Nat) (w : World) (hT : Tabs w) (hcap : l.length ≤ sc) (hl : Sigs w SA l)
    (hec : eqs.length ≤ ec) (hen : EA = none → eqs.length = 0 ∧ ec = 0) (he : Rules w EA eqs) (hM : -9223372036854775808 ≤ M ∧ M ≤ 9223372036854775807) (hL : RowsIn w LA lins) (hP : Lemmas w PA ls) (h48 : (eqs.length + ls.length) * 48 ≤ 140737488355328) :
    Calls Tryd.prog 3 #[.slice SA l.length sc, .agg #[.slice EA eqs.length ec, .int .i64 M, .slice LA lins.length lc], .slice PA ls.length pc] w fun e w' => e = .returned (.bool true) ∧ Below w.heap.size w w' := by
  obtain ⟨w0, hw0⟩ : ∃ x, x = w.alloc (.cells #[.slice EA eqs.length ec, .int .i64 M, .slice LA lins.length lc] 28) := ⟨_, rfl⟩
  obtain ⟨a4, ha4⟩ : ∃ x, x = w.heap.size := ⟨_, rfl⟩
  have hb0 : Below w.heap.size w w0 := by rw [hw0]; exact below_alloc0 w _
  have x0 : w0.cell? ⟨a4, 0, none⟩ = some (.slice EA eqs.length ec) := by rw [hw0, ha4]; exact World.cell?_alloc_new _ _ _ 0
  have x1 : w0.cell? ⟨a4, 1, none⟩ = some (.int .i64 M) := by rw [hw0, ha4]; exact World.cell?_alloc_new _ _ _ 1
  have x2 : w0.cell? ⟨a4, 2, none⟩ = some (.slice LA lins.length lc) := by rw [hw0, ha4]; exact World.cell?_alloc_new _ _ _ 2
  have hT0 := hT.kept hb0
  have hl0 := hl.kept hb0
  have he0 := he.kept hb0
  have hL0 := hL.kept hb0
  have hP0 := hP.kept hb0
  have HB0 := Lib.hid hb0
  have HEN := Lib.hid hen
  have hpl := hP.1
  have hel := he.1
  clear hT hl he hL hP hb0 hen
  go_enter Tryd.func3, Tryd.ntmps3
  go_wp2_with fail
  rw [← hw0, ← ha4]
  clear hw0 ha4
  refine (adds_any w0).mono ?_
  rintro e w1 ⟨sb, rb, v, rfl, hb1, hS1, hR1⟩
  have x0b := cell_kept hb1 x0
  have x1b := cell_kept hb1 x1
  have x2b := cell_kept hb1 x2
  have hT1 := hT0.kept hb1
  have hl1 := hl0.kept hb1
  have he1 := he0.kept hb1
  have hL1 := hL0.kept hb1
  have hP1 := hP0.kept hb1
  have HB1 := Lib.hid (below_then HB0.out HB0.out.size hb1)
  clear hb1 x0 x1 x2 hT0 hl0 he0 hL0 hP0 HB0
  go_wp2_with fail
  refine (ex_one w1 _ sb rb hT1 hS1 hR1 rfl).mono ?_
  rintro e w2 ⟨v2, rfl, hb2, c0, c1, hsz⟩
  obtain ⟨a7, ha7⟩ : ∃ x, x = w1.heap.size := ⟨_, rfl⟩
  rw [← ha7] at c0 c1 hsz
  rw [← ha7]
  have x0c := cell_kept hb2 x0b
  have x1c := cell_kept hb2 x1b
  have x2c := cell_kept hb2 x2b
  have hT2 := hT1.kept hb2
  have hl2 := hl1.kept hb2
  have he2 := he1.kept hb2
  have hL2 := hL1.kept hb2
  have hP2 := hP1.kept hb2
  have hS2 := hS1.kept hb2
  have hR2 := hR1.kept hb2
  have HB2 := Lib.hid (below_then HB1.out HB1.out.size hb2)
  clear ha7 hb2 x0b x1b x2b hT1 hl1 he1 hL1 hP1 hS1 hR1 HB1
  go_wp2_with fail
  refine (ex_two w2 _ sb rb hT2 hS2 hR2 rfl).mono ?_
  rintro e w3 ⟨v3, rfl, hb3⟩
  have x0d := cell_kept hb3 x0c
  have x1d := cell_kept hb3 x1c
  have x2d := cell_kept hb3 x2c
  have hT3 := hT2.kept hb3
  have hl3 := hl2.kept hb3
  have he3 := he2.kept hb3
  have hL3 := hL2.kept hb3
  have hP3 := hP2.kept hb3
  have HB3 := Lib.hid (below_then HB2.out HB2.out.size hb3)
  clear hb3 x0c x1c x2c hT2 hl2 he2 hL2 hP2 hS2 hR2 HB2 c0 c1 hsz
  have cS := refsig_any SA l l.length sc rfl w3 hl3
  by_cases hs : sigErr l = 0
  · rw [hs] at cS
    have CS := Lib.hid cS
    clear hs cS
    go_wp2_with fail
    refine CS.out.mono ?_
    rintro e w4 ⟨rfl, hb4⟩
    have x0e := cell_kept hb4 x0d
    have x1e := cell_kept hb4 x1d
    have x2e := cell_kept hb4 x2d
    have hT4 := hT3.kept hb4
    have hl4 := hl3.kept hb4
    have he4 := he3.kept hb4
    have hL4 := hL3.kept hb4
    have hP4 := hP3.kept hb4
    have HB4 := Lib.hid (below_then HB3.out HB3.out.size hb4)
    clear hb4 x0d x1d x2d hT3 hl3 he3 hL3 hP3 HB3 CS
    go_wp2_with fail
    refine (model_any M LA lins lc hM SA l sc EA eqs ec w4 hL4 hl4 he4).mono ?_
    rintro e w5 ⟨⟨r, rfl, hr⟩, hb5⟩
    have x0f := cell_kept hb5 x0e
    have x1f := cell_kept hb5 x1e
    have x2f := cell_kept hb5 x2e
    have hT5 := hT4.kept hb5
    have hl5 := hl4.kept hb5
    have he5 := he4.kept hb5
    have hL5 := hL4.kept hb5
    have hP5 := hP4.kept hb5
    have HB5 := Lib.hid (below_then HB4.out HB4.out.size hb5)
    have HR := Lib.hid hr
    clear hb5 x0e x1e x2e hT4 hl4 he4 hL4 hP4 HB4 hr
    go_wp2_with fail
    refine (proof_check_any SA l sc hcap EA eqs ec hec HEN.out PA ls pc w5 hT5 hl5 he5 hP5 h48).mono ?_
    rintro e w6 ⟨v6, rfl, hb6⟩
    have x1g := cell_kept hb6 x1f
    have x2g := cell_kept hb6 x2f
    have hl6 := hl5.kept hb6
    have hL6 := hL5.kept hb6
    have hP6 := hP5.kept hb6
    have HB6 := Lib.hid (below_then HB5.out HB5.out.size hb6)
    clear hb6 x0f x1f x2f hT5 hl5 he5 hL5 hP5 HB5
    obtain ⟨g, hg⟩ : ∃ g, g = checkErr l eqs ls := ⟨_, rfl⟩
    rw [← hg]
    have HG := Lib.hid hg
    clear hg
    cases r with
    | false =>
      clear HR
      go_wp2_with fail
      go_ret
      exact ⟨rfl, HB6.out⟩
    | true =>
      by_cases hz : g = 0
      · have q1 : (g != 0) = false := by simp [hz]
        have hall := check_worth (m := modOf M) (F := facOf M lins) (fun q hq => (HR.out.1 rfl q hq).2.2.2.2) (by rw [← HG.out]; exact hz)
        have HALL := Lib.hid hall
        clear hz hall HR HG
        go_wp2_with fail
        go_loopg [17, 18, 19, 20] ls.length (fun gk v u18 u19 u20 wr => ∃ k : Nat, Aside (gk + k = ls.length) ∧ v = .int .i64 k ∧ Below w6.heap.size w6 wr)
        case atStart => exact ⟨0, (rfl : ls.length + 0 = _), rfl, Below.refl _ _⟩
        case round =>
          obtain ⟨k, hg, rfl, hB⟩ := hrel
          have hk : k ≤ ls.length := by have := hg.out; omega
          have HBr := Lib.hid (below_then HB6.out HB6.out.size hB)
          have x1r := cell_kept hB x1g
          have x2r := cell_kept hB x2g
          have hlr := hl6.kept hB
          have hLr := hL6.kept hB
          by_cases hlt : k < ls.length
          · obtain ⟨lb, lo, x, XA, xc, YA, yc, TA, tc, rfl, hx, h0, h1, h2, hx1, hx2, hx3⟩ := (hP6.kept hB).at_ hlt
            obtain ⟨⟨t1, t2⟩, ⟨u1, u2⟩, hwx⟩ := HALL.out x (getD_mem hlt hx)
            obtain ⟨g1, g2, g3, g4⟩ := hx1.get
            obtain ⟨k1, k2, k3, k4⟩ := hx2.get
            have cX := topterm_any SA XA l x.L sc xc wr hlr g4
            rw [decide_eq_true ⟨t1, t2⟩] at cX
            have CX := Lib.hid cX
            have T1 := Lib.hid t1
            have U1 := Lib.hid u1
            have G4 := Lib.hid g4
            have K4 := Lib.hid k4
            have HWX := Lib.hid hwx
            have HB0 := Lib.hid hB
            clear cX t1 u1 g2 g4 k2 k4 hwx hx hx1 hx2 hx3 h2
            go_wp2_with fail
            refine CX.out.mono ?_
            rintro e w7 ⟨rfl, hb7⟩
            have h0' := cell_kept hb7 h0
            have h1' := cell_kept hb7 h1
            have cY := topterm_any SA YA l x.R sc yc w7 (hlr.kept hb7) (K4.out.kept hb7)
            rw [decide_eq_true ⟨U1.out, u2⟩] at cY
            have CY := Lib.hid cY
            have HB7 := Lib.hid hb7
            clear cY hb7 h0 h1 CX
            go_wp2_with fail
            refine CY.out.mono ?_
            rintro e w8 ⟨rfl, hb8⟩
            have hbb := below_then HB7.out HB7.out.size hb8
            have h0 := cell_kept hb8 h0'
            have h1 := cell_kept hb8 h1'
            have x1s := cell_kept hbb x1r
            have x2s := cell_kept hbb x2r
            have HBB := Lib.hid hbb
            have HB8 := Lib.hid (below_then HB0.out HB0.out.size hbb)
            clear hb8 hbb h0' h1' CY x1r x2r hB HB7
            by_cases hbig : x.L.length ≤ 200 ∧ x.R.length ≤ 200
            · obtain ⟨b1, b2⟩ := hbig
              have hL8 := hLr.kept HBB.out
              have hl8 := hlr.kept HBB.out
              have hx8 := G4.out.kept HBB.out
              have hy8 := K4.out.kept HBB.out
              have cA := fun W h1 h2 h3 h4 => alike_any M LA lins lc hM SA l sc XA YA x.L x.R xc yc W (by omega) (by omega) g1 k1 T1.out U1.out h1 h2 h3 h4
              have CA := Lib.hid cA
              clear cA
              go_wp2_with fail
              go_region_held_law (fun w' => w'.cell? ⟨a4, 1, none⟩ = some (.int .i64 M) ∧ w'.cell? ⟨a4, 2, none⟩ = some (.slice LA lins.length lc) ∧ w'.cell? ⟨lb, lo + k * 3, none⟩ = some (.slice XA x.L.length xc) ∧ w'.cell? ⟨lb, lo + k * 3 + 1, none⟩ = some (.slice YA x.R.length yc)) (go_keep) (
                (go_at_call 9
                 (with_reducible refine (CA.out _ (hL8.kept (below_draw (Below.refl _ _))) (hl8.kept (below_draw (Below.refl _ _))) (hx8.kept (below_draw (Below.refl _ _))) (hy8.kept (below_draw (Below.refl _ _)))).mono ?_)
                 rintro e w9 ⟨⟨r, rfl, hr⟩, hb2⟩
                 have hb3 : Below w8.heap.size w8 w9 := below_then (below_draw (Below.refl _ _)) (Nat.le_refl _) hb2
                 have HB9 := Lib.hid (below_then HB8.out HB8.out.size hb3)
                 have x1t := cell_kept hb3 x1s
                 have x2t := cell_kept hb3 x2s
                 have h0' := cell_kept hb3 h0
                 have h1' := cell_kept hb3 h1
                 have HR := Lib.hid hr
                 clear hr hb2 hb3))
              obtain rfl : r = true := HR.out.2 HWX.out
              clear HR
              go_wp2_with fail
              go_roundg (ls.length - (k + 1))
              case measure => have := hg.out; omega
              case rel => exact ⟨k + 1, by have := hg.out; show _ = _; omega, by go_num, HB9.out⟩
            · rcases Nat.lt_or_ge 200 x.L.length with hbl | hbl
              · clear hbig
                go_wp2_with fail
                go_roundg (ls.length - (k + 1))
                case measure => have := hg.out; omega
                case rel => exact ⟨k + 1, by have := hg.out; show _ = _; omega, by go_num, HB8.out⟩
              · have hbr : 200 < x.R.length := by omega
                clear hbig
                go_wp2_with fail
                go_roundg (ls.length - (k + 1))
                case measure => have := hg.out; omega
                case rel => exact ⟨k + 1, by have := hg.out; show _ = _; omega, by go_num, HB8.out⟩
          · have hke : k = ls.length := by omega
            subst hke
            go_wp2_with fail
            go_ret
            exact ⟨rfl, HBr.out⟩
      · have q1 : (g != 0) = true := bne_iff_ne.2 hz
        clear hz HR HG
        go_wp2_with fail
        go_ret
        exact ⟨rfl, HB6.out⟩
  · have q1 : (sigErr l != 0) = true := bne_iff_ne.2 hs
    generalize sigErr l = r at cS q1
    have CS := Lib.hid cS
    clear hs cS
    go_wp2_with fail
    refine CS.out.mono ?_
    rintro e w4 ⟨rfl, hb4⟩
    go_wp2_with fail
    go_ret
    exact ⟨rfl, below_then HB3.out HB3.out.size hb4⟩
end Go.Proofs.YtfelhlffiiephaaDoor
