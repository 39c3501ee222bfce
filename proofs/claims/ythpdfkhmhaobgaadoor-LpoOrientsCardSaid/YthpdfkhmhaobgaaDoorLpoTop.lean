/- The path order of two terms, as the program tells it. Conditions: the precedence is an order. -/
import Derived.Test.YthpdfkhmhaobgaaDoorLpoLook
import Derived.Test.YthpdfkhmhaobgaaDoorLpoGrow
import Derived.Test.YthpdfkhmhaobgaaDoorTree
set_option linter.unusedVariables false
set_option linter.unusedSimpArgs false
set_option linter.unnecessarySimpa false
namespace Go.Proofs.YthpdfkhmhaobgaaDoor
open Go.RowKit Go.Lib

theorem asks_all (l : List Sy) (q : List (Int × Int)) (s t : List Int) (sb sf tb tf ob pb mb : Nat) (n : Int) (S : Nat → Prop) (hD : Sides l q s t sb sf tb tf mb S) : ∀ N, Asks l q s t sb sf tb tf ob pb mb n S N
  | 0 => fun i j e1 e2 fa fb va vb w P f size hm ha hb hs ht hT hR hP => by have := ha.sub.1; omega
  | N + 1 => greater_next l q s t sb sf tb tf ob pb mb n S N hD (look_any l q s t sb sf tb tf ob pb mb n S N hD (asks_all l q s t sb sf tb tf ob pb mb n S hD N))
/-- What the program answers. -/
noncomputable def lg (l : List Sy) (q : List (Int × Int)) (s t : List Int) : Bool := if termErr l s = 0 ∧ termErr l t = 0 ∧ s.length ≤ 512 ∧ t.length ≤ 512 then gB l q s t 0 0 else false
theorem makeT (w : World) : (Instr.makeMap 71 none).run Tryd.prog w = .ok (.map (some w.heap.size)) (w.alloc (.map #[] 0)) := by kernel_rfl
theorem top_asks (l : List Sy) (q : List (Int × Int)) (s t : List Int) (sb sf tb tf pb : Nat) (n : Int) (va vb : Value) (w w2 w3 w4 : World) (hcyc : ¬ Cyclic q) (h1 : termErr l s = 0) (h2 : termErr l t = 0) (h3 : s.length ≤ 512) (h4 : t.length ≤ 512) (hP : IsPrec w pb n q)
    (hs : Ints w (some ⟨sb, sf, none⟩) s) (ht : Ints w (some ⟨tb, tf, none⟩) t) (hsl : sb < w.heap.size) (htl : tb < w.heap.size) (b2 : Below w.heap.size w w2) (b3 : Below w2.heap.size w2 w3) (b4 : Below w3.heap.size w3 w4)
    (n1 : LNode w3 (From w2.heap.size) l s sb sf s.length va 0 s.length) (n2 : LNode w4 (From w3.heap.size) l t tb tf t.length vb 0 t.length) :
    Calls Tryd.prog 27 #[.pointer (some ⟨w4.heap.size + 1, 0, none⟩), va, vb] ((w4.alloc (.map #[] 0)).alloc (.cells #[.pointer (some ⟨pb, 0, none⟩), .map (some w4.heap.size)] 73)) fun e w' => e = .returned (.bool (gB l q s t 0 0)) ∧ Below w.heap.size w w' := by
  have s2 := b2.size
  have s3 := b3.size
  have s4 := b4.size
  have b03 := below_then b2 s2 b3
  have b04 := below_then b03 b03.size b4
  have bW := (below_alloc0 w4 (.map #[] 0)).alloc (by simp) (.cells #[.pointer (some ⟨pb, 0, none⟩), .map (some w4.heap.size)] 73)
  have b0W := below_then b04 b04.size bW
  obtain ⟨S, hSd⟩ : ∃ S : Nat → Prop, S = fun b => b < w4.heap.size := ⟨_, rfl⟩
  obtain ⟨W, hW⟩ : ∃ W, W = (w4.alloc (.map #[] 0)).alloc (.cells #[.pointer (some ⟨pb, 0, none⟩), .map (some w4.heap.size)] 73) := ⟨_, rfl⟩
  have hN1 : LNode W S l s sb sf s.length va 0 s.length := n1.keep ⟨by have := b4.size; have := bW.size; rw [hW]; omega, fun b _ hb => ⟨by rw [hSd]; show b < _; omega, by rw [hW, bW.block b (by omega), b4.block b hb]⟩⟩
  have hN2 : LNode W S l t tb tf t.length vb 0 t.length := n2.keep ⟨by have := bW.size; rw [hW]; omega, fun b _ hb => ⟨by rw [hSd]; exact hb, by rw [hW, bW.block b hb]⟩⟩
  have hpl : pb < w.heap.size := by obtain ⟨D, hp, _⟩ := hP; exact hp.lt
  have hT : Tab W (w4.heap.size + 1) pb w4.heap.size n q (fun _ => none) 0 := by
    refine ⟨?_, ?_, ?_, ?_, by have := free_le (fun _ => none); omega, by omega, by omega⟩
    · rw [hW]
      have := World.cell?_alloc_new (w4.alloc (.map #[] 0)) #[.pointer (some ⟨pb, 0, none⟩), .map (some w4.heap.size)] 73 0
      simpa using this
    · rw [hW]
      have := World.cell?_alloc_new (w4.alloc (.map #[] 0)) #[.pointer (some ⟨pb, 0, none⟩), .map (some w4.heap.size)] 73 1
      simpa using this
    · rw [hW]; exact hP.kept b0W
    · rw [hW]
      exact (MapP.made w4).below ((Below.refl _ _).alloc (Nat.le_refl _) _)
  have hD : Sides l q s t sb sf tb tf w4.heap.size S := ⟨h1, h2, hcyc, h3, h4, by rw [hSd]; exact Nat.lt_irrefl _, by omega, by omega⟩
  have hA := asks_all l q s t sb sf tb tf (w4.heap.size + 1) pb w4.heap.size n S hD (s.length + t.length) 0 0 _ _ _ _ va vb W (fun _ _ => True) _ 0 (by omega) hN1 hN2 (by rw [hW]; exact hs.kept b0W) (by rw [hW]; exact ht.kept b0W) hT (fun _ _ _ => .inl rfl) (fun _ _ _ _ _ => trivial)
  rw [← hW]
  refine hA.mono ?_
  rintro e w' ⟨rfl, hg, _⟩
  exact ⟨rfl, below_turned (by rw [hW]; exact b0W) (by rw [hW]; exact b0W.size) hg (fun k hk => by cases hk; omega)⟩
set_option maxRecDepth 100000 in
set_option maxHeartbeats 4000000 in
theorem lgreater_any (A B C : Option Addr) (l : List Sy) (q : List (Int × Int)) (s t : List Int) (pb : Nat) (n : Int) (lc sc tc : Nat) (hlc : l.length ≤ lc) (hsc : s.length ≤ sc) (htc : t.length ≤ tc) (w : World) (hcyc : ¬ Cyclic q) (hl : Sigs w A l) (hs : Ints w B s) (ht : Ints w C t) (hT : Tabs w) (hP : IsPrec w pb n q) :
    Calls Tryd.prog 12 #[.slice A l.length lc, .pointer (some ⟨pb, 0, none⟩), .slice B s.length sc, .slice C t.length tc] w fun e w' => e = .returned (.bool (lg l q s t)) ∧ Below w.heap.size w w' := by
  have m1 := hs.2.1
  have m2 := ht.2.1
  have cS := check_any A B l s l.length lc s.length sc rfl rfl hlc w hl hs hT
  have cT := fun (w1 : World) (hb : Below w.heap.size w w1) => check_any A C l t l.length lc t.length tc rfl rfl hlc w1 (hl.kept hb) (ht.kept hb) (hT.kept hb)
  obtain ⟨r, hr⟩ : ∃ r, r = lg l q s t := ⟨_, rfl⟩
  obtain ⟨r1, hr1⟩ : ∃ r, r = termErr l s := ⟨_, rfl⟩
  obtain ⟨r2, hr2⟩ : ∃ r, r = termErr l t := ⟨_, rfl⟩
  rw [← hr]
  rw [← hr1] at cS
  rw [← hr2] at cT
  have HR := Lib.hid hr
  have HR1 := Lib.hid hr1
  have HR2 := Lib.hid hr2
  have HL := Lib.hid hl
  have HS := Lib.hid hs
  have HTT := Lib.hid ht
  have HP := Lib.hid hP
  have HCT := Lib.hid cT
  clear hr hr1 hr2 hl hs ht hP cT hT
  by_cases h1 : r1 = 0
  · by_cases h2 : r2 = 0
    · by_cases h3 : s.length ≤ 512
      · by_cases h4 : t.length ≤ 512
        · subst h1
          subst h2
          have hmx : ¬ (512 < max (s.length : Int) t.length) := by omega
          have hrt := root_ok HR1.out.symm
          have hru := root_ok HR2.out.symm
          have hn1 := (scan_more (k := 0) hrt).1
          have hn2 := (scan_more (k := 0) hru).1
          obtain ⟨sb, sf, _, rfl, _, _, _, hsb⟩ := HS.out.at_ hn1
          obtain ⟨tb, tf, _, rfl, _, _, _, htb⟩ := HTT.out.at_ hn2
          have hsl := World.block_lt_of_cell? w _ hsb
          have htl := World.block_lt_of_cell? w _ htb
          have hG := good_of (term_sig HR1.out.symm)
          have G1 := fun (w1 : World) (hb : Below w.heap.size w w1) => grow_any A sb sf l s lc sc hG hsc s.length 0 s.length w1 (by omega) hrt (HL.out.kept hb) (HS.out.kept hb)
          have G2 := fun (w1 : World) (hb : Below w.heap.size w w1) => grow_any A tb tf l t lc tc hG htc t.length 0 t.length w1 (by omega) hru (HL.out.kept hb) (HTT.out.kept hb)
          have HG1 := Lib.hid G1
          have HG2 := Lib.hid G2
          have HSL := Lib.hid hsl
          have HTL := Lib.hid htl
          have hmk := makeT
          clear G1 G2 hsb htb hG hrt hru hsl htl
          go_enter Tryd.func12, Tryd.ntmps12
          go_wp2_with fail
          refine cS.mono ?_
          rintro e w1 ⟨rfl, hb1⟩
          have c2 := HCT.out w1 hb1
          clear cS
          go_wp2_with fail
          refine c2.mono ?_
          rintro e w2 ⟨rfl, hb2⟩
          have hb := below_then hb1 hb1.size hb2
          clear c2
          go_wp2_with fail
          have c3 := HG1.out w2 hb
          refine c3.mono ?_
          rintro e w3 ⟨va, rfl, hb3, N1⟩
          have hb03 := below_then hb hb.size hb3
          have c4 := HG2.out w3 hb03
          have NN1 := Lib.hid N1
          clear N1 c3
          go_wp2_with fail
          refine c4.mono ?_
          rintro e w4 ⟨vb, rfl, hb4, N2⟩
          have hb04 := below_then hb03 hb03.size hb4
          have NN2 := Lib.hid N2
          clear N2 c4
          go_wp2_with fail
          refine (top_asks l q s t sb sf tb tf pb n va vb w w2 w3 w4 hcyc HR1.out.symm HR2.out.symm h3 h4 HP.out HS.out HTT.out HSL.out HTL.out hb hb3 hb4 NN1.out NN2.out).mono ?_
          rintro e w7 ⟨rfl, hb7⟩
          go_wp2_with fail
          go_ret
          refine ⟨?_, hb7⟩
          rw [HR.out, lg, if_pos ⟨HR1.out.symm, HR2.out.symm, h3, h4⟩]
          rfl
        · have hmx : 512 < max (s.length : Int) t.length := by omega
          have hf : r = false := by rw [HR.out, lg, if_neg (fun h => h4 h.2.2.2)]
          subst hf
          go_enter Tryd.func12, Tryd.ntmps12
          go_wp2_with fail
          refine cS.mono ?_
          rintro e w1 ⟨rfl, hb1⟩
          have c2 := HCT.out w1 hb1
          clear cS
          go_wp2_with fail
          refine c2.mono ?_
          rintro e w2 ⟨rfl, hb2⟩
          have hb := below_then hb1 hb1.size hb2
          clear c2
          go_wp2_with fail
          go_ret
          exact ⟨rfl, hb⟩
      · have hmx : 512 < max (s.length : Int) t.length := by omega
        have hf : r = false := by rw [HR.out, lg, if_neg (fun h => h3 h.2.2.1)]
        subst hf
        go_enter Tryd.func12, Tryd.ntmps12
        go_wp2_with fail
        refine cS.mono ?_
        rintro e w1 ⟨rfl, hb1⟩
        have c2 := HCT.out w1 hb1
        clear cS
        go_wp2_with fail
        refine c2.mono ?_
        rintro e w2 ⟨rfl, hb2⟩
        have hb := below_then hb1 hb1.size hb2
        clear c2
        go_wp2_with fail
        go_ret
        exact ⟨rfl, hb⟩
    · have b2 : (r2 != 0) = true := by simpa using h2
      have hf : r = false := by rw [HR.out, lg, if_neg (fun h => h2 (HR2.out.trans h.2.1))]
      subst hf
      have H1 := Lib.hid h2
      clear h2
      go_enter Tryd.func12, Tryd.ntmps12
      go_wp2_with fail
      refine cS.mono ?_
      rintro e w1 ⟨rfl, hb1⟩
      have c2 := HCT.out w1 hb1
      clear cS
      go_wp2_with fail
      refine c2.mono ?_
      rintro e w2 ⟨rfl, hb2⟩
      have hb := below_then hb1 hb1.size hb2
      clear c2
      go_wp2_with fail
      go_ret
      exact ⟨rfl, hb⟩
  · have b1 : (r1 != 0) = true := by simpa using h1
    have hf : r = false := by rw [HR.out, lg, if_neg (fun h => h1 (HR1.out.trans h.1))]
    subst hf
    have H1 := Lib.hid h1
    clear h1
    go_enter Tryd.func12, Tryd.ntmps12
    go_wp2_with fail
    refine cS.mono ?_
    rintro e w1 ⟨rfl, hb1⟩
    go_wp2_with fail
    go_ret
    exact ⟨rfl, hb1⟩
end Go.Proofs.YthpdfkhmhaobgaaDoor
