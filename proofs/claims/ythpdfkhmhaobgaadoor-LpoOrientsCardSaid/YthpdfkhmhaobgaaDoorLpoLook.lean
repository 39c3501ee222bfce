/- The path order's look at two functions: the definition's cases in turn. Conditions: as in the walk. -/
import Derived.Test.YthpdfkhmhaobgaaDoorLpoOver
import Derived.Test.YthpdfkhmhaobgaaDoorPrecC
set_option linter.unusedVariables false
set_option linter.unusedSimpArgs false
set_option linter.unnecessarySimpa false
namespace Go.Proofs.YthpdfkhmhaobgaaDoor
open Go.RowKit Go.Lib

section
variable {l : List Sy} {s t : List Int} {sb sf tb tf ob pb mb : Nat} {n : Int} {q : List (Int × Int)} {S : Nat → Prop} {P : Nat → Nat → Prop} {M N : Nat} {f : Int × Int → Option Value} {w wr : World}
theorem TInv.keeps (hD : Sides l q s t sb sf tb tf mb S) (hI : TInv l s t ob pb mb n q P M f w wr) : Keeps S S w wr := keeps_turn hD.nS hI.1
theorem TInv.ask (hD : Sides l q s t sb sf tb tf mb S) (hA : Asks l q s t sb sf tb tf ob pb mb n S N) (hI : TInv l s t ob pb mb n q P M f w wr) {i j e1 e2 fa fb : Nat} {va vb : Value} (ha : LNode w S l s sb sf fa va i e1) (hb : LNode w S l t tb tf fb vb j e2)
    (hs : Ints w (some ⟨sb, sf, none⟩) s) (ht : Ints w (some ⟨tb, tf, none⟩) t) (hm : (s.length - i) + (t.length - j) ≤ N) (hP : ∀ x y, x < s.length → y < t.length → i + j ≤ x + y → P x y) (hM : M ≤ i + j) :
    Calls Tryd.prog 27 #[.pointer (some ⟨ob, 0, none⟩), va, vb] wr fun e w' => e = .returned (.bool (gB l q s t i j)) ∧ TInv l s t ob pb mb n q P M f w w' := by
  have K := hI.keeps hD
  obtain ⟨g, f1, size1, hT, hR, hf⟩ := hI
  refine (hA i j e1 e2 fa fb va vb wr P f1 size1 hm (ha.keep K) (hb.keep K) (hs.turned g (fun _ a e => by cases e; exact hD.nsb)) (ht.turned g (fun _ a e => by cases e; exact hD.ntb)) hT hR hP).mono ?_
  rintro e w7 ⟨rfl, g7, f7, size7, hT7, hR7, hf7⟩
  exact ⟨rfl, g.trans g7, f7, size7, hT7, hR7, fun x y hxy => (hf7 x y (by omega)).trans (hf x y hxy)⟩
theorem TInv.same (hD : Sides l q s t sb sf tb tf mb S) (hI : TInv l s t ob pb mb n q P M f w wr) {i j e1 e2 fa fb : Nat} {va vb : Value} (ha : LNode w S l s sb sf fa va i e1) (hb : LNode w S l t tb tf fb vb j e2)
    (hs : Ints w (some ⟨sb, sf, none⟩) s) (ht : Ints w (some ⟨tb, tf, none⟩) t) :
    Calls Tryd.prog 50 #[va, vb] wr fun e w' => e = .returned (.bool (decide (subAt l s i = subAt l t j))) ∧ TInv l s t ob pb mb n q P M f w w' := by
  have K := hI.keeps hD
  refine (same_any l s t sb sf tb tf fa fb i j e1 e2 S S va vb wr (hs.turned hI.1 (fun _ a e => by cases e; exact hD.nsb)) (ht.turned hI.1 (fun _ a e => by cases e; exact hD.ntb)) (ha.keep K) (hb.keep K)).mono ?_
  rintro e w7 ⟨rfl, h7⟩
  exact ⟨rfl, hI.below h7⟩
theorem TInv.over (hD : Sides l q s t sb sf tb tf mb S) (hA : Asks l q s t sb sf tb tf ob pb mb n S N) (hI : TInv l s t ob pb mb n q P M f w wr) {i m e1 e2 fa fb xa : Nat} {kvb : Value} {ksb : List Value} (ha : LNode w S l s sb sf fa (funV xa) i e1)
    (hk : KidRow w S kvb ksb) (hkb : KidsBy (LNode w S l t tb tf fb) ksb m e2)
    (hs : Ints w (some ⟨sb, sf, none⟩) s) (ht : Ints w (some ⟨tb, tf, none⟩) t) (hm : (s.length - i) + (t.length - m) ≤ N) (hP : ∀ x y, x < s.length → y < t.length → i + m ≤ x + y → P x y) (hM : M ≤ i + m) (hl : ksb.length ≤ 262144) :
    Calls Tryd.prog 52 #[.pointer (some ⟨ob, 0, none⟩), .pointer (some ⟨xa, 0, none⟩), kvb] wr fun e w' => e = .returned (.bool (((kidsFrom l t ksb.length m).map Int.toNat).all (gB l q s t i))) ∧ TInv l s t ob pb mb n q P M f w w' := by
  have K := hI.keeps hD
  obtain ⟨g, f1, size1, hT, hR, hf⟩ := hI
  refine (over_any l q s t sb sf tb tf ob pb mb n S N hD hA i e1 fa fb xa m e2 kvb ksb wr P f1 size1 hm (ha.keep K) (hk.keep K) (hkb.mono fun _ _ _ h => h.keep K) (hs.turned g (fun _ a e => by cases e; exact hD.nsb)) (ht.turned g (fun _ a e => by cases e; exact hD.ntb)) hT hR hP hl).mono ?_
  rintro e w7 ⟨rfl, g7, f7, size7, hT7, hR7, hf7⟩
  exact ⟨rfl, g.trans g7, f7, size7, hT7, hR7, fun x y hxy => (hf7 x y (by omega)).trans (hf x y hxy)⟩
end
theorem kids_long {R : Value → Nat → Nat → Prop} (hR : ∀ v i e, R v i e → i < e) : ∀ {ks : List Value} {i e : Nat}, KidsBy R ks i e → ks.length + i ≤ e
  | [], _, _, h => by cases h; simp
  | _ :: ks, i, e, ⟨m, h1, h2⟩ => by have := hR _ _ _ h1; have := kids_long hR h2; simp only [List.length_cons]; omega
theorem TInv.c0 {l : List Sy} {s t : List Int} {ob pb mb : Nat} {n : Int} {q : List (Int × Int)} {P : Nat → Nat → Prop} {M : Nat} {f : Int × Int → Option Value} {w wr : World} (hI : TInv l s t ob pb mb n q P M f w wr) : wr.cell? ⟨ob, 0, none⟩ = some (.pointer (some ⟨pb, 0, none⟩)) := by
  obtain ⟨_, f1, size1, hT, _⟩ := hI; exact hT.c0
theorem TInv.prec {l : List Sy} {s t : List Int} {ob pb mb : Nat} {n : Int} {q : List (Int × Int)} {P : Nat → Nat → Prop} {M : Nat} {f : Int × Int → Option Value} {w wr : World} (hI : TInv l s t ob pb mb n q P M f w wr) : IsPrec wr pb n q := by
  obtain ⟨_, f1, size1, hT, _⟩ := hI; exact hT.prec
set_option maxRecDepth 100000 in
set_option maxHeartbeats 4000000 in
theorem look_any (l : List Sy) (q : List (Int × Int)) (s t : List Int) (sb sf tb tf ob pb mb : Nat) (n : Int) (S : Nat → Prop) (N : Nat) (hD : Sides l q s t sb sf tb tf mb S) (hA : Asks l q s t sb sf tb tf ob pb mb n S N)
    (i j e1 e2 fa fb xa xb : Nat) (w : World) (P : Nat → Nat → Prop) (f : Int × Int → Option Value) (size : Nat) (hm : (s.length - i) + (t.length - j) ≤ N + 1) (ha : LNode w S l s sb sf fa (funV xa) i e1) (hb : LNode w S l t tb tf fb (funV xb) j e2)
    (hs : Ints w (some ⟨sb, sf, none⟩) s) (ht : Ints w (some ⟨tb, tf, none⟩) t) (hT : Tab w ob pb mb n q f size) (hR : ∀ x y, P x y → RightAt l q s t f x y) (hP : ∀ x y, x < s.length → y < t.length → i + j < x + y → P x y) :
    Calls Tryd.prog 40 #[.pointer (some ⟨ob, 0, none⟩), .pointer (some ⟨xa, 0, none⟩), .pointer (some ⟨xb, 0, none⟩)] w (GPost l s t ob pb mb n q P (i + j + 1) f w (gB l q s t i j)) := by
  obtain ⟨a1, a2, a3, a4, a5⟩ := ha.sub
  obtain ⟨b1, b2, b3, b4, b5⟩ := hb.sub
  cases fa with
  | zero => exact ha.elim
  | succ fa =>
  cases fb with
  | zero => exact hb.elim
  | succ fb =>
  rcases ha.2.2.2.2 with ⟨_, h⟩ | ⟨ha0, xa', kva, ksa, ca, hxa, hSa, p0, p1, p2, p3, hka, hla, hkas⟩
  · cases h
  rcases hb.2.2.2.2 with ⟨_, h⟩ | ⟨hb0, xb', kvb, ksb, cb, hxb, hSb, q0, q1, q2, q3, hkb, hlb, hkbs⟩
  · cases h
  cases hxa
  cases hxb
  have gK : kidN l s i = (kidsFrom l s ksa.length (i + 1)).map Int.toNat := by unfold kidN kidsAt; rw [if_neg (by omega), hla]
  have gL : kidN l t j = (kidsFrom l t ksb.length (j + 1)).map Int.toNat := by unfold kidN kidsAt; rw [if_neg (by omega), hlb]
  have hKl : (kidN l s i).length = ksa.length := by rw [gK, List.length_map, kidsFrom_len]
  have hLl : (kidN l t j).length = ksb.length := by rw [gL, List.length_map, kidsFrom_len]
  have hkn := fun m v h => kids_nodes (fun v i e (h : LNode w S l s sb sf fa v i e) => h.scan) hkas m v h
  have hln := fun m v h => kids_nodes (fun v i e (h : LNode w S l t tb tf fb v i e) => h.scan) hkbs m v h
  rw [← gK] at hkn
  rw [← gL] at hln
  have hlen2 : ksb.length ≤ 262144 := by have := kids_long (fun v i e (h : LNode w S l t tb tf fb v i e) => h.sub.2.1) hkbs; have := hD.lt; omega
  have hlen1 : ksa.length ≤ 262144 := by have := kids_long (fun v i e (h : LNode w S l s sb sf fa v i e) => h.sub.2.1) hkas; have := hD.ls; omega
  have hI0 : TInv l s t ob pb mb n q P (i + j + 1) f w w := TInv.refl hT hR
  have hov := fun (wr : World) (hI : TInv l s t ob pb mb n q P (i + j + 1) f w wr) => hI.over hD hA ha hkb hkbs hs ht (by omega) (fun x y hx hy hxy => hP x y hx hy (by omega)) (by omega) hlen2
  rw [← gL] at hov
  obtain ⟨Aa, ca', rfl, hca, hcella⟩ := hka.shape
  obtain ⟨Ab, cb', rfl, hcb, hcellb⟩ := hkb.shape
  have hask : ∀ wr, TInv l s t ob pb mb n q P (i + j + 1) f w wr → ∀ (k : Nat) (v : Value), ksa[k]? = some v → Calls Tryd.prog 27 #[.pointer (some ⟨ob, 0, none⟩), v, .iface 106 (.pointer (some ⟨xb, 0, none⟩))] wr fun e w' => e = .returned (.bool (gB l q s t ((kidN l s i).getD k 0) j)) ∧ TInv l s t ob pb mb n q P (i + j + 1) f w w' := fun wr hI k v h => by
    obtain ⟨h1, e', hN⟩ := hkn k v h
    exact hI.ask hD hA hN hb hs ht (by omega) (fun x y hx hy hxy => hP x y hx hy (by omega)) (by omega)
  have hsame : ∀ wr, TInv l s t ob pb mb n q P (i + j + 1) f w wr → ∀ (k : Nat) (v : Value), ksa[k]? = some v → Calls Tryd.prog 50 #[v, .iface 106 (.pointer (some ⟨xb, 0, none⟩))] wr fun e w' => e = .returned (.bool (decide (subAt l s ((kidN l s i).getD k 0) = subAt l t j))) ∧ TInv l s t ob pb mb n q P (i + j + 1) f w w' := fun wr hI k v h => by
    obtain ⟨h1, e', hN⟩ := hkn k v h
    exact hI.same hD hN hb hs ht
  have hask2 : ∀ wr, TInv l s t ob pb mb n q P (i + j + 1) f w wr → ∀ (k : Nat) (v u : Value), ksa[k]? = some v → ksb[k]? = some u → Calls Tryd.prog 27 #[.pointer (some ⟨ob, 0, none⟩), v, u] wr fun e w' => e = .returned (.bool (gB l q s t ((kidN l s i).getD k 0) ((kidN l t j).getD k 0))) ∧ TInv l s t ob pb mb n q P (i + j + 1) f w w' := fun wr hI k v u h hu => by
    obtain ⟨h1, e', hN⟩ := hkn k v h
    obtain ⟨h2, e2', hN2⟩ := hln k u hu
    exact hI.ask hD hA hN hN2 hs ht (by omega) (fun x y hx hy hxy => hP x y hx hy (by omega)) (by omega)
  have hsame2 : ∀ wr, TInv l s t ob pb mb n q P (i + j + 1) f w wr → ∀ (k : Nat) (v u : Value), ksa[k]? = some v → ksb[k]? = some u → Calls Tryd.prog 50 #[v, u] wr fun e w' => e = .returned (.bool (decide (subAt l s ((kidN l s i).getD k 0) = subAt l t ((kidN l t j).getD k 0)))) ∧ TInv l s t ob pb mb n q P (i + j + 1) f w w' := fun wr hI k v u h hu => by
    obtain ⟨h1, e', hN⟩ := hkn k v h
    obtain ⟨h2, e2', hN2⟩ := hln k u hu
    exact hI.same hD hN hN2 hs ht
  obtain ⟨r, hr⟩ : ∃ r, r = gB l q s t i j := ⟨_, rfl⟩
  have hGP : ∀ wr, TInv l s t ob pb mb n q P (i + j + 1) f w wr → GPost l s t ob pb mb n q P (i + j + 1) f w (gB l q s t i j) (.returned (.bool r)) wr := fun wr h => ⟨by rw [hr], h⟩
  have ha1 : ¬ s.getD i 0 < 0 := by omega
  have hb1 : ¬ t.getD j 0 < 0 := by omega
  obtain ⟨F, hF⟩ : ∃ F, F = s.getD i 0 := ⟨_, rfl⟩
  obtain ⟨H, hH⟩ : ∃ H, H = t.getD j 0 := ⟨_, rfl⟩
  rw [← hF] at p0
  rw [← hH] at q0
  have HF := Lib.hid hF
  have HH := Lib.hid hH
  have HR := Lib.hid hr
  have HGP := Lib.hid hGP
  have HS2 := Lib.hid hsame2
  have HA2 := Lib.hid hask2
  have HS1 := Lib.hid hsame
  have HA1 := Lib.hid hask
  have HO := Lib.hid hov
  have HI0 := Lib.hid hI0
  have HCA := Lib.hid hcella
  have HCB := Lib.hid hcellb
  have HKL := Lib.hid hKl
  have HLL := Lib.hid hLl
  have HLA := Lib.hid hla
  have HLB := Lib.hid hlb
  clear hr hGP hsame2 hask2 hsame hask hov hI0 hcella hcellb hKl hLl hF hH a4 a5 b4 b5 ha hb hs ht hka hkb hkas hkbs gK gL hkn hln hT hR hP hla hlb p1 p2 q1 q2
  go_enter Tryd.func40, Tryd.ntmps40
  go_wp2_with fail
  go_loopg [8, 16] ksa.length (fun gk u8' i' wr => ∃ k : Nat, Aside (gk + k = ksa.length) ∧ i' = .int .i64 k ∧ Aside (TInv l s t ob pb mb n q P (i + j + 1) f w wr) ∧ Aside (∀ m, m < k → subAt l s ((kidN l s i).getD m 0) ≠ subAt l t j ∧ ¬ G l q s t ((kidN l s i).getD m 0) j))
  case atStart => exact ⟨0, (rfl : ksa.length + 0 = _), rfl, HI0.out, fun j h => by omega⟩
  case round =>
    obtain ⟨k, hg, rfl, hI, hE⟩ := hrel
    have hk : k ≤ ksa.length := by have := hg.out; omega
    have HIW := Lib.hid hI.out
    have HE := Lib.hid hE.out
    clear hI hE
    by_cases hlt : k < ksa.length
    · obtain ⟨v, hv⟩ : ∃ v, ksa[k]? = some v := ⟨_, List.getElem?_eq_getElem hlt⟩
      obtain ⟨g, rfl, hSg, hgc⟩ := HCA.out k v hv
      have hgc' := (HIW.out.keeps hD).cell hSg hgc
      have c1 := HS1.out wr HIW.out k v hv
      have hin : (kidN l s i).getD k 0 ∈ kidN l s i := getD_mem (d := 0) (by have := HKL.out; omega) rfl
      by_cases hsm : subAt l s ((kidN l s i).getD k 0) = subAt l t j
      · rw [decide_eq_true hsm] at c1
        have hgb : r = true := HR.out.trans (gB_true (G_kid hD.hs hD.ht a1 b1 (by omega) hin (.inl hsm)))
        subst hgb
        clear hgc hsm hin
        go_wp2_with fail
        refine c1.mono ?_
        rintro e w6 ⟨rfl, h6⟩
        have H6 := Lib.hid h6
        clear h6
        go_wp2_with fail
        go_ret
        exact HGP.out _ H6.out
      · rw [decide_eq_false hsm] at c1
        have HSM := Lib.hid hsm
        clear hgc hsm
        go_wp2_with fail
        refine c1.mono ?_
        rintro e w6 ⟨rfl, h6⟩
        have H6 := Lib.hid h6
        have c2 := HA1.out w6 h6 k v hv
        clear h6 c1
        cases hgk : gB l q s t ((kidN l s i).getD k 0) j with
        | true =>
          rw [hgk] at c2
          have hgb : r = true := HR.out.trans (gB_true (G_kid hD.hs hD.ht a1 b1 (by omega) hin (.inr (gB_iff.1 hgk))))
          subst hgb
          clear hin
          go_wp2_with fail
          refine c2.mono ?_
          rintro e w7 ⟨rfl, h7⟩
          have H7 := Lib.hid h7
          clear h7
          go_wp2_with fail
          go_ret
          exact HGP.out _ H7.out
        | false =>
          rw [hgk] at c2
          go_wp2_with fail
          refine c2.mono ?_
          rintro e w7 ⟨rfl, h7⟩
          have H7 := Lib.hid h7
          clear h7
          go_wp2_with fail
          go_roundg (ksa.length - (k + 1))
          case measure => have := hg.out; omega
          case rel =>
            refine ⟨k + 1, by have := hg.out; show _ = _; omega, by go_num, H7.out, ?_⟩
            show ∀ m, m < k + 1 → _
            intro z hz
            by_cases h : z = k
            · rw [h]; exact ⟨HSM.out, fun h => by rw [gB_true h] at hgk; cases hgk⟩
            · exact HE.out z (by omega)
    · have hkn : k = ksa.length := by omega
      subst hkn
      have hno : NoKid l q s t i j := fun x hx => by
        obtain ⟨m, hm, rfl⟩ := List.mem_iff_getElem.1 hx
        have := HE.out m (by have := HKL.out; omega)
        rwa [List.getD_eq_getElem?_getD, List.getElem?_eq_getElem hm] at this
      have HNO := Lib.hid hno
      have c0 := HIW.out.c0
      have hpr := HIW.out.prec
      have p0' := (HIW.out.keeps hD).cell hSa p0
      have q0' := (HIW.out.keeps hD).cell hSb q0
      clear hno
      go_wp2_with fail
      refine wp_region_ext (I := Over wr) (by kernel_rfl) (by kernel_rfl) (Over.refl wr) ?_
      have f1 := Over.cell c0
      have f2 := Over.cell p0'
      have f3 := Over.cell q0'
      repeat (go_big_quiet_step ((go_at_call 51; exact Calls.over (above_any pb n q F H _ (hpr.kept (Ext.ok _))))))
      try refine wpQuiet_nil ?_
      intro w4 hw4
      have h4 := HIW.out.below hw4
      have H4 := Lib.hid h4
      have p04 := (h4.keeps hD).cell hSa p0
      have q04 := (h4.keeps hD).cell hSb q0
      have p34 := (h4.keeps hD).cell hSa p3
      have q34 := (h4.keeps hD).cell hSb q3
      clear f1 f2 f3 h4 hpr c0 p0' q0'
      cases hab : up q F H with
      | true =>
        have c5 := HO.out w4 H4.out
        have hall : (kidN l t j).all (gB l q s t i) = r := by
          have hx := G_above hD.hs hD.ht a1 b1 (by omega) (by omega) HNO.out (by rw [← HF.out, ← HH.out]; exact up_iff.1 hab)
          rw [HR.out]
          cases hr : gB l q s t i j with
          | true =>
            rw [List.all_eq_true]
            intro x hx2
            exact gB_true (hx.1 (gB_iff.1 hr) x hx2)
          | false =>
            rw [List.all_eq_false]
            refine Classical.byContradiction fun hc => ?_
            have : gB l q s t i j = true := gB_true (hx.2 fun k hk => gB_iff.1 (Classical.byContradiction fun h => hc ⟨k, hk, h⟩))
            rw [hr] at this
            cases this
        rw [hall] at c5
        clear hall
        go_wp2_with fail
        refine c5.mono ?_
        rintro e w6 ⟨rfl, h6⟩
        have H6 := Lib.hid h6
        clear h6
        go_wp2_with fail
        go_ret
        exact HGP.out _ H6.out
      | false =>
        have hnt : ¬ TC q (s.getD i 0) (t.getD j 0) := fun h => by rw [← HF.out, ← HH.out] at h; rw [up_iff.2 h] at hab; cases hab
        have HNT := Lib.hid hnt
        clear hnt
        by_cases hFH : F = H
        · have hb9 : (F != H) = false := by rw [hFH]; simp
          have hlen : ksa.length = ksb.length := by rw [HLA.out, HLB.out, ← HF.out, ← HH.out, hFH]
          have HFH := Lib.hid hFH
          clear hFH
          go_wp2_with fail
          refine wp_region_ext (I := Over w4) (by kernel_rfl) (by kernel_rfl) (Over.refl w4) ?_
          have f2 := Over.cell p04
          have f3 := Over.cell q04
          repeat (go_big_quiet_step (fail))
          try refine wpQuiet_nil ?_
          intro w5 hw5
          clear f2 f3
          have p35 := cell_kept hw5 p34
          have h5 := H4.out.below hw5
          have H5 := Lib.hid h5
          have HLEN := Lib.hid hlen
          clear h5 hlen
          clear p04 q04 p34 q34
          go_wp2_with fail
          go_loopg [9, 10, 68] ksa.length (fun gk2 u9x u10x i2 wr2 => ∃ k : Nat, Aside (gk2 + k = ksa.length) ∧ i2 = .int .i64 k ∧ Aside (TInv l s t ob pb mb n q P (i + j + 1) f w wr2) ∧ Aside (∀ m, m < k → subAt l s ((kidN l s i).getD m 0) = subAt l t ((kidN l t j).getD m 0)))
          case atStart => exact ⟨0, (rfl : ksa.length + 0 = _), rfl, H5.out, fun j h => by omega⟩
          case round =>
            obtain ⟨k2, hg2, rfl, hI2, hE2⟩ := hrel
            have hk2 : k2 ≤ ksa.length := by have := hg2.out; omega
            have HIW2 := Lib.hid hI2.out
            have HE2 := Lib.hid hE2.out
            clear hI2 hE2
            by_cases hlt2 : k2 < ksa.length
            · obtain ⟨v, hv⟩ : ∃ v, ksa[k2]? = some v := ⟨_, List.getElem?_eq_getElem hlt2⟩
              obtain ⟨u, hu⟩ : ∃ u, ksb[k2]? = some u := ⟨_, List.getElem?_eq_getElem (by have := HLEN.out; omega)⟩
              obtain ⟨g, rfl, hSg, hgc⟩ := HCA.out k2 v hv
              obtain ⟨g2, rfl, hSg2, hgc2⟩ := HCB.out k2 u hu
              have hlt3 : k2 < ksb.length := by have := HLEN.out; omega
              have hgc' := (HIW2.out.keeps hD).cell hSg hgc
              have hgc2' := (HIW2.out.keeps hD).cell hSg2 hgc2
              have q3' := (HIW2.out.keeps hD).cell hSb q3
              have c1 := HS2.out _ HIW2.out k2 v u hv hu
              by_cases hsm : subAt l s ((kidN l s i).getD k2 0) = subAt l t ((kidN l t j).getD k2 0)
              · rw [decide_eq_true hsm] at c1
                have HSM := Lib.hid hsm
                clear hsm hgc hgc2
                go_wp2_with fail
                refine c1.mono ?_
                rintro e w6 ⟨rfl, h6⟩
                have H6 := Lib.hid h6
                clear h6
                go_wp2_with fail
                go_roundg (ksa.length - (k2 + 1))
                case measure => have := hg2.out; omega
                case rel =>
                  refine ⟨k2 + 1, by have := hg2.out; show _ = _; omega, by go_num, H6.out, ?_⟩
                  show ∀ m, m < k2 + 1 → _
                  intro z hz
                  by_cases h : z = k2
                  · rw [h]; exact HSM.out
                  · exact HE2.out z (by omega)
              · rw [decide_eq_false hsm] at c1
                have hlex := G_lex hD.cyc hD.hs hD.ht a1 b1 (by omega) (by omega) HNO.out (by rw [← HF.out, ← HH.out]; exact HFH.out) (k := k2) (by have := HKL.out; omega) (by have := HLL.out; omega) HE2.out hsm
                have HLEX := Lib.hid hlex
                clear hsm hgc hgc2 hlex
                go_wp2_with fail
                refine c1.mono ?_
                rintro e w6 ⟨rfl, h6⟩
                have H6 := Lib.hid h6
                have c2 := HA2.out _ h6 k2 v u hv hu
                have hgc2' : w.cell? ⟨g2, k2, none⟩ = some u := by
                  obtain ⟨g3, e3, _, hh⟩ := HCB.out k2 u hu
                  cases e3; exact hh
                have q36 := (h6.keeps hD).cell hSb q3
                have hgc6 := (h6.keeps hD).cell hSg2 hgc2'
                clear h6 c1
                cases hgk : gB l q s t ((kidN l s i).getD k2 0) ((kidN l t j).getD k2 0) with
                | false =>
                  rw [hgk] at c2
                  have hgb : r = false := HR.out.trans (gB_false (fun h => by have := gB_true (HLEX.out.1 h).1; rw [hgk] at this; cases this))
                  subst hgb
                  go_wp2_with fail
                  refine c2.mono ?_
                  rintro e w7 ⟨rfl, h7⟩
                  have H7 := Lib.hid h7
                  clear h7
                  go_wp2_with fail
                  go_ret
                  exact HGP.out _ H7.out
                | true =>
                  rw [hgk] at c2
                  go_wp2_with fail
                  refine c2.mono ?_
                  rintro e w7 ⟨rfl, h7⟩
                  have H7 := Lib.hid h7
                  have c3 := HO.out w7 h7
                  have q37 := (h7.keeps hD).cell hSb q3
                  have hall : (kidN l t j).all (gB l q s t i) = r := by
                    have hx := HLEX.out
                    rw [HR.out]
                    cases hr : gB l q s t i j with
                    | true =>
                      rw [List.all_eq_true]
                      intro x hx2
                      exact gB_true ((hx.1 (gB_iff.1 hr)).2 x hx2)
                    | false =>
                      rw [List.all_eq_false]
                      refine Classical.byContradiction fun hc => ?_
                      have : gB l q s t i j = true := gB_true (hx.2 ⟨gB_iff.1 hgk, fun k hk => gB_iff.1 (Classical.byContradiction fun h => hc ⟨k, hk, h⟩)⟩)
                      rw [hr] at this
                      cases this
                  rw [hall] at c3
                  clear h7 c2 hall
                  go_wp2_with fail
                  refine c3.mono ?_
                  rintro e w8 ⟨rfl, h8⟩
                  have H8 := Lib.hid h8
                  clear h8
                  go_wp2_with fail
                  go_ret
                  exact HGP.out _ H8.out
            · have hkn2 : k2 = ksa.length := by omega
              subst hkn2
              have hgb : r = false := HR.out.trans (gB_false (G_same hD.cyc hD.hs hD.ht a1 b1 (by omega) (by omega) (by rw [← HF.out, ← HH.out]; exact HFH.out) (by rw [HKL.out, HLL.out]; exact HLEN.out) (fun m hm => HE2.out m (by have := HKL.out; omega))))
              subst hgb
              go_wp2_with fail
              go_ret
              exact HGP.out _ HIW2.out
        · have hb9 : (F == H) = false := beq_eq_false_iff_ne.2 hFH
          have hgb : r = false := HR.out.trans (gB_false (G_differ hD.hs hD.ht a1 b1 (by omega) (by omega) HNO.out HNT.out (by rw [← HF.out, ← HH.out]; exact hFH)))
          subst hgb
          have HFH := Lib.hid hFH
          clear hFH
          go_wp2_with fail
          refine wp_region_ext (I := Over w4) (by kernel_rfl) (by kernel_rfl) (Over.refl w4) ?_
          have f2 := Over.cell p04
          have f3 := Over.cell q04
          repeat (go_big_quiet_step (fail))
          try refine wpQuiet_nil ?_
          intro w5 hw5
          clear f2 f3
          go_wp2_with fail
          go_ret
          exact HGP.out _ (H4.out.below hw5)
end Go.Proofs.YthpdfkhmhaobgaaDoor
