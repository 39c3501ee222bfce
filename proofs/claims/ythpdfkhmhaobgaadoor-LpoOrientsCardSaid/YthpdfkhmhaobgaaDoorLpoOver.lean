/- The path order's loop over the places below: greater than all of them. Conditions: as in the walk. -/
import Derived.Test.YthpdfkhmhaobgaaDoorLpoWalk
set_option linter.unusedVariables false
set_option linter.unusedSimpArgs false
set_option linter.unnecessarySimpa false
namespace Go.Proofs.YthpdfkhmhaobgaaDoor
open Go.RowKit Go.Lib

/-- What holds after a comparison. -/
def TInv (l : List Sy) (s t : List Int) (ob pb mb : Nat) (n : Int) (q : List (Int × Int)) (P : Nat → Nat → Prop) (M : Nat) (f0 : Int × Int → Option Value) (w w' : World) : Prop :=
  w.grownBy w' (some mb) ∧ ∃ f size, Tab w' ob pb mb n q f size ∧ (∀ x y, P x y → RightAt l q s t f x y) ∧ ∀ x y : Nat, x + y < M → f ((x : Int), (y : Int)) = f0 ((x : Int), (y : Int))
theorem TInv.refl {l : List Sy} {s t : List Int} {ob pb mb : Nat} {n : Int} {q : List (Int × Int)} {P : Nat → Nat → Prop} {M : Nat} {f : Int × Int → Option Value} {size : Nat} {w : World} (hT : Tab w ob pb mb n q f size) (hR : ∀ x y, P x y → RightAt l q s t f x y) :
    TInv l s t ob pb mb n q P M f w w := ⟨World.grownBy.refl _ _, f, size, hT, hR, fun _ _ _ => rfl⟩
theorem TInv.below {l : List Sy} {s t : List Int} {ob pb mb : Nat} {n : Int} {q : List (Int × Int)} {P : Nat → Nat → Prop} {M : Nat} {f : Int × Int → Option Value} {w w1 w2 : World} (h : TInv l s t ob pb mb n q P M f w w1) (k : Below w1.heap.size w1 w2) :
    TInv l s t ob pb mb n q P M f w w2 := by
  obtain ⟨g, f1, size1, hT, hR, hf⟩ := h
  exact ⟨grown_below_right g k, f1, size1, hT.below k, hR, hf⟩
theorem kids_nodes {l : List Sy} {t : List Int} {R : Value → Nat → Nat → Prop} (hR : ∀ v i e, R v i e → scanAt l t 1 i = .ok e) : ∀ {ks : List Value} {i e : Nat}, KidsBy R ks i e → ∀ m v, ks[m]? = some v → i ≤ ((kidsFrom l t ks.length i).map Int.toNat).getD m 0 ∧ ∃ e', R v (((kidsFrom l t ks.length i).map Int.toNat).getD m 0) e'
  | [], _, _, _, m, v, h => by simp at h
  | u :: ks, i, e, ⟨m1, k1, k2⟩, m, v, h => by
    have hs := hR _ _ _ k1
    have he := endOf_ok hs
    have hle : i ≤ m1 := by have := (scan_more (k := 0) hs).1; have := (scanAt_ok hs).1; omega
    rw [List.length_cons, kidsFrom, he]
    cases m with
    | zero =>
      simp at h
      subst h
      exact ⟨by simp, m1, by simpa using k1⟩
    | succ m =>
      obtain ⟨h1, h2⟩ := kids_nodes hR k2 m v (by simpa using h)
      simp only [List.map_cons, List.getD_cons_succ]
      exact ⟨Nat.le_trans hle h1, h2⟩
theorem kidsFrom_len (l : List Sy) (t : List Int) : ∀ n m, (kidsFrom l t n m).length = n := fun n => by
  induction n with
  | zero => intro m; rfl
  | succ n ih => intro m; rw [kidsFrom, List.length_cons, ih]
theorem LNode.scan {w : World} {S : Nat → Prop} {l : List Sy} {t : List Int} {tb tf f : Nat} {v : Value} {i e : Nat} (h : LNode w S l t tb tf f v i e) : scanAt l t 1 i = .ok e := h.sub.2.2.2.1
theorem KidRow.shape {w : World} {S : Nat → Prop} {kv : Value} {ks : List Value} (h : KidRow w S kv ks) : ∃ A c, kv = .slice A ks.length c ∧ ks.length ≤ c ∧ ∀ j v, ks[j]? = some v → ∃ g, A = some ⟨g, 0, none⟩ ∧ S g ∧ w.cell? ⟨g, j, none⟩ = some v := by
  rcases h with ⟨rfl, rfl⟩ | ⟨g, cap, rfl, h2, h3, h4, h5⟩
  · exact ⟨none, 0, rfl, Nat.le_refl _, fun j v h => by simp at h⟩
  · exact ⟨_, cap, rfl, h4, fun j v h => ⟨g, rfl, h2, h5 j v h⟩⟩
set_option maxRecDepth 100000 in
set_option maxHeartbeats 4000000 in
theorem over_any (l : List Sy) (q : List (Int × Int)) (s t : List Int) (sb sf tb tf ob pb mb : Nat) (n : Int) (S : Nat → Prop) (N : Nat) (hD : Sides l q s t sb sf tb tf mb S) (hA : Asks l q s t sb sf tb tf ob pb mb n S N)
    (i e1 fa fb xa m e2 : Nat) (kvb : Value) (ksb : List Value) (w : World) (P : Nat → Nat → Prop) (f : Int × Int → Option Value) (size : Nat) (hm : (s.length - i) + (t.length - m) ≤ N) (ha : LNode w S l s sb sf fa (funV xa) i e1)
    (hk : KidRow w S kvb ksb) (hkb : KidsBy (LNode w S l t tb tf fb) ksb m e2) (hs : Ints w (some ⟨sb, sf, none⟩) s) (ht : Ints w (some ⟨tb, tf, none⟩) t) (hT : Tab w ob pb mb n q f size) (hR : ∀ x y, P x y → RightAt l q s t f x y)
    (hP : ∀ x y, x < s.length → y < t.length → i + m ≤ x + y → P x y) (hl2 : ksb.length ≤ 262144) :
    Calls Tryd.prog 52 #[.pointer (some ⟨ob, 0, none⟩), .pointer (some ⟨xa, 0, none⟩), kvb] w fun e w' => e = .returned (.bool (((kidsFrom l t ksb.length m).map Int.toNat).all (gB l q s t i))) ∧ TInv l s t ob pb mb n q P (i + m) f w w' := by
  obtain ⟨K, hK⟩ : ∃ K, K = (kidsFrom l t ksb.length m).map Int.toNat := ⟨_, rfl⟩
  have hKl : K.length = ksb.length := by rw [hK, List.length_map, kidsFrom_len]
  have hkn := fun j v h => kids_nodes (fun v i e (h : LNode w S l t tb tf fb v i e) => h.scan) hkb j v h
  rw [← hK] at hkn ⊢
  obtain ⟨r, hr⟩ : ∃ r, r = K.all (gB l q s t i) := ⟨_, rfl⟩
  rw [← hr]
  have HRR := Lib.hid hr
  have HKN := Lib.hid hkn
  have HKL := Lib.hid hKl
  have HS := Lib.hid hs
  have HTT := Lib.hid ht
  have HP := Lib.hid hP
  have HAN := Lib.hid ha
  have HI := Lib.hid (TInv.refl (M := i + m) hT hR)
  obtain ⟨A, c, rfl, hcc, hcell⟩ := hk.shape
  have HC := Lib.hid hcell
  clear hr hkn hKl hs ht hP ha hkb hk hT hR hcell hK
  go_enter Tryd.func52, Tryd.ntmps52
  go_wp2_with fail
  go_loopg [11] ksb.length (fun gk i' wr => ∃ k : Nat, Aside (gk + k = ksb.length) ∧ i' = .int .i64 k ∧ Aside (TInv l s t ob pb mb n q P (i + m) f w wr) ∧ Aside (∀ j, j < k → gB l q s t i (K.getD j 0) = true))
  case atStart => exact ⟨0, (rfl : ksb.length + 0 = _), rfl, HI.out, fun j h => by omega⟩
  case round =>
    obtain ⟨k, hg, rfl, hI, hE⟩ := hrel
    have hk : k ≤ ksb.length := by have := hg.out; omega
    have HIW := Lib.hid hI.out
    have HE := Lib.hid hE.out
    clear hI hE
    by_cases hlt : k < ksb.length
    · obtain ⟨g, rfl, hSg, hgc⟩ := HC.out k _ (List.getElem?_eq_getElem hlt)
      obtain ⟨hge, e', hN⟩ := HKN.out k _ (List.getElem?_eq_getElem hlt)
      have KT := keeps_turn hD.nS HIW.out.1
      have hgc' := KT.cell hSg hgc
      have hN' := hN.keep KT
      have hAN := HAN.out.keep KT
      have hs' := HS.out.turned HIW.out.1 (fun _ a e => by cases e; exact hD.nsb)
      have ht' := HTT.out.turned HIW.out.1 (fun _ a e => by cases e; exact hD.ntb)
      obtain ⟨f1, size1, hT1, hR1, hf1⟩ := HIW.out.2
      have hcall := hA i (K.getD k 0) e1 e' fa fb _ _ wr P f1 size1 (by omega) hAN hN' hs' ht' hT1 hR1 (fun x y hx hy hxy => HP.out x y hx hy (by omega))
      obtain ⟨v, hv⟩ : ∃ v, v = ksb[k] := ⟨_, rfl⟩
      rw [← hv] at hgc' hcall
      have HK := Lib.hid KT
      have HF1 := Lib.hid hf1
      have HGE := Lib.hid hge
      clear hgc hN hN' hAN hs' ht' hT1 hR1 KT hf1 hge hv
      cases hgb : gB l q s t i (K.getD k 0) with
      | true =>
        rw [hgb] at hcall
        go_wp2_with fail
        refine hcall.mono ?_
        rintro e w7 ⟨rfl, g7, f7, size7, hT7, hR7, hf7⟩
        go_wp2_with fail
        go_roundg (ksb.length - (k + 1))
        case measure => have := hg.out; omega
        case rel =>
          refine ⟨k + 1, by have := hg.out; show _ = _; omega, by go_num, ⟨HIW.out.1.trans g7, f7, size7, hT7, hR7, fun x y hxy => (hf7 x y (by have := HGE.out; omega)).trans (HF1.out x y hxy)⟩, ?_⟩
          show ∀ j, j < k + 1 → _
          intro j hj
          by_cases h : j = k
          · rw [h]; exact hgb
          · exact HE.out j (by omega)
      | false =>
        rw [hgb] at hcall
        go_wp2_with fail
        refine hcall.mono ?_
        rintro e w7 ⟨rfl, g7, f7, size7, hT7, hR7, hf7⟩
        go_wp2_with fail
        go_ret
        refine ⟨?_, HIW.out.1.trans g7, f7, size7, hT7, hR7, fun x y hxy => (hf7 x y (by have := HGE.out; omega)).trans (HF1.out x y hxy)⟩
        have : K.all (gB l q s t i) = false := by
          rw [List.all_eq_false]
          exact ⟨K.getD k 0, getD_mem (d := 0) (by have := HKL.out; omega) rfl, by rw [hgb]; simp⟩
        rw [HRR.out, this]
        rfl
    · have hkn : k = ksb.length := by omega
      subst hkn
      go_wp2_with fail
      go_ret
      refine ⟨?_, HIW.out⟩
      have : K.all (gB l q s t i) = true := by
        rw [List.all_eq_true]
        intro x hx
        obtain ⟨j, hj, rfl⟩ := List.mem_iff_getElem.1 hx
        have := HE.out j (by have := HKL.out; omega)
        rwa [List.getD_eq_getElem?_getD, List.getElem?_eq_getElem hj] at this
      rw [HRR.out, this]
      rfl
end Go.Proofs.YthpdfkhmhaobgaaDoor
