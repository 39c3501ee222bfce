/- The walk of TermPlaces: over every signature, for every row and every place it answers true. Conditions: utf8's tables as laid. -/
import Derived.Test.YtfhkbfofjjmbaaaDoorTermChecks
set_option linter.unusedVariables false
set_option linter.unusedSimpArgs false
namespace Go.Proofs.YtfhkbfofjjmbaaaDoor
open Go.RowKit Go.Lib

theorem kidsFrom_len (l : List Sy) (t : List Int) : ∀ (n m : Nat), (kidsFrom l t n m).length = n
  | 0, m => rfl
  | n + 1, m => by rw [kidsFrom, List.length_cons, kidsFrom_len l t n]
theorem kids_len {l : List Sy} {t : List Int} {a : Int} (h : placeErr l t a = 0) : (kidsAt l t a.toNat).length ≤ t.length := by
  obtain ⟨hte, h1, h2⟩ := place_zero h
  unfold kidsAt
  by_cases hn : t.getD a.toNat 0 < 0
  · rw [if_pos hn]; simp
  · rw [if_neg hn, kidsFrom_len]
    obtain ⟨E, hE, hE2, _⟩ := scan_inside t.length 1 0 t.length (by omega) (root_ok hte) a.toNat (Nat.zero_le _) (by omega)
    obtain ⟨_, _, hN⟩ := scan_more (k := 0) hE
    have := (scanAt_ok hN).1
    omega
theorem sub_len (l : List Sy) (t : List Int) (p : Nat) : (subAt l t p).length ≤ t.length := by
  unfold subAt
  rw [List.length_take, List.length_drop]; omega
theorem above_len {l : List Sy} {t : List Int} {a : Int} (h : placeErr l t a = 0) : (aboveOf l t a.toNat).length ≤ t.length := by
  obtain ⟨_, h1, h2⟩ := place_zero h
  have := aboveTo_len l t a.toNat a.toNat
  show (aboveTo l t a.toNat a.toNat).length ≤ _
  omega
set_option maxRecDepth 100000 in
set_option maxHeartbeats 4000000 in
theorem termPlaces_walk (A : Option Addr) (l : List Sy) (sc : Nat) (B : Option Addr) (t : List Int) (tc : Nat) (a : Int) (w : World) (hT : Tabs w) (hcap : l.length ≤ sc) (hl : Sigs w A l)
    (htc : t.length ≤ tc) (hnt : B = none → t.length = 0 ∧ tc = 0) (h8 : t.length * 8 ≤ 140737488351232) (ht : Ints w B t) (ha : -9223372036854775808 ≤ a ∧ a ≤ 9223372036854775807) :
    Calls Tryd.prog 5 #[.slice A l.length sc, .slice B t.length tc, .int .i64 a] w fun e w' => e = .returned (.bool true) ∧ Below w.heap.size w w' := by
  clear hnt
  have h88 : t.length * 8 ≤ 140737488355328 := by omega
  obtain ⟨K, hK⟩ : ∃ x, x = if placeErr l t a = 0 then kidsAt l t a.toNat else [] := ⟨_, rfl⟩
  obtain ⟨U, hU⟩ : ∃ x, x = if placeErr l t a = 0 then subAt l t a.toNat else [] := ⟨_, rfl⟩
  obtain ⟨V, hV⟩ : ∃ x, x = if placeErr l t a = 0 then aboveOf l t a.toNat else [] := ⟨_, rfl⟩
  have hKl : K.length ≤ t.length := by rw [hK]; split; exact kids_len ‹_›; simp
  have hUl : U.length ≤ t.length := by rw [hU]; split; exact sub_len _ _ _; simp
  have hVl : V.length ≤ t.length := by rw [hV]; split; exact above_len ‹_›; simp
  have cK := fun B tc W h1 h2 h3 => kids_any A B l t sc tc a ha hcap W h1 h2 h3 h88
  have cU := fun B tc h W h1 h2 h3 => sub_any A B l t sc tc a ha hcap h W h1 h2 h3 h88
  have cV := fun B tc W h1 h2 h3 => above_any A B l t sc tc a ha hcap W h1 h2 h3 h88
  have rK := fun B tc W h1 h2 => refkids_any A B l t sc tc a ha W h1 h2 h88
  have rU := fun B tc h W h1 h2 => refsub_any A B l t sc tc a ha h W h1 h2 h88
  have rV := fun B tc W h1 h2 => refabove_any A B l t sc tc a ha W h1 h2 h88
  rw [← hK] at cK rK
  rw [← hU] at cU rU
  rw [← hV] at cV rV
  generalize placeErr l t a = er at cK cU cV rK rU rV
  clear hK hU hV h88
  go_enter Tryd.func5, Tryd.ntmps5
  go_wp2_with fail
  refine (shown_any w hT).mono ?_
  rintro e w1 ⟨rfl, hb1⟩
  go_wp2_with fail
  refine (lent_any B t tc w1 (ht.kept hb1) h8).mono ?_
  rintro e w2 ⟨g, rfl, hb2, hg, hL⟩
  have hB2 := below_then hb1 hb1.size hb2
  have hgl := hL.block.2
  clear hb1 hb2
  have cK := cK (some ⟨g, 0, none⟩) (t.length + 3) w2 (hl.kept hB2) hL.ints (hT.kept hB2)
  go_wp2_with fail
  refine cK.mono ?_
  rintro e w3 ⟨v1, rfl, hb3, hK⟩
  have hB3 := below_then hB2 hB2.size hb3
  have hL3 := hL.kept hb3
  have hg3 : g < w3.heap.size := Nat.lt_of_lt_of_le hgl hb3.size
  clear cK hL hb3
  have cU1 := cU (some ⟨g, 0, none⟩) (t.length + 3) (by omega) w3 (hl.kept hB3) hL3.ints (hT.kept hB3)
  go_wp2_with fail
  refine cU1.mono ?_
  rintro e w4 ⟨v2, rfl, hb4, hU⟩
  have hB4 := below_then hB3 hB3.size hb4
  have hL4 := hL3.kept hb4
  have hg4 : g < w4.heap.size := Nat.lt_of_lt_of_le hg3 hb4.size
  have a12 := hK.apart' hU (Nat.le_refl _)
  have a21 := hK.apart hU (Nat.le_refl _)
  have hK4 := hK.below hb4
  clear cU1 hL3 hb4 hK
  have cV1 := cV (some ⟨g, 0, none⟩) (t.length + 3) w4 (hl.kept hB4) hL4.ints (hT.kept hB4)
  go_wp2_with fail
  refine cV1.mono ?_
  rintro e w5 ⟨v3, rfl, hb5, hV⟩
  have hB5 := below_then hB4 hB4.size hb5
  have hL5 := hL4.kept hb5
  have a13 := hK4.apart hV (Nat.le_refl _)
  have a23 := hU.apart hV (Nat.le_refl _)
  have hK5 := hK4.below hb5
  have hU5 := hU.below hb5
  clear cV1 cV hL4 hb5 hK4 hU
  have rK1 := rK B tc w5 (hl.kept hB5) (ht.kept hB5)
  go_wp2_with fail
  refine rK1.mono ?_
  rintro e w6 ⟨v4, rfl, hb6, hX⟩
  have hB6 := below_then hB5 hB5.size hb6
  have hL6 := hL5.kept hb6
  have hK6 := hK5.below hb6
  have hU6 := hU5.below hb6
  have hV6 := hV.below hb6
  clear rK1 rK hL5 hb6 hK5 hU5 hV
  have rU1 := rU B tc htc w6 (hl.kept hB6) (ht.kept hB6)
  go_wp2_with fail
  refine rU1.mono ?_
  rintro e w7 ⟨v5, rfl, hb7, hY⟩
  have hB7 := below_then hB6 hB6.size hb7
  have hL7 := hL6.kept hb7
  have b15 := hK6.apart hY (Nat.le_refl _)
  have b25 := hU6.apart hY (Nat.le_refl _)
  have b35 := hV6.apart hY (Nat.le_refl _)
  have hK7 := hK6.below hb7
  have hU7 := hU6.below hb7
  have hV7 := hV6.below hb7
  have hX7 := hX.below hb7
  clear rU1 rU hL6 hb7 hK6 hU6 hV6 hX
  have rV1 := rV B tc w7 (hl.kept hB7) (ht.kept hB7)
  go_wp2_with fail
  refine rV1.mono ?_
  rintro e w8 ⟨v6, rfl, hb8, hZ⟩
  have hB8 := below_then hB7 hB7.size hb8
  have hL8 := hL7.kept hb8
  have hK8 := hK7.below hb8
  have hU8 := hU7.below hb8
  have hV8 := hV7.below hb8
  have hX8 := hX7.below hb8
  have hY8 := hY.below hb8
  clear rV1 rV hL7 hb8 hK7 hU7 hV7 hX7 hY
  obtain ⟨A1, c1, rfl, i1⟩ := hK8.ints
  obtain ⟨A2, c2, rfl, i2⟩ := hU8.ints
  obtain ⟨A3, c3, rfl, i3⟩ := hV8.ints
  obtain ⟨A4, c4, rfl, i4⟩ := hX8.ints
  obtain ⟨A5, c5, rfl, i5⟩ := hY8.ints
  obtain ⟨A6, c6, rfl, i6⟩ := hZ.ints
  have s1 := same_self A1 A4 K c1 c4 w8 i1 i4
  have s2 := fun W h => same_self A2 A5 U c2 c5 W (i2.kept h) (i5.kept h)
  have s3 := fun W h => same_self A3 A6 V c3 c6 W (i3.kept h) (i6.kept h)
  clear hX8 hZ
  go_wp2_with fail
  refine s1.mono ?_
  rintro e w9 ⟨rfl, hb9⟩
  have s2 := s2 w9 hb9
  go_wp2_with fail
  refine s2.mono ?_
  rintro e w10 ⟨rfl, hb10⟩
  have hb10 := below_then hb9 hb9.size hb10
  have s3 := s3 w10 hb10
  clear hb9 s1 s2
  go_wp2_with fail
  refine s3.mono ?_
  rintro e w11 ⟨rfl, hb11⟩
  have hb11 := below_then hb10 hb10.size hb11
  have hB11 := below_then hB8 hB8.size hb11
  have hL11 := hL8.kept hb11
  have hK11 := hK8.below hb11
  have hU11 := hU8.below hb11
  have hV11 := hV8.below hb11
  have hY11 := hY8.below hb11
  clear s3 hb10 hb11 hL8 hK8 hU8 hV8 hY8 i1 i2 i3 i4 i5 i6 hB8
  have p1 := spoil_any _ _ K w11 (by omega) hK11
  go_wp2_with fail
  refine p1.mono ?_
  rintro e w12 ⟨rfl, hg12⟩
  have hB12 : Below w.heap.size w w12 := hB11.grown hg12 hB11.size (hK11.lows hB2.size)
  have hL12 := hL11.grown hg12 (hK11.far' hgl)
  have hU12 := hU11.kept hg12 a21
  have hV12 := hV11.kept hg12 a13
  have hY12 := hY11.kept hg12 b15
  clear p1 hg12 hB11 hL11 hK11 hU11 hV11 hY11 a12 a21 a13 b15
  have p2 := spoil_any _ _ U w12 (by omega) hU12
  go_wp2_with fail
  refine p2.mono ?_
  rintro e w13 ⟨rfl, hg13⟩
  have hB13 : Below w.heap.size w w13 := hB12.grown hg13 hB12.size (hU12.lows hB3.size)
  have hL13 := hL12.grown hg13 (hU12.far' hg3)
  have hV13 := hV12.kept hg13 a23
  have hY13 := hY12.kept hg13 b25
  clear p2 hg13 hB12 hL12 hU12 hV12 hY12 a23 b25
  have p3 := spoil_any _ _ V w13 (by omega) hV13
  go_wp2_with fail
  refine p3.mono ?_
  rintro e w14 ⟨rfl, hg14⟩
  have hB14 : Below w.heap.size w w14 := hB13.grown hg14 hB13.size (hV13.lows hB4.size)
  have hL14 := hL13.grown hg14 (hV13.far' hg4)
  have hY14 := hY13.kept hg14 b35
  clear p3 hg14 hB13 hL13 hV13 hY13 b35
  have k1 := kept_any B t tc _ g w14 (ht.kept hB14) h8 hL14
  go_wp2_with fail
  refine k1.mono ?_
  rintro e w15 ⟨rfl, hb15⟩
  have hB15 := below_then hB14 hB14.size hb15
  have hL15 := hL14.kept hb15
  have hY15 := hY14.below hb15
  clear k1 hb15 hB14 hL14 hY14
  have cU2 := cU (some ⟨g, 0, none⟩) (t.length + 3) (by omega) w15 (hl.kept hB15) hL15.ints (hT.kept hB15)
  go_wp2_with fail
  refine cU2.mono ?_
  rintro e w16 ⟨v7, rfl, hb16, hU16⟩
  have hB16 := below_then hB15 hB15.size hb16
  obtain ⟨A7, c7, rfl, i7⟩ := hU16.ints
  have s4 := same_self A7 A5 U c7 c5 w16 i7 (hY15.below hb16).ints'
  clear cU cU2 hb16 hB15 hL15 hY15 hU16 i7
  go_wp2_with fail
  refine s4.mono ?_
  rintro e w17 ⟨rfl, hb17⟩
  have hB17 := below_then hB16 hB16.size hb17
  have hq : (er == er) = true := beq_self_eq_true _
  go_wp2_with fail
  go_ret
  exact ⟨rfl, hB17⟩
end Go.Proofs.YtfhkbfofjjmbaaaDoor
