/- Names: what makes a text a name, and the walks of the program's and the document's tests of a name. Conditions: utf8's tables as laid. -/
import Derived.Test.YtfhkbfofjjmbaaaDoorProg
import Derived.Test.YtfhkbfofjjmbaaaDoorMem
import Derived.Ground.NamesProg
import Derived.WalkMore
import Derived.Shelf.Unicode.ValidAny
import Derived.Lib.MapLaws
import Derived.Laws.RangeAny
import Derived.Lib.TrimUEq
import Derived.BigQuiet
set_option linter.unusedVariables false
set_option linter.unusedSimpArgs false
namespace Go.Proofs
open Go.Shelf
def Tryd.laysValid_ren : Go.Shelf.Ren := ⟨fun | 196 => 43 | 259 => 51 | n => n, fun | 9 => 9 | 4 => 4 | 3 => 3 | 5 => 5 | 12 => 12 | 119 => 70 | 0 => 0 | 46 => 74 | 139 => 73 | 138 => 72 | 53 => 79 | n => n, fun | 3 => 0 | 4 => 1 | n => n⟩
theorem Tryd.laysValid : Go.Proofs.Lays.n196 Tryd.prog Tryd.laysValid_ren where
  mixed := by kernel_rfl
  f196 := Tryd.func43.trans (congrArg some (by kernel_rfl))
  f259 := Tryd.func51.trans (congrArg some (by kernel_rfl))
  t0 := Tryd.underlying0
  a0 := Tryd.isAgg0
  z0 := Tryd.sizeOf0
  v0 := Tryd.zeroValue0
  t3 := Tryd.underlying3
  a3 := Tryd.isAgg3
  z3 := Tryd.sizeOf3
  v3 := Tryd.zeroValue3
  t4 := Tryd.underlying4
  a4 := Tryd.isAgg4
  z4 := Tryd.sizeOf4
  v4 := Tryd.zeroValue4
  t5 := Tryd.underlying5
  a5 := Tryd.isAgg5
  z5 := Tryd.sizeOf5
  v5 := Tryd.zeroValue5
  t9 := Tryd.underlying9
  a9 := Tryd.isAgg9
  z9 := Tryd.sizeOf9
  v9 := Tryd.zeroValue9
  t12 := Tryd.underlying12
  a12 := Tryd.isAgg12
  z12 := Tryd.sizeOf12
  v12 := Tryd.zeroValue12
  t46 := Tryd.underlying74
  a46 := Tryd.isAgg74
  z46 := Tryd.sizeOf74
  v46 := Tryd.zeroValue74
  t53 := Tryd.underlying79
  a53 := Tryd.isAgg79
  z53 := Tryd.sizeOf79
  v53 := Tryd.zeroValue79
  t119 := Tryd.underlying70
  a119 := Tryd.isAgg70
  z119 := Tryd.sizeOf70
  t138 := Tryd.underlying72
  a138 := Tryd.isAgg72
  z138 := Tryd.sizeOf72
  v138 := Tryd.zeroValue72
  t139 := Tryd.underlying73
  a139 := Tryd.isAgg73
  z139 := Tryd.sizeOf73
  v139 := Tryd.zeroValue73
  g3 := by kernel_rfl
  g4 := by kernel_rfl
end Go.Proofs
namespace Go.Proofs.YtfhkbfofjjmbaaaDoor
open Go.RowKit Go.Lib

def letterR (r : Int) : Bool := decide ((97 ≤ r ∧ r ≤ 122) ∨ (65 ≤ r ∧ r ≤ 90) ∨ 128 ≤ r)
def moreR (r : Int) : Bool := letterR r || decide ((48 ≤ r ∧ r ≤ 57) ∨ r = 95 ∨ r = 39)
/-- The letters from a place on are what a name may have. -/
def nameFrom (s : ByteArray) : Nat → Nat → Bool
  | 0, _ => true
  | f + 1, pos => if pos < s.size then (if pos = 0 then letterR (Utf8.decode s pos).1 else moreR (Utf8.decode s pos).1) && nameFrom s f (pos + (Utf8.decode s pos).2) else true
def isName (s : ByteArray) : Bool := decide (s.size ≠ 0 ∧ s.size ≤ 32) && (validD s.data.toList && nameFrom s s.size 0)
/-- utf8's tables. -/
abbrev Tabs (w : World) : Prop := Lib.Utf8Tabs (Tryd.laysValid_ren.g 3) (Tryd.laysValid_ren.g 4) w
theorem Tabs.kept {w w' : World} (h : Tabs w) (hb : Below w.heap.size w w') : Tabs w' := Utf8Tabs_below h hb

set_option maxRecDepth 100000 in
theorem letter_any (r : Int) (w : World) : Calls Tryd.prog 44 #[.int .i32 r] w fun e w' => e = .returned (.bool (letterR r)) ∧ w = w' := by
  by_cases a1 : 97 ≤ r <;> by_cases a2 : r ≤ 122 <;> by_cases a3 : 65 ≤ r <;> by_cases a4 : r ≤ 90 <;> by_cases a5 : 128 ≤ r
  all_goals first | omega | skip
  all_goals
    go_enter Tryd.func44, Tryd.ntmps44
    go_wp2
    go_ret
    refine ⟨?_, rfl⟩
    simp [letterR, a1, a2, a3, a4, a5]
set_option maxRecDepth 100000 in
theorem refletter_any (r : Int) (w : World) : Calls Tryd.prog 47 #[.int .i32 r] w fun e w' => e = .returned (.bool (letterR r)) ∧ w = w' := by
  by_cases a1 : 97 ≤ r <;> by_cases a2 : r ≤ 122 <;> by_cases a3 : 65 ≤ r <;> by_cases a4 : r ≤ 90 <;> by_cases a5 : 128 ≤ r
  all_goals first | omega | skip
  all_goals
    go_enter Tryd.func47, Tryd.ntmps47
    go_wp2
    go_ret
    refine ⟨?_, rfl⟩
    simp [letterR, a1, a2, a3, a4, a5]
set_option maxRecDepth 100000 in
theorem refmore_any (r : Int) (w : World) : Calls Tryd.prog 48 #[.int .i32 r] w fun e w' => e = .returned (.bool (moreR r)) ∧ w = w' := by
  cases hl : letterR r
  · by_cases a1 : 48 ≤ r <;> by_cases a2 : r ≤ 57 <;> by_cases a3 : r = 95 <;> by_cases a4 : r = 39
    all_goals first | omega | skip
    all_goals
      have b3 : (r == 95) = decide (r = 95) := rfl
      have b4 : (r == 39) = decide (r = 39) := rfl
      go_enter Tryd.func48, Tryd.ntmps48
      go_wp2_with (go_at_call 47; refine (refletter_any _ _).mono ?_; rintro e w' ⟨rfl, rfl⟩)
      go_ret
      refine ⟨?_, rfl⟩
      simp [moreR, hl, a1, a2, a3, a4]
  · go_enter Tryd.func48, Tryd.ntmps48
    go_wp2_with (go_at_call 47; refine (refletter_any _ _).mono ?_; rintro e w' ⟨rfl, rfl⟩)
    go_ret
    refine ⟨?_, rfl⟩
    simp [moreR, hl]

/-! ### right UTF-8 -/
theorem encode_eq (r : Int) : (Utf8.encode r).data.toList = encodeRune r := by
  unfold Utf8.encode encodeRune encodeRuneZ
  by_cases h : (0 ≤ r ∧ r < 55296) ∨ (57344 ≤ r ∧ r ≤ 1114111)
  · have hv : Utf8.valid r = true := by unfold Utf8.valid; simp; omega
    obtain ⟨n, rfl⟩ : ∃ n : Nat, r = n := ⟨r.toNat, by omega⟩
    simp only [hv, if_true, Int.toNat_natCast]
    by_cases h1 : n < 128
    · rw [if_pos h1, if_pos (by omega : (0 : Int) ≤ (n : Int) ∧ (n : Int) ≤ 127)]; simp
    · rw [if_neg h1, if_neg (by omega : ¬ ((0 : Int) ≤ (n : Int) ∧ (n : Int) ≤ 127))]
      by_cases h2 : n < 2048
      · rw [if_pos h2, if_pos (by omega : (128 : Int) ≤ (n : Int) ∧ (n : Int) ≤ 2047)]
        have e1 : ((192 : Int) + n / 64).toNat = 192 + n / 64 := by omega
        have e2 : ((128 : Int) + n % 64).toNat = 128 + n % 64 := by omega
        simp [e1, e2]
      · rw [if_neg h2, if_neg (by omega : ¬ ((128 : Int) ≤ (n : Int) ∧ (n : Int) ≤ 2047))]
        by_cases h3 : n < 65536
        · rw [if_pos h3, if_pos (by omega : ((2048 : Int) ≤ (n : Int) ∧ (n : Int) < 55296) ∨ (57343 < (n : Int) ∧ (n : Int) ≤ 65535))]
          have e1 : ((224 : Int) + n / 4096).toNat = 224 + n / 4096 := by omega
          have e2 : ((128 : Int) + n / 64 % 64).toNat = 128 + n / 64 % 64 := by omega
          have e3 : ((128 : Int) + n % 64).toNat = 128 + n % 64 := by omega
          simp [e1, e2, e3]
        · rw [if_neg h3, if_neg (by omega : ¬ (((2048 : Int) ≤ (n : Int) ∧ (n : Int) < 55296) ∨ (57343 < (n : Int) ∧ (n : Int) ≤ 65535))), if_pos (by omega)]
          have e0 : ((240 : Int) + n / 262144).toNat = 240 + n / 262144 := by omega
          have e1 : ((128 : Int) + n / 4096 % 64).toNat = 128 + n / 4096 % 64 := by omega
          have e2 : ((128 : Int) + n / 64 % 64).toNat = 128 + n / 64 % 64 := by omega
          have e3 : ((128 : Int) + n % 64).toNat = 128 + n % 64 := by omega
          simp [e0, e1, e2, e3]
  · have hv : Utf8.valid r = false := by unfold Utf8.valid; simp; omega
    simp only [hv]
    rw [if_neg (by omega : ¬ (0 ≤ r ∧ r ≤ 127)), if_neg (by omega : ¬ (128 ≤ r ∧ r ≤ 2047)), if_neg (by omega : ¬ ((2048 ≤ r ∧ r < 55296) ∨ (57343 < r ∧ r ≤ 65535))), if_neg (by omega : ¬ (65536 ≤ r ∧ r ≤ 1114111))]
    simp only [Bool.false_eq_true, if_false]
    rfl
/-- What the document's test has gathered of a text, at a place. -/
structure Gathered (s : ByteArray) (pos : Nat) (T : ByteArray) : Prop where
  le : pos ≤ s.size
  small : T.size ≤ 3 * pos
  says : (validD s.data.toList = validD (s.data.toList.drop pos) ∧ T.data.toList = s.data.toList.take pos) ∨ (validD s.data.toList = false ∧ pos < T.size)
theorem size_list (s : ByteArray) : s.data.toList.length = s.size := by rw [Array.length_toList]; rfl
theorem Gathered.start (s : ByteArray) : Gathered s 0 ⟨#[]⟩ := ⟨Nat.zero_le _, by simp [ByteArray.size], .inl ⟨by simp, by simp⟩⟩
theorem Gathered.step {s T : ByteArray} {pos : Nat} (h : Gathered s pos T) (hp : pos < s.size) : Gathered s (pos + (Utf8.decode s pos).2) (T ++ Utf8.encode (Utf8.decode s pos).1) := by
  obtain ⟨h1, h2, h3⟩ := h
  have hne : s.data.toList.drop pos ≠ [] := by
    intro e
    have := congrArg List.length e
    simp only [List.length_drop, List.length_nil] at this
    rw [size_list] at this
    omega
  have hd := decodeL_drop s pos
  have hle := decodeL_le _ hne
  have hw := decodeL_width (s.data.toList.drop pos)
  have hsz : (T ++ Utf8.encode (Utf8.decode s pos).1).size = T.size + (Utf8.encode (Utf8.decode s pos).1).size := by simp [ByteArray.size_append]
  have hes : (Utf8.encode (Utf8.decode s pos).1).size = (encodeRune (Utf8.decode s pos).1).length := by rw [← encode_eq, size_list]
  have hst := validD_step _ hne
  rw [hd] at hle hw hst
  rw [List.length_drop, size_list] at hle
  by_cases hb : (Utf8.decode s pos).1 = 65533 ∧ (Utf8.decode s pos).2 = 1
  · have e3 : (encodeRune ((Utf8.decode s pos).1 : Int)).length = 3 := by rw [hb.1]; rfl
    rw [if_pos hb] at hst
    refine ⟨by omega, by rw [hsz, hes, e3, hb.2]; omega, .inr ⟨?_, ?_⟩⟩
    · rcases h3 with ⟨h, _⟩ | ⟨h, _⟩
      · rw [h, hst]
      · exact h
    · rw [hsz, hes, e3, hb.2]
      rcases h3 with ⟨_, h⟩ | ⟨_, h⟩
      · have := congrArg List.length h
        rw [List.length_take, size_list, size_list] at this
        omega
      · omega
  · have he := encode_decode _ hne (by rw [hd]; exact hb)
    rw [hd] at he
    have hlen : (encodeRune ((Utf8.decode s pos).1 : Int)).length = (Utf8.decode s pos).2 := by
      rw [he, List.length_take, List.length_drop, size_list]; omega
    rw [if_neg hb, List.drop_drop] at hst
    refine ⟨by omega, by rw [hsz, hes, hlen]; omega, ?_⟩
    rcases h3 with ⟨h, h'⟩ | ⟨h, h'⟩
    · refine .inl ⟨by rw [h, hst], ?_⟩
      rw [ByteArray.data_append, Array.toList_append, h', encode_eq, he, List.take_add]
    · exact .inr ⟨h, by rw [hsz, hes, hlen]; omega⟩
theorem Gathered.done {s T : ByteArray} {pos : Nat} (h : Gathered s pos T) (hp : ¬ pos < s.size) : (T.toList == s.toList) = validD s.data.toList := by
  obtain ⟨h1, h2, h3⟩ := h
  have e : pos = s.size := by omega
  subst e
  rw [ByteArray.toList_eq, ByteArray.toList_eq]
  rcases h3 with ⟨h, h'⟩ | ⟨h, h'⟩
  · rw [h, h', ← size_list, List.take_length, List.drop_length]
    simp [validD_nil]
  · rw [h, beq_eq_false_iff_ne]
    intro e
    have := congrArg List.length e
    rw [size_list, size_list] at this
    omega

set_option maxRecDepth 100000 in
theorem good_any (s : ByteArray) (w : World) (hs : s.size ≤ 32) : Calls Tryd.prog 46 #[.string s] w fun e w' => e = .returned (.bool (validD s.data.toList)) ∧ Below w.heap.size w w' := by
  go_enter Tryd.func46, Tryd.ntmps46
  go_wp2_with fail
  go_loopg [3] s.size (fun gk t wx => ∃ (pos : Nat) (T : ByteArray), wx = w.iter s pos ∧ t = .string T ∧ Aside (gk + pos = s.size) ∧ Aside (Gathered s pos T))
  case atStart => exact ⟨0, _, rfl, rfl, (rfl : s.size + 0 = s.size), Gathered.start s⟩
  case round =>
    obtain ⟨pos, T, rfl, rfl, hg, hG⟩ := hrel
    by_cases hp : pos < s.size
    · have hnx : ∀ ty, (Instr.next (.pointer (some ⟨w.heap.size, 0, none⟩)) true ty).run Tryd.prog (w.iter s pos) = _ := fun ty => run_next_any w s pos ty hp
      have HS := Lib.hid (hG.out.step hp)
      have hk := width_pos s pos
      generalize (Utf8.decode s pos).1 = r at hnx HS
      generalize (Utf8.decode s pos).2 = k at hnx HS hk
      have hE : ((Utf8.encode (r : Int)).size : Int) ≤ 8388608 := by
        have := (encodeRuneZ_length (r : Int)).2
        rw [← size_list, encode_eq, encodeRune, List.length_map]; omega
      have hT : (T.size : Int) ≤ 8388608 := by have := hG.out.small; have := hG.out.le; omega
      go_wp2_with fail
      go_roundg (s.size - (pos + k))
      case measure => have := hg.out; have := HS.out.le; omega
      case rel => exact ⟨pos + k, _, rfl, rfl, by have := HS.out.le; show _ = _; omega, HS.out⟩
    · have hnx : ∀ ty, (Instr.next (.pointer (some ⟨w.heap.size, 0, none⟩)) true ty).run Tryd.prog (w.iter s pos) = _ := fun ty => run_next_end w s pos ty hp
      go_wp2_with fail
      go_ret
      exact ⟨congrArg (fun b => Ending.returned (.bool b)) (hG.out.done hp), below_alloc0 _ _⟩

/-! ### the tests -/
theorem valid_any (s : ByteArray) (w : World) (hs : s.size ≤ 32) (hT : Tabs w) : Calls Tryd.prog 43 #[.string s] w fun e w' => e = .returned (.bool (validD s.data.toList)) ∧ Below w.heap.size w w' :=
  Any.utf8_ValidString Tryd.laysValid s w (by omega) hT

theorem nameFrom_end (s : ByteArray) (f pos : Nat) (h : ¬ pos < s.size) : nameFrom s f pos = true := by cases f <;> simp [nameFrom, h]
theorem nameFrom_step (s : ByteArray) (f pos : Nat) (h : pos < s.size) : nameFrom s (f + 1) pos = ((if pos = 0 then letterR (Utf8.decode s pos).1 else moreR (Utf8.decode s pos).1) && nameFrom s f (pos + (Utf8.decode s pos).2)) := by simp [nameFrom, h]

set_option maxRecDepth 100000 in
set_option maxHeartbeats 1000000 in
theorem named_any (s : ByteArray) (w : World) (hT : Tabs w) : Calls Tryd.prog 31 #[.string s] w fun e w' => e = .returned (.bool (isName s)) ∧ Below w.heap.size w w' := by
  unfold isName
  by_cases h0 : s.size = 0
  · obtain rfl : s = ⟨#[]⟩ := by
      cases s with
      | mk d => congr 1; exact Array.eq_empty_of_size_eq_zero h0
    go_enter Tryd.func31, Tryd.ntmps31
    go_wp2_with fail
    go_ret
    exact ⟨rfl, Below.refl _ _⟩
  have hne : s.toList.isEmpty = false := by
    cases hl : s.toList with
    | nil =>
      have := congrArg List.length hl
      rw [ByteArray.toList_eq, size_list] at this
      exact absurd this h0
    | cons _ _ => rfl
  by_cases h1 : s.size ≤ 32
  · have h1z : ¬ ((32 : Int) < (s.size : Int)) := by omega
    rw [decide_eq_true ⟨h0, h1⟩, Bool.true_and]
    have cV := valid_any s w h1 hT
    cases hv : validD s.data.toList with
    | false =>
      rw [hv] at cV
      go_enter Tryd.func31, Tryd.ntmps31
      go_wp2_with (go_at_call 43; refine cV.mono ?_; rintro e w' ⟨rfl, hb⟩)
      go_ret
      exact ⟨rfl, hb⟩
    | true =>
      rw [hv] at cV
      rw [Bool.true_and]
      go_enter Tryd.func31, Tryd.ntmps31
      go_wp2_with (go_at_call 43; refine cV.mono ?_; rintro e w' ⟨rfl, hb⟩)
      obtain ⟨w1, rfl⟩ : ∃ w1 : World, w1 = w' := ⟨_, rfl⟩
      clear cV hne h0
      go_loopg [3] s.size (fun gk t wx => ∃ (pos : Nat), wx = w1.iter s pos ∧ Aside (s.size ≤ gk + pos) ∧ Aside (nameFrom s s.size 0 = nameFrom s gk pos))
      case atStart => exact ⟨0, rfl, Nat.le_refl _, rfl⟩
      case round =>
        obtain ⟨pos, rfl, hg, hN⟩ := hrel
        by_cases hp : pos < s.size
        · cases gk with
          | zero => have := hg.out; omega
          | succ g =>
            have hnx : ∀ ty, (Instr.next (.pointer (some ⟨w1.heap.size, 0, none⟩)) true ty).run Tryd.prog (w1.iter s pos) = _ := fun ty => run_next_any w1 s pos ty hp
            have hst := hN.out.trans (nameFrom_step s g pos hp)
            have hk := width_pos s pos
            generalize ((Utf8.decode s pos).1 : Int) = r at hnx hst
            generalize (Utf8.decode s pos).2 = k at hnx hst hk
            have HST := Lib.hid hst
            clear hst hN
            cases hl : letterR r with
            | true =>
              go_wp2_with (go_at_call 44; refine (letter_any _ _).mono ?_; rintro e w' ⟨rfl, rfl⟩)
              go_roundg g
              case measure => omega
              case rel => exact ⟨pos + k, rfl, by have := hg.out; show _ ≤ _; omega, by have := HST.out; simp [moreR, hl] at this; exact this⟩
            | false =>
              by_cases h0 : 0 < pos
              · by_cases a1 : 48 ≤ r <;> by_cases a2 : r ≤ 57 <;> by_cases a3 : r = 95 <;> by_cases a4 : r = 39
                all_goals first | omega | skip
                all_goals cases hmm : moreR r
                all_goals first | (exfalso; rw [moreR, hl, Bool.false_or] at hmm; first | (have := of_decide_eq_true hmm; omega) | (have := of_decide_eq_false hmm; omega)) | skip
                all_goals
                  have hm := Lib.hid hmm
                  clear hmm
                  first | subst a3 | (have b3 : (r == 95) = false := beq_eq_false_iff_ne.2 a3)
                  first | subst a4 | (have b4 := beq_eq_false_iff_ne.2 a4)
                  go_wp2_with (go_at_call 44; refine (letter_any _ _).mono ?_; rintro e w' ⟨rfl, rfl⟩)
                  first
                  | (go_roundg g
                     case measure => omega
                     case rel => exact ⟨pos + k, rfl, by have := hg.out; show _ ≤ _; omega, by have := HST.out; rw [if_neg (by omega), hm.out, Bool.true_and] at this; exact this⟩)
                  | (go_ret
                     exact ⟨by have := HST.out; rw [if_neg (by omega), hm.out, Bool.false_and] at this; rw [this]; rfl, below_alloc hb hb.size _⟩)
              · obtain rfl : pos = 0 := by omega
                go_wp2_with (go_at_call 44; refine (letter_any _ _).mono ?_; rintro e w' ⟨rfl, rfl⟩)
                go_ret
                exact ⟨by have := HST.out; simp [hl] at this; rw [this]; rfl, below_alloc hb hb.size _⟩
        · have hnx : ∀ ty, (Instr.next (.pointer (some ⟨w1.heap.size, 0, none⟩)) true ty).run Tryd.prog (w1.iter s pos) = _ := fun ty => run_next_end w1 s pos ty hp
          go_wp2_with fail
          go_ret
          exact ⟨by rw [hN.out, nameFrom_end s _ _ hp]; rfl, below_alloc hb hb.size _⟩
  · have h1' : (32 : Int) < (s.size : Int) := by omega
    rw [decide_eq_false (fun h => h1 h.2), Bool.false_and]
    go_enter Tryd.func31, Tryd.ntmps31
    go_wp2_with fail
    go_ret
    exact ⟨rfl, Below.refl _ _⟩
set_option maxRecDepth 100000 in
set_option maxHeartbeats 1000000 in
theorem name_any (s : ByteArray) (w : World) : Calls Tryd.prog 34 #[.string s] w fun e w' => e = .returned (.bool (isName s)) ∧ Below w.heap.size w w' := by
  unfold isName
  by_cases h0 : s.size = 0
  · obtain rfl : s = ⟨#[]⟩ := by
      cases s with
      | mk d => congr 1; exact Array.eq_empty_of_size_eq_zero h0
    go_enter Tryd.func34, Tryd.ntmps34
    go_wp2_with fail
    go_ret
    exact ⟨rfl, Below.refl _ _⟩
  have hne : s.toList.isEmpty = false := by
    cases hl : s.toList with
    | nil =>
      have := congrArg List.length hl
      rw [ByteArray.toList_eq, size_list] at this
      exact absurd this h0
    | cons _ _ => rfl
  by_cases h1 : s.size ≤ 32
  · have h1z : ¬ ((32 : Int) < (s.size : Int)) := by omega
    rw [decide_eq_true ⟨h0, h1⟩, Bool.true_and]
    have cV := good_any s w h1
    cases hv : validD s.data.toList with
    | false =>
      rw [hv] at cV
      go_enter Tryd.func34, Tryd.ntmps34
      go_wp2_with (go_at_call 46; refine cV.mono ?_; rintro e w' ⟨rfl, hb⟩)
      go_ret
      exact ⟨rfl, hb⟩
    | true =>
      rw [hv] at cV
      rw [Bool.true_and]
      go_enter Tryd.func34, Tryd.ntmps34
      go_wp2_with (go_at_call 46; refine cV.mono ?_; rintro e w' ⟨rfl, hb⟩)
      obtain ⟨w1, rfl⟩ : ∃ w1 : World, w1 = w' := ⟨_, rfl⟩
      clear cV hne h0
      go_loopg [3] s.size (fun gk t wx => ∃ (pos : Nat), wx = w1.iter s pos ∧ Aside (s.size ≤ gk + pos) ∧ Aside (nameFrom s s.size 0 = nameFrom s gk pos))
      case atStart => exact ⟨0, rfl, Nat.le_refl _, rfl⟩
      case round =>
        obtain ⟨pos, rfl, hg, hN⟩ := hrel
        by_cases hp : pos < s.size
        · cases gk with
          | zero => have := hg.out; omega
          | succ g =>
            have hnx : ∀ ty, (Instr.next (.pointer (some ⟨w1.heap.size, 0, none⟩)) true ty).run Tryd.prog (w1.iter s pos) = _ := fun ty => run_next_any w1 s pos ty hp
            have hst := hN.out.trans (nameFrom_step s g pos hp)
            have hk := width_pos s pos
            generalize ((Utf8.decode s pos).1 : Int) = r at hnx hst
            generalize (Utf8.decode s pos).2 = k at hnx hst hk
            have HST := Lib.hid hst
            clear hst hN
            by_cases h0 : 0 < pos
            · have hz : ((pos : Int) == 0) = false := beq_eq_false_iff_ne.2 (by omega)
              cases hm : moreR r with
              | true =>
                go_wp2_with (first | (go_at_call 47; refine (refletter_any _ _).mono ?_; rintro e w' ⟨rfl, rfl⟩) | (go_at_call 48; refine (refmore_any _ _).mono ?_; rintro e w' ⟨rfl, rfl⟩))
                go_roundg g
                case measure => omega
                case rel => exact ⟨pos + k, rfl, by have := hg.out; show _ ≤ _; omega, by have := HST.out; rw [if_neg (by omega), hm, Bool.true_and] at this; exact this⟩
              | false =>
                go_wp2_with (first | (go_at_call 47; refine (refletter_any _ _).mono ?_; rintro e w' ⟨rfl, rfl⟩) | (go_at_call 48; refine (refmore_any _ _).mono ?_; rintro e w' ⟨rfl, rfl⟩))
                go_ret
                exact ⟨by have := HST.out; rw [if_neg (by omega), hm, Bool.false_and] at this; rw [this]; rfl, below_alloc hb hb.size _⟩
            · obtain rfl : pos = 0 := by omega
              cases hl : letterR r with
              | true =>
                have hm : moreR r = true := by rw [moreR, hl]; rfl
                go_wp2_with (first | (go_at_call 47; refine (refletter_any _ _).mono ?_; rintro e w' ⟨rfl, rfl⟩) | (go_at_call 48; refine (refmore_any _ _).mono ?_; rintro e w' ⟨rfl, rfl⟩))
                go_roundg g
                case measure => omega
                case rel => exact ⟨k, rfl, by have := hg.out; show _ ≤ _; omega, by have := HST.out; simp [hl] at this; exact this⟩
              | false =>
                go_wp2_with (first | (go_at_call 47; refine (refletter_any _ _).mono ?_; rintro e w' ⟨rfl, rfl⟩) | (go_at_call 48; refine (refmore_any _ _).mono ?_; rintro e w' ⟨rfl, rfl⟩))
                go_ret
                exact ⟨by have := HST.out; simp [hl] at this; rw [this]; rfl, below_alloc hb hb.size _⟩
        · have hnx : ∀ ty, (Instr.next (.pointer (some ⟨w1.heap.size, 0, none⟩)) true ty).run Tryd.prog (w1.iter s pos) = _ := fun ty => run_next_end w1 s pos ty hp
          go_wp2_with fail
          go_ret
          exact ⟨by rw [hN.out, nameFrom_end s _ _ hp]; rfl, below_alloc hb hb.size _⟩
  · have h1' : (32 : Int) < (s.size : Int) := by omega
    rw [decide_eq_false (fun h => h1 h.2), Bool.false_and]
    go_enter Tryd.func34, Tryd.ntmps34
    go_wp2_with fail
    go_ret
    exact ⟨rfl, Below.refl _ _⟩
/-- A marked name. -/
def isMarked (s : ByteArray) : Bool := if h : 0 < s.size then decide ((s[s.size - 1]'(by omega)).toNat = 35) && isName (s.extract 0 (s.size - 1)) else false
set_option maxRecDepth 100000 in
theorem marked_any (s : ByteArray) (w : World) (hs : s.size ≤ 9223372036854775807) : Calls Tryd.prog 35 #[.string s] w fun e w' => e = .returned (.bool (isMarked s)) ∧ Below w.heap.size w w' := by
  unfold isMarked
  by_cases h0 : s.size = 0
  · have hz : ¬ ((0 : Int) < (s.size : Int)) := by omega
    rw [dif_neg (by omega)]
    go_enter Tryd.func35, Tryd.ntmps35
    go_wp2_with fail
    go_ret
    exact ⟨rfl, Below.refl _ _⟩
  have hz : (0 : Int) < (s.size : Int) := by omega
  have hz1 : (0 : Int) ≤ (s.size : Int) - 1 := by omega
  have hz2 : (s.size : Int) - 1 < (s.size : Int) := by omega
  have hz3 : (s.size : Int) - 1 ≤ 9223372036854775807 := by omega
  rw [dif_pos (by omega)]
  by_cases h1 : (s[s.size - 1]'(by omega)).toNat = 35
  · rw [decide_eq_true h1, Bool.true_and]
    have hb : (((s[s.size - 1]'(by omega)).toNat : Int) == 35) = true := beq_iff_eq.2 (by omega)
    go_enter Tryd.func35, Tryd.ntmps35
    go_wp2_with (go_at_call 34; refine (name_any _ _).mono ?_; rintro e w' ⟨rfl, hb⟩)
    go_ret
    exact ⟨rfl, hb⟩
  · rw [decide_eq_false h1, Bool.false_and]
    have hb : (((s[s.size - 1]'(by omega)).toNat : Int) == 35) = false := beq_eq_false_iff_ne.2 (by omega)
    go_enter Tryd.func35, Tryd.ntmps35
    go_wp2_with fail
    go_ret
    exact ⟨rfl, Below.refl _ _⟩
end Go.Proofs.YtfhkbfofjjmbaaaDoor
