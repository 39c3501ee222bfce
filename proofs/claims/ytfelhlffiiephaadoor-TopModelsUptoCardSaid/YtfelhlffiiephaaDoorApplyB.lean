/- The walk of the program's way to lay binds into a row: its map, its closure, its loop. Conditions: utf8's tables as laid. -/
import Derived.Test.YtfelhlffiiephaaDoorLaid
import Derived.Test.YtfelhlffiiephaaDoorMaps
import Derived.Test.YtfelhlffiiephaaDoorSubstP
set_option linter.unusedVariables false
set_option linter.unusedSimpArgs false
namespace Go.Proofs.YtfelhlffiiephaaDoor
open Go.RowKit Go.Lib

theorem bindsFrom_zero {l : List Sy} {s : List Bd} : ∀ (f i : Nat), s.length ≤ f + i → bindsFrom l s f i = 0 → ∀ k, i ≤ k → k < s.length → bindErr l s k = 0
  | 0, i, hl, _, k, h1, h2 => by omega
  | f + 1, i, hl, h, k, h1, h2 => by
    unfold bindsFrom at h
    by_cases hz : bindErr l s i = 0
    · rw [if_pos hz] at h
      by_cases hk : k = i
      · rw [hk]; exact hz
      · exact bindsFrom_zero f (i + 1) (by omega) h k (by omega) h2
    · rw [if_neg hz] at h; exact absurd h hz
/-- Binds that may be. -/
structure Right (l : List Sy) (s : List Bd) : Prop where
  sig : sigErr l = 0
  low : ∀ k, k < s.length → 0 ≤ (s.getD k bd0).1 ∧ (s.getD k bd0).1 < 1048576
  inc : ∀ k, k + 1 < s.length → (s.getD k bd0).1 < (s.getD (k + 1) bd0).1
  row : ∀ k, k < s.length → rowErr l (s.getD k bd0).2 = 0
theorem right_of {l : List Sy} {s : List Bd} (h : substErr l s = 0) : Right l s := by
  unfold substErr at h
  have hs : sigErr l = 0 := by
    by_cases hs : sigErr l = 0
    · exact hs
    · rw [if_pos hs] at h; exact h
  rw [if_neg (by simp [hs])] at h
  have hb := bindsFrom_zero s.length 0 (by omega) h
  have hb' : ∀ k, k < s.length → ¬ ((s.getD k bd0).1 < 0 ∨ 1048576 ≤ (s.getD k bd0).1) ∧ ¬ (0 < k ∧ (s.getD k bd0).1 ≤ (s.getD (k - 1) bd0).1) ∧ rowErr l (s.getD k bd0).2 = 0 := fun k hk => by
    have := hb k (Nat.zero_le _) hk
    unfold bindErr at this
    split at this
    · cases this
    · split at this
      · cases this
      · exact ⟨by assumption, by assumption, this⟩
  refine ⟨hs, fun k hk => ?_, fun k hk => ?_, fun k hk => (hb' k hk).2.2⟩
  · have := (hb' k hk).1; omega
  · have := (hb' (k + 1) hk).2.1
    rw [Nat.add_sub_cancel] at this
    omega
theorem Right.lt {l : List Sy} {s : List Bd} (h : Right l s) : ∀ k j, k < j → j < s.length → (s.getD k bd0).1 < (s.getD j bd0).1
  | k, 0, hkj, _ => by omega
  | k, j + 1, hkj, hj => by
    have h1 := h.inc j hj
    by_cases e : k = j
    · rw [e]; exact h1
    · have := h.lt k j (by omega) (by omega); omega
theorem bound_snoc (s : List Bd) (b : Bd) (v : Int) : boundIn (s ++ [b]) v = (boundIn s v).or (if b.1 = v then some b.2 else none) := by
  unfold boundIn
  rw [List.find?_append]
  cases s.find? (fun b => b.1 == v) with
  | some x => simp
  | none =>
    simp only [Option.none_or, Option.map_none, List.find?_cons, List.find?_nil]
    by_cases e : b.1 = v
    · simp [e]
    · rw [show (b.1 == v) = false from beq_eq_false_iff_ne.2 e, if_neg e]; rfl
theorem bound_none {s : List Bd} {v : Int} (h : ∀ k, k < s.length → (s.getD k bd0).1 ≠ v) : boundIn s v = none := bound_miss h

/-- A block is the map of so many binds. -/
def MapOf (w0 w : World) (mb : Nat) (s : List Bd) (k : Nat) : Prop :=
  ∃ n f, n ≤ k ∧ MapIs w mb n f ∧ ∀ c, i64ok c → (boundIn (s.take k) (-1 - c) = none → f c = none) ∧ ∀ t, boundIn (s.take k) (-1 - c) = some t → ∃ x u, f c = some (.agg #[.int .i64 x, u]) ∧ RowV w0 u t
theorem MapOf.lt {w0 w : World} {mb k : Nat} {s : List Bd} (h : MapOf w0 w mb s k) : mb < w.heap.size := by
  obtain ⟨n, f, _, hm, _⟩ := h
  exact hm.lt
theorem MapOf.kept {w0 w w' : World} {mb k : Nat} {s : List Bd} {row : Option Nat} (h : MapOf w0 w mb s k) (hg : w.grownBy w' row) (hne : some mb ≠ row) : MapOf w0 w' mb s k := by
  obtain ⟨n, f, hn, hm, hf⟩ := h
  exact ⟨n, f, hn, hm.kept hg hne, hf⟩
theorem MapOf.below {w0 w w' : World} {mb k : Nat} {s : List Bd} (h : MapOf w0 w mb s k) (hb : Below w.heap.size w w') : MapOf w0 w' mb s k := by
  obtain ⟨n, f, hn, hm, hf⟩ := h
  exact ⟨n, f, hn, hm.below hb, hf⟩
theorem MapOf.more {l : List Sy} {w0 w' : World} {mb k n : Nat} {s : List Bd} {f : Int → Option Value} {x : Int} {t : List Int} {u : Value} (hR : Right l s) (hk : k < s.length) (hx : s.getD k bd0 = (x, t)) (hu : RowV w0 u t) (hn : n ≤ k)
    (hm : MapIs w' mb (if (f (-1 - x)).isSome then n else n + 1) (fun d => if d = -1 - x then some (.agg #[.int .i64 x, u]) else f d))
    (hf : ∀ c, i64ok c → (boundIn (s.take k) (-1 - c) = none → f c = none) ∧ ∀ t, boundIn (s.take k) (-1 - c) = some t → ∃ x u, f c = some (.agg #[.int .i64 x, u]) ∧ RowV w0 u t) : MapOf w0 w' mb s (k + 1) := by
  have hlow := hR.low k hk
  rw [hx] at hlow
  refine ⟨_, _, ?_, hm, fun c hc => ?_⟩
  · split <;> omega
  · rw [take_succ' s bd0 hk, hx, bound_snoc]
    have hnone : boundIn (s.take k) x = none := bound_none fun j hj => by
      have hj' : j < k := by simp at hj; omega
      have := hR.lt j k hj' hk
      rw [hx] at this
      have e : (s.take k).getD j bd0 = s.getD j bd0 := by simp [List.getD_eq_getElem?_getD, List.getElem?_take, hj']
      rw [e]
      have h2 : (s.getD j bd0).1 < x := this
      omega
    by_cases e : c = -1 - x
    · subst e
      have e2 : -1 - (-1 - x) = x := by omega
      rw [e2, hnone]
      simp only [Option.none_or, if_true]
      exact ⟨fun h => by simp at h, fun t' h => by cases h; exact ⟨x, u, rfl, hu⟩⟩
    · have e2 : ¬ x = -1 - c := by omega
      simp only [if_neg e2, if_neg e, Option.or_none]
      exact hf c hc

theorem infoI1 : (Tryd.prog.info? 3).map (fun i => (i.zero, i.size, i.bytes)) = some (some (.int .i64 0), 1, 8) := infoInt
theorem zeroBind (w : World) : (zeroValue 40).run Tryd.prog w = .ok (.agg #[.int .i64 0, .slice none 0 0]) w := by kernel_rfl
set_option maxRecDepth 100000 in
set_option maxHeartbeats 2000000 in
theorem piece_any (s : List Bd) (cb mb : Nat) (c : Int) (hc : i64ok c) (hneg : c < 0) (w0 w : World) (hcell : w.cell? ⟨cb, 0, none⟩ = some (.map (some mb))) (hM : MapOf w0 w mb s s.length) (hB : Below w0.heap.size w0 w) :
    Calls Tryd.prog 47 #[.int .i64 c, .pointer (some ⟨cb, 0, none⟩)] w fun e w' => ∃ u, e = .returned u ∧ Below w.heap.size w w' ∧ RowV w' u (become s c) := by
  obtain ⟨n, f, _, hm, hf⟩ := hM
  rw [List.take_length] at hf
  have hl := hm.look Tryd.underlying107 (zeroBind w) hc
  obtain ⟨f1, f2⟩ := hf c hc
  have hcb : cb < w.heap.size := World.block_lt_of_cell? w _ hcell
  cases hb : boundIn s (-1 - c) with
  | none =>
    have hbc : become s c = [c] := by unfold become; rw [if_pos hneg, hb]; rfl
    rw [f1 hb] at hl
    rw [hbc]
    simp only [Option.getD_none, Option.isSome_none] at hl
    clear f1 f2 hb hbc hf hm
    go_enter Tryd.func47, Tryd.ntmps47
    go_wp2_with fail
    go_ret
    exact ⟨_, rfl, below_alloc (below_alloc0 _ _) (by simp) _, RowV.fresh [c] _ (by simp) (by simp) (fun y hy => by simp at hy; subst hy; exact hc)⟩
  | some t =>
    obtain ⟨x, u, hfu, hu⟩ := f2 t hb
    have hbc : become s c = t := by unfold become; rw [if_pos hneg, hb]; rfl
    rw [hfu] at hl
    rw [hbc]
    simp only [Option.getD_some, Option.isSome_some] at hl
    obtain ⟨C, d, rfl, r1, r2, r3, r4⟩ := hu
    clear f1 f2 hb hbc hf hm
    go_enter Tryd.func47, Tryd.ntmps47
    go_wp2_with fail
    go_ret
    exact ⟨_, rfl, below_alloc0 _ _, C, d, rfl, r1, r2, r3, (r4.kept hB).kept (below_alloc0 _ _)⟩

set_option maxRecDepth 100000 in
set_option maxHeartbeats 4000000 in
theorem laid_any (B : Option Addr) (s : List Bd) (t : List Int) (tc cb mb : Nat) (w0 w : World) (ht : Ints w B t) (hcell : w.cell? ⟨cb, 0, none⟩ = some (.map (some mb))) (hM : MapOf w0 w mb s s.length) (hB0 : Below w0.heap.size w0 w)
    (hsr : ∀ x ∈ s, ∀ y ∈ x.2, -9223372036854775808 ≤ y ∧ y ≤ 9223372036854775807) :
    Calls Tryd.prog 46 #[.slice B t.length tc, .func (.func 47) #[] #[.pointer (some ⟨cb, 0, none⟩)]] w fun e w' =>
      ∃ v, e = .returned (.tuple #[v, .int .i64 (if (laidOn s [] t).isSome then 0 else 2)]) ∧ Below w.heap.size w w' ∧ RowO w' w.heap.size v ((laidOn s [] t).getD []) := by
  have m2 := ht.2.1
  obtain ⟨hb, hhb⟩ : ∃ x, x = w.heap.size := ⟨_, rfl⟩
  generalize hR : laidOn s [] t = R
  have HR := Lib.hid hR
  generalize hq : (if R.isSome then (0 : Int) else 2) = q
  have HQ := Lib.hid hq
  clear hq
  have HSR := Lib.hid hsr
  clear hR hsr
  go_enter Tryd.func46, Tryd.ntmps46
  go_wp2_with fail
  have HHB := Lib.hid hhb
  clear hhb
  go_loopg [6, 12] t.length (fun gk v i wr => ∃ (k : Nat) (acc : List Int), Aside (gk + k = t.length) ∧ i = .int .i64 k ∧ Below hb w wr ∧ RowO wr hb v acc ∧ acc.length ≤ 512 ∧ Aside (R = laidOn s acc (t.drop k)))
  case atStart => exact ⟨0, [], (rfl : t.length + 0 = _), rfl, by rw [HHB.out]; exact Below.refl _ _, RowO.nil _ _, by simp, by rw [List.drop_zero]; exact HR.out.symm⟩
  case round =>
    obtain ⟨k, acc, hg, rfl, hB, hO, h512, hE⟩ := hrel
    have hk : k ≤ t.length := by have := hg.out; omega
    have hHs : hb ≤ wr.heap.size := by have := hB.size; rw [HHB.out]; exact this
    obtain ⟨AO, cO, rfl, hnO⟩ := own_slice hO.1
    have HO := Lib.hid hO
    have hO1 := hO.1
    clear hO
    by_cases hlt : k < t.length
    · have hB' : Below w.heap.size w wr := by rw [← HHB.out]; exact hB
      have ht' := ht.kept hB'
      obtain ⟨b, off, x, rfl, hx, hx1, hx2, hxc⟩ := ht'.at_ hlt
      have HE : Hid (R = if 512 < acc.length + (become s x).length then none else laidOn s (acc ++ become s x) (t.drop (k + 1))) := Lib.hid (hE.out.trans (laid_step hlt hx))
      have HX := Lib.hid hx
      clear hx hE
      have hal := below_alloc0 wr (.cells #[.int .i64 x] 3)
      have hB2 := below_alloc hB hHs (.cells #[.int .i64 x] 3)
      have hN2 := Nat.le_trans hHs hal.size
      by_cases hneg : x < 0
      · obtain ⟨p, hp⟩ : ∃ p, p = become s x := ⟨_, rfl⟩
        have cP := piece_any s cb mb x ⟨hx1, hx2⟩ hneg w0 (wr.alloc (.cells #[.int .i64 x] 3)) (cell_kept hal (cell_kept hB' hcell)) ((hM.below hB').below hal) (below_then (below_then hB0 hB0.size hB') (Nat.le_trans hB0.size hB'.size) hal)
        rw [← hp] at cP
        rw [← hp] at HE
        have HPR : Hid (∀ y ∈ p, -9223372036854775808 ≤ y ∧ y ≤ 9223372036854775807) := Lib.hid (by rw [hp]; exact become_range HSR.out ⟨hx1, hx2⟩)
        clear hp
        by_cases hbig : 512 < acc.length + p.length
        · have hbig' : (512 : Int) - (acc.length : Int) < (p.length : Int) := by omega
          go_wp2_with (go_at_call 47; refine cP.mono ?_; rintro e w2 ⟨u, rfl, hb2, C, d, rfl, hd1, hd2, h8, hti⟩)
          go_ret2
          have hr := HE.out.trans (if_pos hbig)
          have hq := HQ.out
          subst hr
          subst hq
          exact ⟨_, rfl, by rw [← HHB.out]; exact below_then hB2 hN2 hb2, RowO.nil _ _⟩
        · have hbig' : ¬ ((512 : Int) - (acc.length : Int) < (p.length : Int)) := by omega
          go_wp2_with (first
            | (at_builtin; refine push_all (.tmp 29) (.tmp 30) 38 3 (.int .i64 0) 1 8 rfl rfl Tryd.underlying38 infoInt rfl (by decide) (by decide) hb _ acc.length (icells acc) (icells p) rfl (own_kept hO1 (below_then hal hal.size hb2)) C p.length d rfl hd2 (icells_length _) hti.cells (icells_one _) (by omega) (Nat.le_trans hHs (Nat.le_trans hal.size hb2.size)) ?_; intro v' w3 ho3 hg3 ha3)
            | (go_at_call 47; refine cP.mono ?_; rintro e w2 ⟨u, rfl, hb2, C, d, rfl, hd1, hd2, h8, hti⟩))
          go_roundg (t.length - (k + 1))
          case measure => have := hg.out; omega
          case rel =>
            have hB3 := below_then hB2 hN2 hb2
            refine ⟨k + 1, acc ++ p, by have := hg.out; show _ = _; omega, by go_num, hB3.grown hg3 (Nat.le_trans hN2 hb2.size) (fun j hj => (hO1.lt j hj).1), RowO.pushed ho3 (by omega) HO.out.2.2 HPR.out, by rw [List.length_append]; omega, ?_⟩
            exact HE.out.trans (if_neg hbig)
      · have hbc : become s x = [x] := by unfold become; rw [if_neg hneg]
        rw [hbc] at HE
        clear hbc
        by_cases hbig : 512 < acc.length + 1
        · have hbig' : (512 : Int) - (acc.length : Int) < 1 := by omega
          go_wp2_with fail
          go_ret2
          have hr := HE.out.trans (if_pos hbig)
          have hq := HQ.out
          subst hr
          subst hq
          exact ⟨_, rfl, by rw [← HHB.out]; exact hB2, RowO.nil _ _⟩
        · have hbig' : ¬ ((512 : Int) - (acc.length : Int) < 1) := by omega
          have hnew := (one_cells (w := wr.alloc (.cells #[.int .i64 x] 3)) (b := wr.heap.size) (o := 0) (x := x) (by rw [World.cell?_alloc_new]; rfl))
          go_wp2_with (at_builtin; refine push_all (.tmp 29) (.tmp 30) 38 3 (.int .i64 0) 1 8 rfl rfl Tryd.underlying38 infoInt rfl (by decide) (by decide) hb _ acc.length (icells acc) (icells [x]) rfl (hO1.alloc _) (some ⟨wr.heap.size, 0, none⟩) 1 1 rfl (fun h => by cases h) (icells_length _) hnew (icells_one _) (by omega) (Nat.le_trans hHs hal.size) ?_; intro v' w3 ho3 hg3 ha3)
          go_roundg (t.length - (k + 1))
          case measure => have := hg.out; omega
          case rel =>
            refine ⟨k + 1, acc ++ [x], by have := hg.out; show _ = _; omega, by go_num, hB2.grown hg3 (Nat.le_trans hHs hal.size) (fun j hj => (hO1.lt j hj).1), RowO.pushed ho3 (by simp only [List.length_cons, List.length_nil]; omega) HO.out.2.2 (fun y hy => by simp at hy; subst hy; exact ⟨hx1, hx2⟩), by rw [List.length_append]; show acc.length + 1 ≤ 512; omega, ?_⟩
            exact HE.out.trans (if_neg hbig)
    · have hkn : k = t.length := by omega
      subst hkn
      go_wp2_with fail
      go_ret2
      have hr := hE.out.trans laid_end
      have hq := HQ.out
      subst hr
      subst hq
      exact ⟨_, rfl, by rw [← HHB.out]; exact hB, by rw [← HHB.out]; exact HO.out⟩

theorem run_makeMap_hint (n : Int) (w : World) : (Instr.makeMap 107 (some (.int .i64 n))).run Tryd.prog w = .ok (.map (some w.heap.size)) (w.alloc (.map #[] 0)) := by kernel_rfl
set_option maxRecDepth 100000 in
set_option maxHeartbeats 4000000 in
theorem apply_any (A B C : Option Addr) (l : List Sy) (s : List Bd) (t : List Int) (sc c tc : Nat) (hcap : l.length ≤ sc) (w : World) (hl : Sigs w A l) (hs : Binds w B s) (ht : Ints w C t) (hT : Tabs w) :
    Calls Tryd.prog 39 #[.slice A l.length sc, .slice B s.length c, .slice C t.length tc] w fun e w' =>
      ∃ v, e = .returned (.tuple #[v, .int .i64 (applyErr l s t)]) ∧ Below w.heap.size w w' ∧ RowO w' w.heap.size v (applied l s t) := by
  have m1 := hs.1
  have cS := subst_check_any A B l s sc c hcap w hl hs hT
  have cT := fun W h1 h2 h3 => check_any A C l t l.length sc t.length tc rfl rfl hcap W h1 h2 h3
  have hRight := right_of (l := l) (s := s)
  unfold applied applyErr
  generalize substErr l s = e1 at cS hRight ⊢
  generalize termErr l t = e2 at cT ⊢
  by_cases h1 : e1 = 0
  · subst h1
    by_cases h2 : e2 = 0
    · subst h2
      have hR := Lib.hid (hRight rfl)
      clear hRight
      simp only [ne_eq, eq_self_iff_true, not_true_eq_false, if_false, ite_self]
      have hmk := run_makeMap_hint
      have hav : (if (if (laidOn s [] t).isSome = true then (0 : Int) else 2) = 0 then (laidOn s [] t).getD [] else []) = (laidOn s [] t).getD [] := by
        cases laidOn s [] t <;> rfl
      rw [hav]
      clear hav
      generalize hq : (if (laidOn s [] t).isSome = true then (0 : Int) else 2) = q
      generalize hrow : (laidOn s [] t).getD [] = row
      have HQ := Lib.hid hq
      have HROW := Lib.hid hrow
      clear hq hrow
      go_enter Tryd.func39, Tryd.ntmps39
      go_wp2_with (first
        | (go_at_call 37; refine cS.mono ?_; rintro e w1 ⟨rfl, hb1⟩; have hl1 := hl.kept hb1; have hs1 := hs.kept hb1; have ht1 := ht.kept hb1; have hT1 := hT.kept hb1)
        | (go_at_call 11; refine (cT _ hl1 ht1 hT1).mono ?_; rintro e w2 ⟨rfl, hb2⟩; have hs2 := hs1.kept hb2; have ht2 := ht1.kept hb2))
      obtain ⟨mb, hmb⟩ : ∃ x, x = w2.heap.size := ⟨_, rfl⟩
      have hst : ∃ w3, w3 = (w2.alloc (.map #[] 0)).alloc (.cells #[.map (some w2.heap.size)] 107) := ⟨_, rfl⟩
      obtain ⟨w3, hw3⟩ := hst
      have hb3 : Below w2.heap.size w2 w3 := by rw [hw3]; exact below_alloc (below_alloc0 _ _) (by simp) _
      have hc3 : w3.cell? ⟨mb + 1, 0, none⟩ = some (.map (some mb)) := by rw [hw3, hmb]; simp
      have hm3 : MapOf w2 w3 mb s 0 := ⟨0, fun _ => none, Nat.le_refl _, by rw [hw3, hmb]; exact (MapIs.made w2).below (below_alloc0 _ _), fun c hc => ⟨fun _ => rfl, fun t h => by simp [boundIn] at h⟩⟩
      have hsr := hs.range
      rw [← hw3, ← hmb]
      rw [← hmb] at hb3
      have HMB := Lib.hid hmb
      have HSR := Lib.hid hsr
      clear hw3 hmb cS cT hmk hsr hl1 hs1 ht1 hT1
      go_loopg [30] s.length (fun gk i wr => ∃ k : Nat, Aside (gk + k = s.length) ∧ i = .int .i64 k ∧ Below mb w2 wr ∧ wr.cell? ⟨mb + 1, 0, none⟩ = some (.map (some mb)) ∧ MapOf w2 wr mb s k)
      case atStart => exact ⟨0, (rfl : s.length + 0 = _), rfl, hb3, hc3, hm3⟩
      case round =>
        clear hb3 hc3 hm3
        obtain ⟨k, hg, rfl, hB, hc, hM⟩ := hrel
        have hk : k ≤ s.length := by have := hg.out; omega
        have hB' : Below w2.heap.size w2 wr := by rw [← HMB.out]; exact hB
        have hws : w2.heap.size ≤ wr.heap.size := hB'.size
        by_cases hlt : k < s.length
        · have hs' := hs2.kept hB'
          obtain ⟨b, off, x, u, D, d, rfl, hx, hx1, hx2, hc1, hc2, hd1, hd2, h8, hu⟩ := hs'.at_ hlt
          obtain ⟨_, _, x', u', D', d', hBe, hx', _, _, hc1', hc2', hd1', hd2', h8', hu'⟩ := hs2.at_ hlt
          injection hBe with hBe
          injection hBe with e1 e2 _
          subst e1 e2
          obtain ⟨rfl, rfl⟩ : x = x' ∧ u = u' := by rw [hx] at hx'; exact ⟨(Prod.mk.inj hx').1, (Prod.mk.inj hx').2⟩
          have e3 := hc2.symm.trans (cell_kept hB' hc2')
          injection e3 with e3
          injection e3 with e4 _ e5
          subst e4 e5
          have hlow := hR.out.low k hlt
          rw [hx] at hlow
          obtain ⟨hlow1, hlow2⟩ : 0 ≤ x ∧ x < 1048576 := hlow
          have hcb : mb + 1 < wr.heap.size := World.block_lt_of_cell? wr _ hc
          have HX := Lib.hid hx
          obtain ⟨n, f, hn, hm, hf⟩ := hM
          have HF := Lib.hid hf
          have hal := below_alloc0 wr (.cells #[.int .i64 x, .slice D u.length d] 40)
          have hN2 : mb ≤ (wr.alloc (.cells #[.int .i64 x, .slice D u.length d] 40)).heap.size := by simp; omega
          have hB2 := below_alloc hB (by omega) (.cells #[.int .i64 x, .slice D u.length d] 40)
          have hca := cell_kept hal hc
          have HRV : Hid (RowV w2 (.slice D u.length d) u) := Lib.hid ⟨D, d, rfl, hd1, hd2, h8, hu'⟩
          clear hx hx' hf hc1' hc2' hu hu' hs'
          go_wp2_with (at_mapUpdate; refine wpList_put rfl _ _ _ 107 40 rfl Tryd.underlying107 mb n f rfl (hm.below hal) (by omega) (-1 - x) (.agg #[.int .i64 x, .slice D u.length d]) rfl rfl ⟨by omega, by omega⟩ ?_; intro w5 hm5 hg5)
          go_roundg (s.length - (k + 1))
          case measure => have := hg.out; omega
          case rel => exact ⟨k + 1, by have := hg.out; show _ = _; omega, by go_num, hB2.grown hg5 hN2 (fun j hj => by cases hj; exact Nat.le_refl _), hg5.cell hca (by simp), MapOf.more hR.out hlt HX.out HRV.out hn hm5 HF.out⟩
        · have hkn : k = s.length := by omega
          subst hkn
          have cL := fun tc' => laid_any C s t tc' (mb + 1) mb w2 wr (ht2.kept hB') hc hM hB' HSR.out
          simp only [HQ.out, HROW.out] at cL
          have hmf : ∀ (fn : Fn) (first cap : Array Value) (w : World), (Instr.makeFunc fn first cap).run Tryd.prog w = .ok (.func fn first cap) w := fun _ _ _ _ => rfl
          go_wp2_with (go_at_call 46; refine (cL _).mono ?_; rintro e w6 ⟨v, rfl, hb6, hO6⟩)
          go_ret2
          exact ⟨_, rfl, below_then hb1 hb1.size (below_then hb2 hb2.size (below_then hB' hws hb6)), hO6.base (Nat.le_trans hb1.size (Nat.le_trans hb2.size hws))⟩
    · have hq1 : (e2 == 0) = false := beq_eq_false_iff_ne.2 h2
      have hq2 : (e2 != 0) = true := bne_iff_ne.2 h2
      simp only [ne_eq, eq_self_iff_true, not_true_eq_false, not_false_eq_true, h2, if_true, if_false]
      clear h2
      go_enter Tryd.func39, Tryd.ntmps39
      go_wp2_with (first
        | (go_at_call 37; refine cS.mono ?_; rintro e w1 ⟨rfl, hb1⟩; have hl1 := hl.kept hb1; have hs1 := hs.kept hb1; have ht1 := ht.kept hb1; have hT1 := hT.kept hb1)
        | (go_at_call 11; refine (cT _ hl1 ht1 hT1).mono ?_; rintro e w2 ⟨rfl, hb2⟩; have hs2 := hs1.kept hb2; have ht2 := ht1.kept hb2))
      go_ret2
      exact ⟨_, rfl, below_then hb1 hb1.size hb2, RowO.nil _ _⟩
  · have hq1 : (e1 == 0) = false := beq_eq_false_iff_ne.2 h1
    have hq2 : (e1 != 0) = true := bne_iff_ne.2 h1
    simp only [ne_eq, eq_self_iff_true, not_true_eq_false, not_false_eq_true, h1, if_true, if_false]
    clear h1
    go_enter Tryd.func39, Tryd.ntmps39
    go_wp2_with (go_at_call 37; refine cS.mono ?_; rintro e w1 ⟨rfl, hb1⟩)
    go_ret2
    exact ⟨_, rfl, hb1, RowO.nil _ _⟩
end Go.Proofs.YtfelhlffiiephaaDoor
