/- The walk of the closure of pairs. Conditions: none. -/
import Derived.Test.YthpdfkhmhaobgaaDoorPrecA
import Derived.Test.YthpdfkhmhaobgaaDoorMem
import Derived.Outline
import Derived.Deep.LoopGhost
import Derived.BigQuiet
import Derived.Deep.DeepCutAuto
set_option linter.unusedVariables false
set_option linter.unusedSimpArgs false
namespace Go.Proofs.YthpdfkhmhaobgaaDoor
open Go.RowKit

def zs44 : Array Value := ⟨.int .i64 0 :: List.replicate 256 (.int .u64 0)⟩
theorem zero44 (w : World) : (zeroValue 95).run Tryd.prog w = .ok (.agg zs44) w := by kernel_rfl
theorem zs44_ne : ¬ (zs44 = #[]) := by intro h; cases h

/-- A precedence in memory: how many symbols, and 128 rows of bits. -/
structure PrecAt (w : World) (b : Nat) (n : Int) (D : Nat → Nat) : Prop where
  cn : w.cell? ⟨b, 0, none⟩ = some (.int .i64 n)
  cl : ∀ i, i < 128 → w.cell? ⟨b, 1 + i * 2, none⟩ = some (.int .u64 (lo (D i)))
  ch : ∀ i, i < 128 → w.cell? ⟨b, 1 + i * 2 + 1, none⟩ = some (.int .u64 (hi (D i)))
  fz : ∀ j, w.frozen? ⟨b, j, none⟩ = false
theorem PrecAt.lt {w : World} {b : Nat} {n : Int} {D : Nat → Nat} (h : PrecAt w b n D) : b < w.heap.size := World.block_lt_of_cell? w _ h.cn
theorem PrecAt.kept {w w' : World} {b : Nat} {n : Int} {D : Nat → Nat} (h : PrecAt w b n D) (hb : Below w.heap.size w w') : PrecAt w' b n D :=
  ⟨cell_kept hb h.cn, fun i hi => cell_kept hb (h.cl i hi), fun i hi => cell_kept hb (h.ch i hi), fun j => (hb.frozen (p := ⟨b, j, none⟩) h.lt).trans (h.fz j)⟩

theorem PrecAt.first {w : World} (n : Int) : PrecAt (w.alloc (Obj.cells (zs44.setIfInBounds 0 (Value.int IntKind.i64 n)) 95)) w.heap.size n (downOf []) := by
  have hs : zs44.size = 257 := by simp [zs44, -List.reduceReplicate]
  have hz : ∀ i, 0 < i → i < 257 → zs44[i]? = some (Value.int .u64 0) := by
    intro i h0 h1
    obtain ⟨j, rfl⟩ : ∃ j, i = j + 1 := ⟨i - 1, by omega⟩
    simp only [zs44, List.getElem?_toArray, List.getElem?_cons_succ]
    rw [List.getElem?_replicate, if_pos (by omega)]
  have h0 : ∀ i, lo (downOf [] i) = 0 := fun i => by simp [downOf, lo]
  have h1 : ∀ i, hi (downOf [] i) = 0 := fun i => by simp [downOf, Go.Proofs.YthpdfkhmhaobgaaDoor.hi]
  refine ⟨?_, fun i hi => ?_, fun i hi => ?_, fun j => ?_⟩
  · rw [World.cell?_alloc_new, Array.getElem?_setIfInBounds_self_of_lt (by omega)]
  · rw [World.cell?_alloc_new, Array.getElem?_setIfInBounds_ne (by omega), hz _ (by omega) (by omega), h0]; rfl
  · rw [World.cell?_alloc_new, Array.getElem?_setIfInBounds_ne (by omega), hz _ (by omega) (by omega), h1]; rfl
  · exact World.frozen?_alloc_at _ _ _ _ rfl

theorem PrecAt.set {w : World} {b : Nat} {n : Int} {D : Nat → Nat} (h : PrecAt w b n D) {i : Nat} (hi' : i < 128) (m : Nat) :
    PrecAt ((w.setCell ⟨b, 1 + i * 2, none⟩ (.int .u64 (lo m))).setCell ⟨b, 1 + i * 2 + 1, none⟩ (.int .u64 (hi m))) b n (setRow D i m) := by
  refine ⟨?_, fun j hj => ?_, fun j hj => ?_, fun j => ?_⟩
  · rw [set_off (by omega), set_off (by omega)]; exact h.cn
  · by_cases e : j = i
    · subst e
      rw [set_off (by omega), set_same (h.cl j hj), setRow_same]
    · rw [set_off (by omega), set_off (by omega), setRow_ne _ _ e]; exact h.cl j hj
  · by_cases e : j = i
    · subst e
      rw [set_same (u := .int .u64 (hi (D j))) (by rw [set_off (by omega)]; exact h.ch j hj), setRow_same]
    · rw [set_off (by omega), set_off (by omega), setRow_ne _ _ e]; exact h.ch j hj
  · rw [World.frozen?_setCell, World.frozen?_setCell]; exact h.fz j

theorem PrecAt.drawn {w : World} {b : Nat} {n : Int} {D : Nat → Nat} (h : PrecAt w b n D) (k : Nat) : PrecAt (w.drewN k) b n D := ⟨h.cn, h.cl, h.ch, h.fz⟩
/-- A precedence in memory: the closure of pairs. -/
def IsPrec (w : World) (b : Nat) (n : Int) (l : List (Int × Int)) : Prop :=
  ∃ D, PrecAt w b n D ∧ allGood n l ∧ 0 ≤ n ∧ n ≤ 128 ∧ ∀ f g : Nat, (D f).testBit g = true ↔ TC l f g
theorem IsPrec.kept {w w' : World} {b : Nat} {n : Int} {l : List (Int × Int)} (h : IsPrec w b n l) (hb : Below w.heap.size w w') : IsPrec w' b n l := by
  obtain ⟨D, h1, h2⟩ := h
  exact ⟨D, h1.kept hb, h2⟩

theorem PrecAt.frame {w w' : World} {b : Nat} {n : Int} {D : Nat → Nat} (h : PrecAt w b n D) (hw : w'.heap[b]? = w.heap[b]?) : PrecAt w' b n D :=
  ⟨(World.cell?_of_block (a := ⟨b, 0, none⟩) hw).trans h.cn, fun i hi => (World.cell?_of_block (a := ⟨b, _, none⟩) hw).trans (h.cl i hi), fun i hi => (World.cell?_of_block (a := ⟨b, _, none⟩) hw).trans (h.ch i hi),
    fun j => (World.frozen?_of_block (a := ⟨b, j, none⟩) hw).trans (h.fz j)⟩
theorem IsPrec.frame {w w' : World} {b : Nat} {n : Int} {l : List (Int × Int)} (h : IsPrec w b n l) (hw : w'.heap[b]? = w.heap[b]?) : IsPrec w' b n l := by
  obtain ⟨D, h1, h2⟩ := h
  exact ⟨D, h1.frame hw, h2⟩
def ClosePost (n : Int) (l : List (Int × Int)) (w : World) (e : Ending) (w' : World) : Prop :=
  Below w.heap.size w w' ∧ ((perr n l ≠ 0 ∧ e = .returned (.tuple #[.pointer none, .int .i64 (perr n l)])) ∨
    (perr n l = 0 ∧ e = .returned (.tuple #[.pointer (some ⟨w.heap.size, 0, none⟩), .int .i64 0]) ∧ IsPrec w' w.heap.size n l))

theorem close_arg (n : Int) (A : Option Addr) (l : List (Int × Int)) (cap : Nat) (w : World) (h : n < 0 ∨ 128 < n) :
    Calls Tryd.prog 21 #[.int .i64 n, .slice A l.length cap] w (ClosePost n l w) := by
  have hp : perr n l = 1 := by unfold perr; rw [if_pos h]
  have fin : ∀ w', w = w' → ClosePost n l w (.returned (.tuple #[.pointer none, .int .i64 1])) w' := fun w' e => by
    subst e; exact ⟨Below.refl _ _, .inl ⟨by omega, by rw [hp]⟩⟩
  clear hp
  rcases h with h | h
  · go_enter Tryd.func21, Tryd.ntmps21
    go_wp2
    go_ret2
    exact fin _ rfl
  · have h' : ¬ n < 0 := by omega
    go_enter Tryd.func21, Tryd.ntmps21
    go_wp2
    go_ret2
    exact fin _ rfl

set_option maxRecDepth 100000 in
set_option maxHeartbeats 2000000 in
theorem close_any (n : Int) (A : Option Addr) (l : List (Int × Int)) (cap : Nat) (w : World) (h0 : 0 ≤ n) (h1 : n ≤ 128) (hl : Pairs w A l) :
    Calls Tryd.prog 21 #[.int .i64 n, .slice A l.length cap] w (ClosePost n l w) := by
  have hz := zero44
  have hzn := zs44_ne
  have hll := hl.1
  obtain ⟨N, rfl⟩ := Int.eq_ofNat_of_zero_le h0
  go_enter Tryd.func21, Tryd.ntmps21
  go_wp2_with fail
  clear hz hzn
  obtain ⟨w1, hw1⟩ : ∃ w1, w1 = (w.alloc (Obj.cells (zs44.setIfInBounds 0 (Value.int IntKind.i64 (N : Int))) 95)) := ⟨_, rfl⟩
  rw [← hw1]
  have hW := Lib.hid hw1
  clear hw1
  have hB1 : Below w.heap.size w w1 := by rw [hW.out]; exact below_alloc0 _ _
  have hP1 : PrecAt w1 w.heap.size N (downOf []) := by rw [hW.out]; exact PrecAt.first N
  go_loopg [25] l.length (fun g i wr => ∃ k : Nat, g + k = l.length ∧ i = .int .i64 k ∧ Below w.heap.size w wr ∧ PrecAt wr w.heap.size N (downOf (l.take k)) ∧ allGood N (l.take k))
  case atStart => exact ⟨0, rfl, rfl, hB1, hP1, fun p hp => by cases hp⟩
  case round =>
    obtain ⟨k, hgk, rfl, hB, hP, hG⟩ := hrel
    have HGK := Lib.hid hgk
    have hsz := hP.lt
    have hk : k ≤ l.length := by omega
    clear hgk hB1 hP1
    by_cases hlt : k < l.length
    · have hl' := hl.kept hB
      obtain ⟨b, off, x, y, rfl, hxy, hx, hy⟩ := hl'.at_ hlt
      by_cases hbad : badPair N (x, y)
      · have hmem : (x, y) ∈ l := getD_mem hlt hxy
        have hpe : perr N l = 100 := by
          unfold perr; rw [if_neg (by omega), if_pos (fun h => h _ hmem hbad)]
        have fin : ∀ w', Below w.heap.size w w' → ClosePost N l w (.returned (.tuple #[.pointer none, .int .i64 100])) w' := fun w' hb =>
          ⟨hb, .inl ⟨by omega, by rw [hpe]⟩⟩
        have HX := Lib.hid hxy
        clear hxy hpe hmem
        unfold badPair at hbad
        simp only at hbad
        by_cases q1 : x < 0
        · clear hbad
          go_wp2_with fail
          go_ret2
          exact fin _ (below_alloc hB (Nat.le_of_lt hsz) _)
        by_cases q2 : N ≤ x
        · clear hbad
          go_wp2_with fail
          go_ret2
          exact fin _ (below_alloc hB (Nat.le_of_lt hsz) _)
        by_cases q3 : y < 0
        · clear hbad
          go_wp2_with fail
          go_ret2
          exact fin _ (below_alloc hB (Nat.le_of_lt hsz) _)
        have q4 : N ≤ y := by omega
        clear hbad
        go_wp2_with fail
        go_ret2
        exact fin _ (below_alloc hB (Nat.le_of_lt hsz) _)
      have hbad' : 0 ≤ x ∧ x < N ∧ 0 ≤ y ∧ y < N := by unfold badPair at hbad; simp only at hbad; omega
      obtain ⟨hx0, hx1, hy0, hy1⟩ := hbad'
      have HX := Lib.hid hxy
      clear hxy
      obtain ⟨x, rfl⟩ := Int.eq_ofNat_of_zero_le hx0
      obtain ⟨y, rfl⟩ := Int.eq_ofNat_of_zero_le hy0
      have HBad := Lib.hid hbad
      clear hbad
      go_wp2_with fail
      obtain ⟨W, hWW⟩ : ∃ W, W = wr.alloc (Obj.cells #[Value.int IntKind.i64 (x : Int), Value.int IntKind.i64 (y : Int)] 54) := ⟨_, rfl⟩
      rw [← hWW]
      have HW := Lib.hid hWW
      clear hWW
      have c0 : W.cell? ⟨wr.heap.size, 0, none⟩ = some (.int .i64 x) := by rw [HW.out]; go_simp
      have c1 : W.cell? ⟨wr.heap.size, 1, none⟩ = some (.int .i64 y) := by rw [HW.out]; go_simp
      have hBW : Below wr.heap.size wr W := by rw [HW.out]; exact below_alloc0 _ _
      have hPW := hP.kept hBW
      refine wp_region_ext_tail (I := Over W) 16 (by kernel_rfl) (by kernel_rfl) (Over.refl W) ?_
      have f0 := Over.cell c0
      have f1 := Over.cell c1
      have f2 := Over.cell (hPW.cl x (by omega))
      have f3 := Over.cell (hPW.ch x (by omega))
      clear c0 c1
      simp only [List.take_succ_cons, List.take_zero, List.drop_succ_cons, List.drop_zero]
      have g0 : (x : Int) < 128 := by omega
      have hS : W128 (downOf (l.take k) x) := (Sound.first hG).w128 hG h1 x
      repeat (go_big_quiet_step ((go_at_call 35; exact Calls.over (with_any _ y _ hS (by omega)))))
      try refine wpQuiet_nil ?_
      intro w' hw'
      have hP' := hPW.kept hw'
      have d0 := hP'.cl x (by omega)
      have d1 := hP'.ch x (by omega)
      have d2 := hP'.fz (1 + x * 2)
      have d3 := hP'.fz (1 + x * 2 + 1)
      clear f0 f1 f2 f3
      go_wp2_with fail
      go_roundg (l.length - (k + 1))
      case measure => have := HGK.out; omega
      case rel =>
        refine ⟨k + 1, by omega, by go_num, ?_, ?_, ?_⟩
        · exact below_set (below_set (below_then hB (Nat.le_of_lt hsz) (below_then hBW hBW.size hw')) (Nat.le_refl _) _) (Nat.le_refl _) _
        · rw [take_succ' l (0, 0) hlt, HX.out, downOf_snoc]
          exact hP'.set (by omega) _
        · intro p hp
          rw [take_succ' l (0, 0) hlt, HX.out] at hp
          rcases List.mem_append.1 hp with hp | hp
          · exact hG p hp
          · have : p = ((x : Int), (y : Int)) := by simpa using hp
            rw [this]; exact HBad.out
    · have hkl : k = l.length := by omega
      subst hkl
      rw [List.take_length] at hP hG
      clear hlt hk
      go_wp2_with fail
      go_loopg [9] (miss N (downOf l) + 1) (fun g t wx => ∃ (ag : Bool) (D : Nat → Nat), t = .bool ag ∧ Below w.heap.size w wx ∧ PrecAt wx w.heap.size N D ∧ Sound l D ∧ Aside ((ag = true → miss N D < g) ∧ (ag = false → Closed N D)))
      case atStart => exact ⟨true, downOf l, rfl, hB, hP, Sound.first hG, ⟨fun _ => by omega, fun h => by cases h⟩⟩
      case round =>
        clear hP hB hsz
        obtain ⟨ag, D, rfl, hB, hP, hS, hA⟩ := hrel
        have hsz := hP.lt
        cases ag with
        | true =>
          have hms : miss N D < gk := hA.out.1 rfl
          clear hA
          obtain ⟨gp, rfl⟩ : ∃ gp : Nat, gp = gk := ⟨_, rfl⟩
          go_wp2_with fail
          obtain ⟨wo, rfl⟩ : ∃ wo : World, wo = wr := ⟨_, rfl⟩
          go_loopg [9, 68] N (fun g t i wx => ∃ (k : Nat) (ag : Bool) (E : Nat → Nat), i = .int .i64 k ∧ t = .bool ag ∧ Aside (g + k = N) ∧ Below w.heap.size w wx ∧ PrecAt wx w.heap.size N E ∧ Sound l E ∧ Aside (∀ i, Sub (D i) (E i)) ∧
            Aside ((ag = false → E = D ∧ ∀ f, f < k → ∀ g, g < N → (D f).testBit g = true → Sub (D g) (D f)) ∧ (ag = true → ∃ i j, i < N ∧ j < N ∧ (D i).testBit j = false ∧ (E i).testBit j = true)))
          case atStart => exact ⟨0, false, D, rfl, rfl, (rfl : N + 0 = N), hB, hP, hS, fun i => Sub.refl _, ⟨fun _ => ⟨rfl, fun f hf => by omega⟩, fun h => by cases h⟩⟩
          case round =>
            clear hP hB hsz
            obtain ⟨k, ag, E, rfl, rfl, hgk, hB, hP, hE, hDE, hA⟩ := hrel
            have hsz := hP.lt
            have hkN : k ≤ N := by have := hgk.out; omega
            by_cases hlt : k < N
            · have d0 := hP.cl k (by omega)
              have d1 := hP.ch k (by omega)
              have k128 : (k : Int) < 128 := by omega
              go_wp2_with fail
              obtain ⟨W, hWW⟩ : ∃ W, W = wr.alloc (Obj.cells #[Value.int IntKind.u64 (lo (E k) : Int), Value.int IntKind.u64 (hi (E k) : Int)] 92) := ⟨_, rfl⟩
              rw [← hWW]
              have HW := Lib.hid hWW
              clear hWW d0 d1
              obtain ⟨bw, hbw⟩ : ∃ b, b = wr.heap.size := ⟨_, rfl⟩
              rw [← hbw]
              have c0 : W.cell? ⟨bw, 0, none⟩ = some (.int .u64 (lo (E k))) := by rw [HW.out, hbw]; go_simp
              have c1 : W.cell? ⟨bw, 1, none⟩ = some (.int .u64 (hi (E k))) := by rw [HW.out, hbw]; go_simp
              have hBW : Below wr.heap.size wr W := by rw [HW.out]; exact below_alloc0 _ _
              have hPW := hP.kept hBW
              have hB2 := below_then hB (Nat.le_of_lt hsz) hBW
              rw [← hbw] at hsz
              have hne : w.heap.size ≠ bw := by omega
              have hWk := hE.w128 hG h1 k
              clear hBW hB hP HW
              have HBw := Lib.hid hbw
              clear hbw
              go_loopg [78] N (fun g i wx => ∃ (m : Nat) (F : Nat → Nat), i = .int .i64 m ∧ Aside (g + m = N) ∧ Below w.heap.size w wx ∧ PrecAt wx w.heap.size N F ∧ wx.cell? ⟨bw, 0, none⟩ = some (.int .u64 (lo (E k))) ∧ wx.cell? ⟨bw, 1, none⟩ = some (.int .u64 (hi (E k))) ∧ Sound l F ∧
                Aside ((∀ i, i ≠ k → F i = E i) ∧ Sub (E k) (F k) ∧ ∀ g, g < m → (E k).testBit g = true → Sub (F g) (F k)))
              case atStart => exact ⟨0, E, rfl, (rfl : N + 0 = N), hB2, hPW, c0, c1, hE, ⟨fun _ _ => rfl, Sub.refl _, fun g hg => by omega⟩⟩
              case round =>
                clear c0 c1 hB2 hPW
                obtain ⟨m, F, rfl, hgm, hB, hP, c0, c1, hF, hFE⟩ := hrel
                have hsz' := hP.lt
                have hmN : m ≤ N := by have := hgm.out; omega
                by_cases hlm : m < N
                · have m128 : (m : Int) < 128 := by omega
                  cases hbit : (E k).testBit m with
                  | false =>
                    have HBit := Lib.hid hbit
                    clear hbit
                    go_wp2_with (go_at_call 36; refine (has_any (E k) m _ hWk (by omega)).mono ?_; rintro e w' ⟨rfl, hb⟩; rw [HBit.out])
                    go_roundg (N - (m + 1))
                    case measure => have := hgm.out; omega
                    case rel =>
                      refine ⟨m + 1, F, by go_num, by have := hgm.out; show _ = _; omega, below_then hB (Nat.le_of_lt hsz') hb, hP.kept hb, cell_kept hb c0, cell_kept hb c1, hF, ⟨hFE.out.1, hFE.out.2.1, fun g hg hbg => ?_⟩⟩
                      by_cases e : g = m
                      · rw [e, HBit.out] at hbg; cases hbg
                      · exact hFE.out.2.2 g (by omega) hbg
                  | true =>
                    have HBit := Lib.hid hbit
                    clear hbit
                    go_wp2_with (go_at_call 36; refine (has_any (E k) m _ hWk (by omega)).mono ?_; rintro e w' ⟨rfl, hb⟩; rw [HBit.out])
                    have hP2 := hP.kept hb
                    have c2 := cell_kept hb c0
                    have c3 := cell_kept hb c1
                    have hB2 := below_then hB (Nat.le_of_lt hsz') hb
                    have hsz2 := hP2.lt
                    clear hP hB hsz' c0 c1
                    refine wp_region_ext_tail (I := Over w') 18 (by kernel_rfl) (by kernel_rfl) (Over.refl w') ?_
                    have f0 := Over.cell (hP2.cl k (by omega))
                    have f1 := Over.cell (hP2.ch k (by omega))
                    have f2 := Over.cell (hP2.cl m (by omega))
                    have f3 := Over.cell (hP2.ch m (by omega))
                    simp only [List.take_succ_cons, List.take_zero, List.drop_succ_cons, List.drop_zero]
                    have hSk : W128 (F k) := hF.w128 hG h1 k
                    have hSm : W128 (F m) := hF.w128 hG h1 m
                    repeat (go_big_quiet_step ((go_at_call 37; exact Calls.over (and_any _ _ _ hSk hSm))))
                    try refine wpQuiet_nil ?_
                    intro w3 hw3
                    have hP' := hP2.kept hw3
                    have d0 := hP'.cl k (by omega)
                    have d1 := hP'.ch k (by omega)
                    have d2 := hP'.fz (1 + k * 2)
                    have d3 := hP'.fz (1 + k * 2 + 1)
                    clear f0 f1 f2 f3
                    go_wp2_with fail
                    go_roundg (N - (m + 1))
                    case measure => have := hgm.out; omega
                    case rel =>
                      refine ⟨m + 1, setRow F k (F k ||| F m), by go_num, by have := hgm.out; show _ = _; omega, ?_, hP'.set (by omega) _, ?_, ?_, ?_, ⟨fun i hi => ?_, ?_, fun g hg hbg => ?_⟩⟩
                      · exact below_set (below_set (below_then hB2 (Nat.le_of_lt hsz2) hw3) (Nat.le_refl _) _) (Nat.le_refl _) _
                      · rw [set_blk hne, set_blk hne]; exact cell_kept hw3 c2
                      · rw [set_blk hne, set_blk hne]; exact cell_kept hw3 c3
                      · exact hF.grow (hE.tc k m HBit.out)
                      · rw [setRow_ne _ _ hi]; exact hFE.out.1 i hi
                      · rw [setRow_same]; exact hFE.out.2.1.trans (Sub.orl _ _)
                      · rw [setRow_same]
                        by_cases e : g = k
                        · rw [e, setRow_same]; exact Sub.refl _
                        · rw [setRow_ne _ _ e]
                          by_cases e2 : g = m
                          · rw [e2]; exact Sub.orr _ _
                          · exact (hFE.out.2.2 g (by omega) hbg).trans (Sub.orl _ _)
                · have hml : m = N := by omega
                  have HM := Lib.hid hml
                  clear hml
                  go_wp2_with fail
                  have d0 := hP.cl k (by omega)
                  have d1 := hP.ch k (by omega)
                  have hDF : ∀ i, Sub (D i) (F i) := fun i => by
                    by_cases e : i = k
                    · rw [e]; exact (hDE.out k).trans hFE.out.2.1
                    · rw [hFE.out.1 i e]; exact hDE.out i
                  have HDF := Lib.hid hDF
                  clear hDF
                  cases ag with
                  | true =>
                    go_quiet (fail)
                    go_wp2_with fail
                    go_roundg (N - (k + 1))
                    case measure => have := hgk.out; omega
                    case rel =>
                      refine ⟨k + 1, true, F, by go_num, rfl, by have := hgk.out; show _ = _; omega, below_drawN hB _, hP.drawn _, hF, HDF.out, ⟨(fun h => by cases h), fun _ => ?_⟩⟩
                      obtain ⟨i, j, hi, hj, hb0, hb1⟩ := hA.out.2 (by simp)
                      refine ⟨i, j, hi, hj, hb0, ?_⟩
                      by_cases e : i = k
                      · rw [e] at hb1 ⊢; exact hFE.out.2.1 j hb1
                      · rw [hFE.out.1 i e]; exact hb1
                  | false =>
                    have hneq := neq_row (lo (F k)) (hi (F k)) (lo (E k)) (hi (E k))
                    go_quiet (fail)
                    clear hneq
                    obtain ⟨hED, hcl⟩ := hA.out.1 (by simp)
                    by_cases hsame : F k = E k
                    · have hv : (!(((lo (F k) : Nat) : Int) == ((lo (E k) : Nat) : Int)) || !(((hi (F k) : Nat) : Int) == ((hi (E k) : Nat) : Int))) = false := by rw [hsame]; simp
                      have HV := Lib.hid hv
                      have HS := Lib.hid hsame
                      have HED := Lib.hid hED
                      have HCL := Lib.hid hcl
                      clear hv hsame hED hcl
                      rw [HV.out]
                      go_wp2_with fail
                      go_roundg (N - (k + 1))
                      case measure => have := hgk.out; omega
                      case rel =>
                        have hFE' : F = E := funext fun i => by
                          by_cases e : i = k
                          · rw [e]; exact HS.out
                          · exact hFE.out.1 i e
                        refine ⟨k + 1, false, F, by go_num, rfl, by have := hgk.out; show _ = _; omega, below_drawN hB _, hP.drawn _, hF, HDF.out, ⟨fun _ => ⟨hFE'.trans HED.out, fun f hf g hg hbg => ?_⟩, (fun h => by cases h)⟩⟩
                        by_cases e : f = k
                        · have h3 := hFE.out.2.2 g (by have := HM.out; omega) (by rw [HED.out, ← e]; exact hbg)
                          rw [hFE', HED.out] at h3
                          rw [e]; exact h3
                        · exact HCL.out f (by omega) g hg hbg
                    · have hv : (!(((lo (F k) : Nat) : Int) == ((lo (E k) : Nat) : Int)) || !(((hi (F k) : Nat) : Int) == ((hi (E k) : Nat) : Int))) = true := by
                        cases h1 : (((lo (F k) : Nat) : Int) == ((lo (E k) : Nat) : Int))
                        · rfl
                        · cases h2 : (((hi (F k) : Nat) : Int) == ((hi (E k) : Nat) : Int))
                          · rfl
                          · exact absurd (lo_inj (Int.ofNat_inj.1 (beq_iff_eq.1 h1)) (Int.ofNat_inj.1 (beq_iff_eq.1 h2))) hsame
                      have HV := Lib.hid hv
                      have HS := Lib.hid hsame
                      have HED := Lib.hid hED
                      clear hv hsame hED hcl
                      rw [HV.out]
                      go_wp2_with fail
                      go_roundg (N - (k + 1))
                      case measure => have := hgk.out; omega
                      case rel =>
                        refine ⟨k + 1, true, F, by go_num, rfl, by have := hgk.out; show _ = _; omega, below_drawN hB _, hP.drawn _, hF, HDF.out, ⟨(fun h => by cases h), fun _ => ?_⟩⟩
                        obtain ⟨j, hj0, hj1⟩ := Sub.exists_new hFE.out.2.1 HS.out
                        refine ⟨k, j, hlt, ?_, by rw [← HED.out]; exact hj0, hj1⟩
                        have := (hF.tc k j hj1).range hG
                        omega
            · have hkl : k = N := by omega
              have HKL := Lib.hid hkl
              clear hkl
              go_wp2_with fail
              go_roundg (gp - 1)
              case measure => omega
              case rel =>
                refine ⟨ag, E, rfl, hB, hP, hE, ⟨fun h => ?_, fun h => ?_⟩⟩
                · obtain ⟨i, j, hi, hj, hb0, hb1⟩ := hA.out.2 h
                  have := miss_lt hDE.out hi hj hb0 hb1
                  omega
                · obtain ⟨he, hc⟩ := hA.out.1 h
                  rw [he]
                  intro f hf g hg hb
                  exact hc f (by have := HKL.out; omega) g hg hb
        | false =>
          have hC : Closed N D := hA.out.2 rfl
          clear hA
          go_wp2_with fail
          go_loopg [116] N (fun g i wx => ∃ k : Nat, i = .int .i64 k ∧ g + k = N ∧ Below w.heap.size w wx ∧ PrecAt wx w.heap.size N D ∧ ∀ f, f < k → (D f).testBit f = false)
          case atStart => exact ⟨0, rfl, rfl, hB, hP, fun f hf => by omega⟩
          case round =>
            clear hP hB hsz
            obtain ⟨k, rfl, hgk, hB, hP, hN⟩ := hrel
            have HGK := Lib.hid hgk
            have hsz := hP.lt
            have hkN : k ≤ N := by omega
            clear hgk
            have HN := Lib.hid hN
            clear hN
            have hall := hC.all hG hS
            have HAll := Lib.hid hall
            clear hall
            by_cases hlt : k < N
            · have d0 := hP.cl k (by omega)
              have d1 := hP.ch k (by omega)
              have k128 : (k : Int) < 128 := by omega
              have hW := hS.w128 hG h1 k
              cases hbit : (D k).testBit k with
              | true =>
                have HBit := Lib.hid hbit
                have hpe : perr N l = 101 := by
                  unfold perr; rw [if_neg (by omega), if_neg (fun h => h hG), if_pos ⟨k, (HAll.out k k).1 hbit⟩]
                have HPE := Lib.hid hpe
                clear hpe hbit
                go_wp2_with (go_at_call 36; refine (has_any (D k) k _ hW (by omega)).mono ?_; rintro e w' ⟨rfl, hb⟩; rw [HBit.out])
                go_ret2
                exact ⟨below_then hB (Nat.le_of_lt hsz) hb, .inl ⟨by rw [HPE.out]; omega, by rw [HPE.out]; rfl⟩⟩
              | false =>
                have HBit := Lib.hid hbit
                clear hbit
                go_wp2_with (go_at_call 36; refine (has_any (D k) k _ hW (by omega)).mono ?_; rintro e w' ⟨rfl, hb⟩; rw [HBit.out])
                go_roundg (N - (k + 1))
                case measure => have := HGK.out; omega
                case rel =>
                  refine ⟨k + 1, by go_num, by omega, below_then hB (Nat.le_of_lt hsz) hb, hP.kept hb, fun f hf => ?_⟩
                  by_cases e : f = k
                  · rw [e]; exact HBit.out
                  · exact HN.out f (by omega)
            · have hkl : k = N := by omega
              have hpe : perr N l = 0 := by
                unfold perr; rw [if_neg (by omega), if_neg (fun h => h hG), if_neg]
                rintro ⟨f, hf⟩
                have hr := hf.range hG
                obtain ⟨f, rfl⟩ := Int.eq_ofNat_of_zero_le hr.1
                have h2 := HN.out f (by omega)
                rw [(HAll.out f f).2 hf] at h2
                cases h2
              have HPE := Lib.hid hpe
              clear hpe hkl
              go_wp2_with fail
              go_ret2
              exact ⟨hB, .inr ⟨HPE.out, rfl, D, hP, hG, h0, h1, HAll.out⟩⟩
end Go.Proofs.YthpdfkhmhaobgaaDoor
