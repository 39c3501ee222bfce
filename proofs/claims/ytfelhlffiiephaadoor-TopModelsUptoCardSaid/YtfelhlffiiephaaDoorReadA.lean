/- The reader's walk. Conditions: the signature may be. -/
import Derived.Test.YtfelhlffiiephaaDoorRead
import Derived.Deep.RegionWith
import Derived.Handy
set_option linter.unusedVariables false
set_option linter.unusedSimpArgs false
namespace Go.Proofs.YtfelhlffiiephaaDoor
open Go.RowKit Go.Lib

theorem Sigs.turned {w w' : World} {A : Option Addr} {l : List Sy} {rb : Nat} (h : Sigs w A l) (hg : w.grownBy w' (some rb)) (hA : 0 < l.length → ∀ a, A = some a → a.block ≠ rb) : Sigs w' A l :=
  ⟨h.1, h.2.1, fun h0 => by
    obtain ⟨b, off, rfl, hc⟩ := h.2.2 h0
    have := hA h0 _ rfl
    exact ⟨b, off, rfl, fun k hk => ⟨hg.cell (hc k hk).1 (by simpa using this), hg.cell (hc k hk).2 (by simpa using this)⟩⟩⟩
theorem Ints.turned {w w' : World} {A : Option Addr} {t : List Int} {rb : Nat} (h : Ints w A t) (hg : w.grownBy w' (some rb)) (hA : 0 < t.length → ∀ a, A = some a → a.block ≠ rb) : Ints w' A t :=
  ⟨h.1, h.2.1, fun h0 => by
    obtain ⟨b, off, rfl, hc⟩ := h.2.2 h0
    have := hA h0 _ rfl
    exact ⟨b, off, rfl, fun k hk => hg.cell (hc k hk) (by simpa using this)⟩⟩
theorem turned_refl (w : World) (row : Option Nat) : w.grownBy w row := World.grownBy.refl _ _
theorem turned_set (w : World) (b j : Nat) (v : Value) : w.grownBy (w.setCell ⟨b, j, none⟩ v) (some b) :=
  ⟨rfl, rfl, rfl, by simp, fun k hk hne => heap_set_far (by simpa using hne)⟩
theorem turned_drew {w w' : World} {row : Option Nat} (h : w.grownBy w' row) (n : Nat) : w.grownBy (w'.drewN n) row := ⟨h.os, h.tape, h.output, h.size, h.block⟩
theorem Reader.draw {w : World} {b : Nat} {A B : Option Addr} {sl sc tl tc : Nat} {i bad : Int} (h : Reader w b A sl sc B tl tc i bad) (n : Nat) : Reader (w.drewN n) b A sl sc B tl tc i bad := ⟨h.c0, h.c1, h.c2, h.c3, h.fz⟩
theorem Reader.setBad {w : World} {b : Nat} {A B : Option Addr} {sl sc tl tc : Nat} {i bad : Int} (h : Reader w b A sl sc B tl tc i bad) (x : Int) : Reader (w.setCell ⟨b, 3, none⟩ (.int .i64 x)) b A sl sc B tl tc i x :=
  ⟨(set_off (by decide)).trans h.c0, (set_off (by decide)).trans h.c1, (set_off (by decide)).trans h.c2, set_same h.c3, fun j => by rw [World.frozen?_setCell]; exact h.fz j⟩
theorem Reader.setAt {w : World} {b : Nat} {A B : Option Addr} {sl sc tl tc : Nat} {i bad : Int} (h : Reader w b A sl sc B tl tc i bad) (x : Int) : Reader (w.setCell ⟨b, 2, none⟩ (.int .i64 x)) b A sl sc B tl tc x bad :=
  ⟨(set_off (by decide)).trans h.c0, (set_off (by decide)).trans h.c1, set_same h.c2, (set_off (by decide)).trans h.c3, fun j => by rw [World.frozen?_setCell]; exact h.fz j⟩
theorem Reader.grown {w w' : World} {b : Nat} {A B : Option Addr} {sl sc tl tc : Nat} {i bad : Int} (h : Reader w b A sl sc B tl tc i bad) {row : Option Nat} (hg : w.grownBy w' row) (hne : row ≠ some b) : Reader w' b A sl sc B tl tc i bad :=
  ⟨hg.cell h.c0 (fun e => hne e.symm), hg.cell h.c1 (fun e => hne e.symm), hg.cell h.c2 (fun e => hne e.symm), hg.cell h.c3 (fun e => hne e.symm),
    fun j => (World.frozen?_of_block (a := ⟨b, j, none⟩) (hg.block b (World.block_lt_of_cell? w _ h.c0) (fun e => hne e.symm))).trans (h.fz j)⟩
theorem Reader.lt {w : World} {b : Nat} {A B : Option Addr} {sl sc tl tc : Nat} {i bad : Int} (h : Reader w b A sl sc B tl tc i bad) : b < w.heap.size := World.block_lt_of_cell? w _ h.c0

/-- The blocks from one on; the blocks of the arguments of a node that is being made. -/
abbrev From (n : Nat) : Nat → Prop := fun b => n ≤ b
abbrev Beside (xb : Nat) (kv : Value) : Nat → Prop := fun b => xb < b ∧ some b ≠ kv.ownBlock
/-- What the reader has done. -/
def ReadPost (A B : Option Addr) (l : List Sy) (t : List Int) (sc tc n rb i : Nat) (w : World) (e : Ending) (w' : World) : Prop :=
  ∃ (v : Value) (j bad : Int), e = .returned v ∧ w.grownBy w' (some rb) ∧ Reader w' rb A l.length sc B t.length tc j bad ∧ (∃ sz, Sized w' (From w.heap.size) v sz) ∧
    Aside (match scanAt l t 1 i with
      | .ok m => bad = 0 ∧ j = m ∧ Node w' (From w.heap.size) l t n v i m
      | .error er => bad = er)
theorem infoNode : (Tryd.prog.info? 78).map (fun i => (i.zero, i.size, i.bytes)) = some (some .nilIface, 1, 16) := by kernel_rfl

set_option maxRecDepth 100000 in
set_option maxHeartbeats 1000000 in
theorem read_short (A B : Option Addr) (l : List Sy) (t : List Int) (sc tc n rb i : Nat) (w : World) (hi : i = t.length) (hR : Reader w rb A l.length sc B t.length tc i 0) :
    Calls Tryd.prog 43 #[.pointer (some ⟨rb, 0, none⟩)] w (ReadPost A B l t sc tc n rb i w) := by
  subst hi
  have HS := Lib.hid (scanAt_end l t 0 t.length (Nat.le_refl _))
  have HR := Lib.hid hR
  obtain ⟨c0, c1, c2, c3, fz⟩ := hR
  have fz3 := fz 3
  go_enter Tryd.func43, Tryd.ntmps43
  go_wp2_with fail
  go_quiet (fail)
  go_wp2_with fail
  go_ret
  exact ⟨_, _, _, rfl, (turned_drew (turned_refl _ _) nq).trans (turned_set _ _ _ _), (HR.out.draw nq).setBad 31, ⟨_, .inl ⟨_, rfl, rfl⟩⟩, by show match scanAt l t (0 + 1) t.length with | .ok m => _ | .error er => _; rw [HS.out]⟩
set_option maxRecDepth 100000 in
set_option maxHeartbeats 1000000 in
theorem read_wrong (A B : Option Addr) (l : List Sy) (t : List Int) (sc tc n rb i : Nat) (w : World) (hi : i < t.length) (hc : codeBad l (t.getD i 0)) (ht : Ints w B t) (hm : l.length ≤ 128) (hR : Reader w rb A l.length sc B t.length tc i 0) :
    Calls Tryd.prog 43 #[.pointer (some ⟨rb, 0, none⟩)] w (ReadPost A B l t sc tc n rb i w) := by
  have HS := Lib.hid (scanAt_bad l t 0 i hi hc)
  have HR := Lib.hid hR
  obtain ⟨c0, c1, c2, c3, fz⟩ := hR
  have fz3 := fz 3
  have hmax := ht.2.1
  obtain ⟨b, off, c, rfl, hgc, hc1, hc2, hcc⟩ := ht.at_ hi
  rw [hgc] at hc
  clear hgc
  have hq : ((i : Int) == (t.length : Int)) = false := beq_eq_false_iff_ne.2 (by omega)
  have hi2 : (i : Int) < (t.length : Int) := by omega
  rcases hc with hc | hc
  · go_enter Tryd.func43, Tryd.ntmps43
    go_wp2_with fail
    go_quiet (fail)
    go_wp2_with fail
    go_quiet (fail)
    go_wp2_with fail
    go_ret
    exact ⟨_, _, _, rfl, (turned_drew (turned_refl _ _) _).trans (turned_set _ _ _ _), (HR.out.draw _).setBad 30, ⟨_, .inl ⟨_, rfl, rfl⟩⟩, by show match scanAt l t (0 + 1) i with | .ok m => _ | .error er => _; rw [HS.out]⟩
  · have hcl : ¬ ((l.length : Int) ≤ c) := by omega
    go_enter Tryd.func43, Tryd.ntmps43
    go_wp2_with fail
    go_quiet (fail)
    go_wp2_with fail
    go_quiet (fail)
    go_wp2_with fail
    go_ret
    exact ⟨_, _, _, rfl, (turned_drew (turned_refl _ _) _).trans (turned_set _ _ _ _), (HR.out.draw _).setBad 30, ⟨_, .inl ⟨_, rfl, rfl⟩⟩, by show match scanAt l t (0 + 1) i with | .ok m => _ | .error er => _; rw [HS.out]⟩
set_option maxRecDepth 100000 in
set_option maxHeartbeats 1000000 in
theorem read_leaf (A B : Option Addr) (l : List Sy) (t : List Int) (sc tc n rb i : Nat) (w : World) (hi : i < t.length) (hc : ¬ codeBad l (t.getD i 0)) (hneg : t.getD i 0 < 0) (ht : Ints w B t) (hR : Reader w rb A l.length sc B t.length tc i 0) :
    Calls Tryd.prog 43 #[.pointer (some ⟨rb, 0, none⟩)] w (ReadPost A B l t sc tc (n + 1) rb i w) := by
  have HS := Lib.hid ((scanAt_step l t 0 i hi hc).trans (by rw [arOf, if_pos hneg, scanAt_zero]))
  have HR := Lib.hid hR
  obtain ⟨c0, c1, c2, c3, fz⟩ := hR
  have fz2 := fz 2
  have hmax := ht.2.1
  obtain ⟨b, off, c, rfl, hgc, hc1, hc2, hcc⟩ := ht.at_ hi
  have HC := Lib.hid hgc
  rw [hgc] at hc hneg
  clear hgc
  have hq : ((i : Int) == (t.length : Int)) = false := beq_eq_false_iff_ne.2 (by omega)
  have hi2 : (i : Int) < (t.length : Int) := by omega
  have hcl : ¬ ((l.length : Int) ≤ c) := fun h => hc (.inl h)
  have hcm : ¬ (c < -1048576) := fun h => hc (.inr h)
  clear hc
  go_enter Tryd.func43, Tryd.ntmps43
  go_wp2_with fail
  go_quiet (fail)
  go_wp2_with fail
  go_quiet (fail)
  go_wp2_with fail
  go_ret
  refine ⟨_, _, _, rfl, (turned_drew (turned_refl _ _) _).trans (turned_set _ _ _ _), (HR.out.draw _).setAt _, ⟨_, .inl ⟨_, rfl, rfl⟩⟩, ?_⟩
  show match scanAt l t (0 + 1) i with | .ok m => _ | .error er => _
  rw [HS.out]
  exact ⟨rfl, by omega, hi, by omega, .inl ⟨by rw [HC.out]; exact hneg, rfl, by rw [HC.out]; rfl⟩⟩
/-- The node that is being made, and the reader, when so many arguments were read. -/
structure Grow (A B : Option Addr) (l : List Sy) (t : List Int) (sc tc n rb i xb ar m : Nat) (W w : World) : Prop where
  turned : W.grownBy w (some rb)
  state : ∃ (j bad nodes : Int) (kv : Value) (ks : List Value), Reader w rb A l.length sc B t.length tc j bad ∧ w.cell? ⟨xb, 0, none⟩ = some (.int .i64 i) ∧ w.cell? ⟨xb, 1, none⟩ = some (.int .i64 nodes) ∧ w.cell? ⟨xb, 2, none⟩ = some kv ∧
    (∀ k, w.frozen? ⟨xb, k, none⟩ = false) ∧ w.ownsRow (xb + 1) 78 1 kv m ks ∧
    Aside ((bad = 0 ∧ ∃ j' : Nat, j = j' ∧ i < j' ∧ j' ≤ t.length ∧ nodes = (j' : Int) - i ∧ KidsBy (Node w (Beside xb kv) l t n) ks (i + 1) j' ∧ scanAt l t 1 i = scanAt l t (ar - m) j') ∨ (bad ≠ 0 ∧ scanAt l t 1 i = .error bad))

theorem kidRow_of {w : World} {base : Nat} {S : Nat → Prop} {e : TypeId} {kv : Value} {m : Nat} {ks : List Value} (h : w.ownsRow base e 1 kv m ks) (hlo : ∀ b, base ≤ b → S b) : KidRow w S kv ks ∧ ks.length = m := by
  have hlen : ks.length = m := by have := h.1; omega
  refine ⟨?_, hlen⟩
  have hh := h
  rcases h.2 with ⟨rfl, rfl⟩ | ⟨g, cap, cur, rfl, hg, _, hmc, _⟩
  · exact .inl ⟨List.eq_nil_of_length_eq_zero hlen, rfl⟩
  · refine .inr ⟨g, cap, by rw [hlen], hlo g hg, (hh.lt g rfl).2, by omega, fun j u hj => ?_⟩
    have := (List.getElem?_eq_some_iff.1 hj).1
    rw [hh.cellAt j (by omega)]; exact hj
set_option maxRecDepth 100000 in
theorem leafsize_any (q : Int) (w : World) : Calls Tryd.prog 65 #[.int .i64 q] w fun e w' => e = .returned (.int .i64 1) ∧ w = w' := by
  go_enter Tryd.func65, Tryd.ntmps65
  go_wp2_with fail
  go_ret
  exact ⟨rfl, rfl⟩
set_option maxRecDepth 100000 in
theorem innersize_any (b : Nat) (n : Int) (w : World) (hc : w.cell? ⟨b, 1, none⟩ = some (.int .i64 n)) : Calls Tryd.prog 66 #[.pointer (some ⟨b, 0, none⟩)] w fun e w' => e = .returned (.int .i64 n) ∧ w = w' := by
  go_enter Tryd.func66, Tryd.ntmps66
  go_wp2_with fail
  go_ret
  exact ⟨rfl, rfl⟩
theorem turned_then {a b c : World} {row row' : Option Nat} (h : a.grownBy b row) (k : b.grownBy c row') (hr : ∀ j, row' = some j → a.heap.size ≤ j) : a.grownBy c row :=
  ⟨k.os.trans h.os, k.tape.trans h.tape, k.output.trans h.output, Nat.le_trans h.size k.size, fun i hi hne => (k.block i (Nat.lt_of_lt_of_le hi h.size) (fun e => by have := hr i e.symm; omega)).trans (h.block i hi hne)⟩
theorem wrap64_small (x : Int) (h0 : -9223372036854775808 ≤ x) (h1 : x ≤ 9223372036854775807) : wrap64 x = x := by unfold wrap64; omega
/-- The node and the reader behind one argument more. -/
theorem grow_next {A B : Option Addr} {l : List Sy} {t : List Int} {sc tc n rb i xb an m : Nat} {W wr w5 w9 w11 : World} {kv kv' v : Value} {ks : List Value} {nodes j bad sz : Int} {o : Obj}
    (hrx : rb < xb) (hxW : W.heap.size ≤ xb) (hxw : xb < wr.heap.size) (hturn : W.grownBy wr (some rb)) (hown : wr.ownsRow (xb + 1) 78 1 kv m ks) (hx5 : xb < w5.heap.size) (hg5 : wr.grownBy w5 (some rb))
    (hR5 : Reader w5 rb A l.length sc B t.length tc j bad) (hs5 : Sized w5 (From wr.heap.size) v sz)
    (hst : Aside ((bad = 0 ∧ ∃ j1 j2 : Nat, j = j2 ∧ i < j1 ∧ j1 < j2 ∧ j2 ≤ t.length ∧ nodes = (j1 : Int) - i ∧ sz = (j2 : Int) - j1 ∧ KidsBy (Node wr (Beside xb kv) l t n) ks (i + 1) j1 ∧ Node w5 (From wr.heap.size) l t n v j1 j2 ∧ scanAt l t 1 i = scanAt l t (an - (m + 1)) j2) ∨ (bad ≠ 0 ∧ scanAt l t 1 i = .error bad)))
    (ho9 : w9.ownsRow (xb + 1) 78 1 kv' (m + 1) (ks ++ [v])) (hg9 : (w5.alloc o).grownBy w9 kv.ownBlock)
    (z0 : w9.cell? ⟨xb, 0, none⟩ = some (.int .i64 i)) (z1 : w9.cell? ⟨xb, 1, none⟩ = some (.int .i64 nodes)) (z2 : w9.cell? ⟨xb, 2, none⟩ = some kv) (zf : ∀ k, w9.frozen? ⟨xb, k, none⟩ = false)
    (hk' : kv'.ownBlock = kv.ownBlock ∨ kv'.ownBlock = some (w5.alloc o).heap.size) (hw11 : Over (w9.setCell ⟨xb, 2, none⟩ kv') w11) (hmax : t.length ≤ 140737488355328) :
    Grow A B l t sc tc n rb i xb an (m + 1) W (w11.setCell ⟨xb, 1, none⟩ (.int .i64 (wrap64 (nodes + sz)))) := by
  have own_lt : ∀ k, kv.ownBlock = some k → xb + 1 ≤ k ∧ k < wr.heap.size := hown.lt
  have hg5s := hg5.size
  have hg9s := hg9.size
  have hals : (w5.alloc o).heap.size = w5.heap.size + 1 := by simp
  have own9 : ∀ k, kv'.ownBlock = some k → xb + 1 ≤ k ∧ k < w9.heap.size := ho9.lt
  have hOg : ∀ row, (w9.setCell ⟨xb, 2, none⟩ kv').grownBy w11 row := fun row => ⟨hw11.os, hw11.tape, hw11.output, hw11.size, fun k hk _ => hw11.block k hk⟩
  have step : ∀ b, b < w5.heap.size → b ≠ xb → some b ≠ kv.ownBlock → (w11.setCell ⟨xb, 1, none⟩ (.int .i64 (wrap64 (nodes + sz)))).heap[b]? = w5.heap[b]? := fun b hb h1 h2 => by
    rw [heap_set_far (by simpa using h1), hw11.block b (by simp; omega), heap_set_far (by simpa using h1), hg9.block b (by omega) h2]
    exact (below_alloc0 w5 o).block b hb
  have hfs : w5.heap.size ≤ (w11.setCell ⟨xb, 1, none⟩ (.int .i64 (wrap64 (nodes + sz)))).heap.size := by
    have := hw11.size; simp at this ⊢; omega
  refine ⟨?_, j, bad, wrap64 (nodes + sz), kv', ks ++ [v], ?_, ?_, ?_, ?_, ?_, ?_, ?_⟩
  · have q1 := (hturn.trans hg5).trans (World.grownBy_alloc w5 o _)
    have q2 := turned_then q1 hg9 (fun k hk => by have := (own_lt k hk).1; omega)
    have q3 := turned_then q2 (turned_set w9 xb 2 kv') (fun k hk => by cases hk; exact hxW)
    exact turned_then (q3.trans (hOg _)) (turned_set w11 xb 1 _) (fun k hk => by cases hk; exact hxW)
  · have r1 := hR5.grown (World.grownBy_alloc w5 o none) (by simp)
    have r2 := r1.grown hg9 (fun e => by have := (own_lt rb e).1; omega)
    have r3 := r2.grown (turned_set w9 xb 2 kv') (by simp; omega)
    have r4 := r3.grown (hOg none) (by simp)
    exact r4.grown (turned_set w11 xb 1 _) (by simp; omega)
  · rw [set_off (by decide)]; exact cell_kept hw11 ((set_off (by decide)).trans z0)
  · exact set_same (cell_kept hw11 ((set_off (by decide)).trans z1))
  · rw [set_off (by decide)]; exact cell_kept hw11 (set_same z2)
  · intro k
    rw [World.frozen?_setCell]
    exact (hw11.frozen (p := ⟨xb, k, none⟩) (by simp; exact World.block_lt_of_cell? w9 _ z0)).trans (by rw [World.frozen?_setCell]; exact zf k)
  · have hne : kv'.ownBlock ≠ some xb := fun e => by have := (own9 xb e).1; omega
    exact ((ho9.kept (turned_set w9 xb 2 kv') (.inr hne)).kept (hOg (some xb)) (.inr hne)).kept (turned_set w11 xb 1 _) (.inr hne)
  · rcases hst.out with ⟨rfl, j1, j2, rfl, h1, h2, h3, rfl, rfl, hks, hN, hsc⟩ | ⟨hb, hsc⟩
    · refine Or.inl ⟨rfl, j2, rfl, by omega, h3, ?_, ?_, hsc⟩
      · rw [wrap64_small _ (by omega) (by omega)]; omega
      · have K1 : Keeps (Beside xb kv) (Beside xb kv') wr (w11.setCell ⟨xb, 1, none⟩ (.int .i64 (wrap64 (((j1 : Int) - i) + ((j2 : Int) - j1))))) := by
          refine ⟨by omega, fun b hb hlt => ⟨⟨hb.1, ?_⟩, ?_⟩⟩
          · rcases hk' with h | h
            · rw [h]; exact hb.2
            · rw [h]; simp; omega
          · have hb1 := hb.1
            rw [step b (by omega) (by omega) hb.2]
            exact hg5.block b hlt (by simp; omega)
        have K2 : Keeps (From wr.heap.size) (Beside xb kv') w5 (w11.setCell ⟨xb, 1, none⟩ (.int .i64 (wrap64 (((j1 : Int) - i) + ((j2 : Int) - j1))))) := by
          refine ⟨hfs, fun b hb hlt => ?_⟩
          have hb' : wr.heap.size ≤ b := hb
          refine ⟨⟨by omega, ?_⟩, ?_⟩
          · rcases hk' with h | h
            · rw [h]; exact fun e => by have := (own_lt b e.symm).2; omega
            · rw [h]; simp; omega
          · exact step b hlt (by omega) (fun e => by have := (own_lt b e.symm).2; omega)
        exact KidsBy.snoc (hks.mono fun _ _ _ => Node.keep K1) (hN.keep K2)
    · exact Or.inr ⟨hb, hsc⟩
/-- One argument more is read. -/
theorem kid_any (A B : Option Addr) (l : List Sy) (t : List Int) (sc tc n rb i xb an m : Nat) (W w : World) (hg : Grow A B l t sc tc n rb i xb an m W w) (hm : m < an)
    (ih : ∀ (rb i : Nat) (w : World), t.length - i ≤ n → i ≤ t.length → Sigs w A l → Ints w B t →
      (0 < l.length → ∀ a, A = some a → a.block ≠ rb) → (0 < t.length → ∀ a, B = some a → a.block ≠ rb) → Reader w rb A l.length sc B t.length tc i 0 →
      Calls Tryd.prog 43 #[.pointer (some ⟨rb, 0, none⟩)] w (ReadPost A B l t sc tc n rb i w))
    (h1 : t.length - i ≤ n + 1) (hl : Sigs w A l) (ht : Ints w B t) (hA : 0 < l.length → ∀ a, A = some a → a.block ≠ rb) (hB : 0 < t.length → ∀ a, B = some a → a.block ≠ rb) :
    ∃ (nodes : Int) (kv : Value) (ks : List Value), w.cell? ⟨xb, 0, none⟩ = some (.int .i64 i) ∧ w.cell? ⟨xb, 1, none⟩ = some (.int .i64 nodes) ∧ w.cell? ⟨xb, 2, none⟩ = some kv ∧ (∀ k, w.frozen? ⟨xb, k, none⟩ = false) ∧
      w.ownsRow (xb + 1) 78 1 kv m ks ∧ W.grownBy w (some rb) ∧
      Calls Tryd.prog 43 #[.pointer (some ⟨rb, 0, none⟩)] w fun e w5 => ∃ (v : Value) (j bad sz : Int), e = .returned v ∧ w.grownBy w5 (some rb) ∧ Reader w5 rb A l.length sc B t.length tc j bad ∧ Sized w5 (From w.heap.size) v sz ∧
        Aside ((bad = 0 ∧ ∃ j1 j2 : Nat, j = j2 ∧ i < j1 ∧ j1 < j2 ∧ j2 ≤ t.length ∧ nodes = (j1 : Int) - i ∧ sz = (j2 : Int) - j1 ∧ KidsBy (Node w (Beside xb kv) l t n) ks (i + 1) j1 ∧ Node w5 (From w.heap.size) l t n v j1 j2 ∧ scanAt l t 1 i = scanAt l t (an - (m + 1)) j2) ∨ (bad ≠ 0 ∧ scanAt l t 1 i = .error bad)) := by
  obtain ⟨hturn, j, bad, nodes, kv, ks, hR, y0, y1, y2, yf, hown, hst⟩ := hg
  refine ⟨nodes, kv, ks, y0, y1, y2, yf, hown, hturn, ?_⟩
  rcases hst.out with ⟨rfl, j1, rfl, hij, hjl, hnd, hks, hsc⟩ | ⟨hb, hsc⟩
  · refine (ih rb j1 w (by omega) hjl hl ht hA hB hR).mono ?_
    rintro e w5 ⟨v, j5, bad5, rfl, hg5, hR5, ⟨sz, hs5⟩, hp⟩
    have hp := hp.out
    have hadd := scanAt_add l t 1 (an - (m + 1)) j1
    rw [show 1 + (an - (m + 1)) = an - m by omega] at hadd
    cases hs : scanAt l t 1 j1 with
    | ok j2 =>
      rw [hs] at hp hadd
      obtain ⟨rfl, rfl, hN⟩ := hp
      have hok := scanAt_ok hs
      exact ⟨v, j2, 0, (j2 : Int) - j1, rfl, hg5, hR5, hN.sized, Or.inl ⟨rfl, j1, j2, rfl, hij, by omega, hok.2 hjl, hnd, rfl, hks, hN, hsc.trans hadd⟩⟩
    | error er =>
      rw [hs] at hp hadd
      subst hp
      have := scanAt_err hs
      exact ⟨v, j5, bad5, sz, rfl, hg5, hR5, hs5, Or.inr ⟨by rcases this with h | h <;> omega, hsc.trans hadd⟩⟩
  · refine (read_bad rb A B _ sc _ tc j bad hb w hR).mono ?_
    rintro e w5 ⟨rfl, rfl⟩
    exact ⟨_, j, bad, 1, rfl, turned_refl _ _, hR, .inl ⟨_, rfl, rfl⟩, Or.inr ⟨hb, hsc⟩⟩

set_option maxRecDepth 100000 in
set_option maxHeartbeats 4000000 in
theorem read_any (A B : Option Addr) (l : List Sy) (t : List Int) (sc tc : Nat) (hG : Good l) : ∀ (n rb i : Nat) (w : World), t.length - i ≤ n → i ≤ t.length → Sigs w A l → Ints w B t →
    (0 < l.length → ∀ a, A = some a → a.block ≠ rb) → (0 < t.length → ∀ a, B = some a → a.block ≠ rb) → Reader w rb A l.length sc B t.length tc i 0 →
    Calls Tryd.prog 43 #[.pointer (some ⟨rb, 0, none⟩)] w (ReadPost A B l t sc tc n rb i w) := by
  intro n
  induction n with
  | zero =>
    intro rb i w h1 h2 hl ht hA hB hR
    exact read_short A B l t sc tc 0 rb i w (by omega) hR
  | succ n ih =>
    intro rb i w h1 h2 hl ht hA hB hR
    by_cases hi : i < t.length
    · by_cases hc : codeBad l (t.getD i 0)
      · exact read_wrong A B l t sc tc (n + 1) rb i w hi hc ht hG.1 hR
      by_cases hneg : t.getD i 0 < 0
      · exact read_leaf A B l t sc tc n rb i w hi hc hneg ht hR
      have HS := Lib.hid (scanAt_step l t 0 i hi hc)
      have HR := Lib.hid hR
      obtain ⟨c0, c1, c2, c3, fz⟩ := hR
      have fz2 := fz 2
      have hmax := ht.2.1
      have hmaxl := hG.1
      have HT := Lib.hid ht
      have HL := Lib.hid hl
      obtain ⟨b, off, c, rfl, hgc, hc1, hc2, hcc⟩ := ht.at_ hi
      have HC := Lib.hid hgc
      rw [hgc] at hc hneg
      clear hgc
      have hq : ((i : Int) == (t.length : Int)) = false := beq_eq_false_iff_ne.2 (by omega)
      have hi2 : (i : Int) < (t.length : Int) := by omega
      have hcl : ¬ ((l.length : Int) ≤ c) := fun h => hc (.inl h)
      have hcm : ¬ (c < -1048576) := fun h => hc (.inr h)
      clear hc
      obtain ⟨cn, rfl⟩ := Int.eq_ofNat_of_zero_le (show 0 ≤ c by omega)
      have hcn : cn < l.length := by omega
      obtain ⟨b2, off2, sn, an, rfl, hgs, _, _, ha⟩ := hl.at_ hcn
      have han := hG.2 _ (getD_mem (d := sy0) hcn hgs)
      obtain ⟨an, rfl⟩ := Int.eq_ofNat_of_zero_le han.1
      have han8 : an ≤ 8 := by have := han.2; simp at this; omega
      have HAR : Hid (arOf l (t.getD i 0) = an) := Lib.hid (by rw [HC.out, arOf, if_neg hneg, Int.toNat_natCast, hgs]; rfl)
      clear hgs han hl ht
      have hrb := HR.out.lt
      have hbb := World.block_lt_of_cell? w _ hcc
      have hb2 := World.block_lt_of_cell? w _ ha
      have hclB : decide (l.length ≤ cn) = false := decide_eq_false (by omega)
      have hcmB : decide ((cn : Int) < -1048576) = false := decide_eq_false (by omega)
      go_enter Tryd.func43, Tryd.ntmps43
      go_wp2_with fail
      go_quiet (fail)
      go_wp2_with fail
      go_quiet (fail)
      generalize hw1 : (w.drewN _).drewN _ = w1
      have hR1 : Reader w1 rb (some ⟨b2, off2, none⟩) l.length sc (some ⟨b, off, none⟩) t.length tc i 0 := hw1 ▸ (HR.out.draw _).draw _
      have hg1 : w.grownBy w1 (some rb) := hw1 ▸ turned_drew (turned_drew (turned_refl _ _) _) _
      have ha1 : w1.cell? ⟨b2, off2 + cn * 2 + 1, none⟩ = some (.int .i64 an) := by rw [← hw1]; exact ha
      have hsz1 : w1.heap.size = w.heap.size := by rw [← hw1]; rfl
      clear c0 c1 c2 c3 fz fz2 hcc ha hw1
      have hal := below_alloc0 w1 (.cells #[.int .i64 i, .int .i64 1, .slice none 0 0] 117)
      obtain ⟨W2, hW2⟩ : ∃ x, x = w1.alloc (.cells #[.int .i64 i, .int .i64 1, .slice none 0 0] 117) := ⟨_, rfl⟩
      rw [← hW2] at hal
      have e0 := cell_kept hal hR1.c0
      have e1 := cell_kept hal hR1.c1
      have e2 := cell_kept hal hR1.c2
      have e3 := cell_kept hal hR1.c3
      have ef2 := (hal.frozen (p := ⟨rb, 2, none⟩) hR1.lt).trans (hR1.fz 2)
      have ea := cell_kept hal ha1
      rw [hW2] at e0 e1 e2 e3 ef2 ea
      have hne2 : rb ≠ b2 := fun e => hA (Nat.lt_of_le_of_lt (Nat.zero_le cn) (by omega)) _ rfl e.symm
      have hR3 := (hR1.setAt ((i : Int) + 1)).grown (World.grownBy_alloc (w1.setCell ⟨rb, 2, none⟩ (.int .i64 ((i : Int) + 1))) (.cells #[.int .i64 i, .int .i64 1, .slice none 0 0] 117) none) (by simp)
      have eS : (w1.setCell ⟨rb, 2, none⟩ (.int .i64 ((i : Int) + 1))).cell? ⟨b2, off2 + cn * 2 + 1, none⟩ = some (.int .i64 an) := (set_blk hne2).trans ha1
      have eS2 := cell_kept (below_alloc0 (w1.setCell ⟨rb, 2, none⟩ (.int .i64 ((i : Int) + 1))) (.cells #[.int .i64 i, .int .i64 1, .slice none 0 0] 117)) eS
      have e30 := hR3.c0
      have d0 := hR1.c0
      have d2 := hR1.c2
      have dz := hR1.fz 2
      go_wp2_with fail
      clear hal hW2 W2 e0 e1 e2 e3 ef2 ea eS eS2 e30 d0 d2 dz ha1
      have hsz3 : (w1.setCell ⟨rb, 2, none⟩ (.int .i64 ((i : Int) + 1))).heap.size = w.heap.size := by simp [hsz1]
      have hg3 : w.grownBy ((w1.setCell ⟨rb, 2, none⟩ (.int .i64 ((i : Int) + 1))).alloc (.cells #[.int .i64 i, .int .i64 1, .slice none 0 0] 117)) (some rb) :=
        (hg1.trans (turned_set _ _ _ _)).trans (World.grownBy_alloc _ _ _)
      have x0 := fun k => World.cell?_alloc_new (w1.setCell ⟨rb, 2, none⟩ (.int .i64 ((i : Int) + 1))) #[.int .i64 i, .int .i64 1, .slice none 0 0] 117 k
      have xf := fun k => World.frozen?_alloc_new (w1.setCell ⟨rb, 2, none⟩ (.int .i64 ((i : Int) + 1))) #[.int .i64 i, .int .i64 1, .slice none 0 0] 117 k
      have hsz4 : ((w1.setCell ⟨rb, 2, none⟩ (.int .i64 ((i : Int) + 1))).alloc (.cells #[.int .i64 i, .int .i64 1, .slice none 0 0] 117)).heap.size = w.heap.size + 1 := by simp [hsz1]
      rw [hsz3] at x0 xf
      obtain ⟨W3, hW3⟩ : ∃ x, x = (w1.setCell ⟨rb, 2, none⟩ (.int .i64 ((i : Int) + 1))).alloc (.cells #[.int .i64 i, .int .i64 1, .slice none 0 0] 117) := ⟨_, rfl⟩
      rw [← hW3] at hR3 hg3 x0 xf hsz4 ⊢
      clear hW3 hsz3 hR1 hg1
      obtain ⟨xb, hxb⟩ : ∃ x, x = w.heap.size := ⟨_, rfl⟩
      rw [← hxb] at x0 xf hsz4 ⊢
      have hrx : rb < xb := by rw [hxb]; exact hrb
      have hG0 : Grow (some ⟨b2, off2, none⟩) (some ⟨b, off, none⟩) l t sc tc n rb i xb an 0 w W3 := ⟨hg3, (i : Int) + 1, 0, 1, .slice none 0 0, [], hR3, x0 0, x0 1, x0 2, xf, ⟨rfl, .inl ⟨rfl, rfl⟩⟩,
        Or.inl ⟨rfl, i + 1, by omega, by omega, by omega, by omega, rfl, by have h := HS.out; rw [HAR.out] at h; simpa using h⟩⟩
      have HXB := Lib.hid hxb
      clear hxb
      go_loopg [88] an (fun gk v wx => ∃ m : Nat, Aside (gk + m = an) ∧ v = .int .i64 m ∧ Grow (some ⟨b2, off2, none⟩) (some ⟨b, off, none⟩) l t sc tc n rb i xb an m w wx)
      case atStart => exact ⟨0, (rfl : an + 0 = an), rfl, hG0⟩
      case round =>
        clear hG0 hg3 hR3 x0 xf hsz4
        obtain ⟨m, hgm, rfl, hGw⟩ := hrel
        have hm : m ≤ an := by have := hgm.out; omega
        by_cases hma : m < an
        · obtain ⟨nodes, kv, ks, y0, y1, y2, yf, hown, hturn, hcall⟩ := kid_any (some ⟨b2, off2, none⟩) (some ⟨b, off, none⟩) l t sc tc n rb i xb an m w wr hGw hma ih h1 (HL.out.turned hGw.turned hA) (HT.out.turned hGw.turned hB) hA hB
          go_wp2_with fail
          refine hcall.mono ?_
          rintro e w5 ⟨v, j, bad, sz, rfl, hg5, hR5, hs5, hst⟩
          have hv1 : ∀ u ∈ [v], u.oneCell' = true := by
            intro u hu
            simp at hu
            subst hu
            rcases hs5 with ⟨q, rfl, _⟩ | ⟨q, rfl, _⟩ <;> rfl
          have hxr : some xb ≠ some rb := by simp; omega
          have hkr : kv.ownBlock ≠ some rb := fun e => by have := (hown.lt rb e).1; omega
          have hkx : kv.ownBlock ≠ some xb := fun e => by have := (hown.lt xb e).1; omega
          have hxw : xb < wr.heap.size := World.block_lt_of_cell? wr _ y0
          have z0 := hg5.cell y0 hxr
          have z1 := hg5.cell y1 hxr
          have z2 := hg5.cell y2 hxr
          have zf := fun k => (World.frozen?_of_block (a := ⟨xb, k, none⟩) (hg5.block xb hxw hxr)).trans (yf k)
          have own5 := hown.kept hg5 (.inr hkr)
          have hx5 : xb < w5.heap.size := World.block_lt_of_cell? w5 _ z0
          clear y0 y1 y2 yf hcall
          obtain ⟨Ak, ck, rfl, hkn⟩ := own_slice hown
          rcases hs5 with ⟨q, rfl, hsz5⟩ | ⟨q, rfl, hq, hsz5⟩
          · go_wp2_with (at_builtin; refine push (.tmp 96) (.tmp 98) 115 78 .nilIface 1 16 rfl rfl Tryd.underlying115 infoNode rfl (by decide) (by decide) (xb + 1) (.slice Ak m ck) m ks [leafV q] rfl (own5.alloc _) _ 0 1 rfl rfl (var_cells _ _ _ _ rfl) hv1 (by omega) (by simp; omega) ?_; intro g9 cap9 w9 ho9 hg9 ha9 hlt9; have z09 := hg9.cell (cell_kept (below_alloc0 w5 _) z0) hkx.symm; have z19 := hg9.cell (cell_kept (below_alloc0 w5 _) z1) hkx.symm; have z29 := hg9.cell (cell_kept (below_alloc0 w5 _) z2) hkx.symm; have zf9 := fun k => (World.frozen?_of_block (a := ⟨xb, k, none⟩) (hg9.block xb (by simp; omega) hkx.symm)).trans ((World.frozen?_of_block (a := ⟨xb, k, none⟩) ((below_alloc0 w5 _).block xb hx5)).trans (zf k)); have zf92 := zf9 2)
            obtain ⟨W10, hW10⟩ : ∃ x, x = w9.setCell ⟨xb, 2, none⟩ (.slice (some ⟨g9, 0, none⟩) (m + 1) cap9) := ⟨_, rfl⟩
            rw [← hW10]
            have u1 : W10.cell? ⟨xb, 1, none⟩ = some (.int .i64 nodes) := by rw [hW10, set_off (by decide)]; exact z19
            have uf : W10.frozen? ⟨xb, 1, none⟩ = false := by rw [hW10, World.frozen?_setCell]; exact zf9 1
            refine wp_region_ext_tail (I := Over W10) 9 (by kernel_rfl) (by kernel_rfl) (Over.refl W10) ?_
            have f1 := Over.cell u1
            simp only [List.take_succ_cons, List.take_zero, List.drop_succ_cons, List.drop_zero]
            repeat (go_big_quiet_step ((go_at_call 65; exact Calls.over ((leafsize_any _ _).mono fun e w' h => ⟨h.1, by rw [← h.2]; exact Below.refl _ _⟩))))
            go_big_quiet_want
            unfold Oper.quiet
            simp [go_sem]
            refine ⟨.int .i64 1, fun z => ?_, ?_⟩
            · go_invoke
              simp [go_sem]
              exact Calls.over ((leafsize_any _ _).mono fun e w' h => ⟨h.1, by rw [← h.2]; exact Below.refl _ _⟩)
            go_big_quiet_on
            repeat (go_big_quiet_step (fail))
            try refine wpQuiet_nil ?_
            intro w11 hw11
            have k1 := cell_kept hw11 u1
            have kf := (hw11.frozen (p := ⟨xb, 1, none⟩) (World.block_lt_of_cell? W10 _ u1)).trans uf
            clear f1
            go_wp2_with fail
            go_roundg (an - (m + 1))
            case measure => have := hgm.out; omega
            case rel =>
              refine ⟨m + 1, by have := hgm.out; show _ = _; omega, by go_num, ?_⟩
              have hs5 : Sized w5 (From wr.heap.size) (leafV q) sz := .inl ⟨q, rfl, hsz5⟩
              have := grow_next (W := w) hrx (by rw [HXB.out]; exact Nat.le_refl _) hxw hturn hown hx5 hg5 hR5 hs5 hst ho9 hg9 z09 z19 z29 zf9 (by rcases ha9 with h | h; exact .inl h.symm; exact .inr (congrArg some h)) (hW10 ▸ hw11) hmax
              rw [hsz5] at this
              exact this
          · go_wp2_with (at_builtin; refine push (.tmp 96) (.tmp 98) 115 78 .nilIface 1 16 rfl rfl Tryd.underlying115 infoNode rfl (by decide) (by decide) (xb + 1) (.slice Ak m ck) m ks [innerV q] rfl (own5.alloc _) _ 0 1 rfl rfl (var_cells _ _ _ _ rfl) hv1 (by omega) (by simp; omega) ?_; intro g9 cap9 w9 ho9 hg9 ha9 hlt9; have z09 := hg9.cell (cell_kept (below_alloc0 w5 _) z0) hkx.symm; have z19 := hg9.cell (cell_kept (below_alloc0 w5 _) z1) hkx.symm; have z29 := hg9.cell (cell_kept (below_alloc0 w5 _) z2) hkx.symm; have zf9 := fun k => (World.frozen?_of_block (a := ⟨xb, k, none⟩) (hg9.block xb (by simp; omega) hkx.symm)).trans ((World.frozen?_of_block (a := ⟨xb, k, none⟩) ((below_alloc0 w5 _).block xb hx5)).trans (zf k)); have zf92 := zf9 2)
            obtain ⟨W10, hW10⟩ : ∃ x, x = w9.setCell ⟨xb, 2, none⟩ (.slice (some ⟨g9, 0, none⟩) (m + 1) cap9) := ⟨_, rfl⟩
            rw [← hW10]
            have u1 : W10.cell? ⟨xb, 1, none⟩ = some (.int .i64 nodes) := by rw [hW10, set_off (by decide)]; exact z19
            have uf : W10.frozen? ⟨xb, 1, none⟩ = false := by rw [hW10, World.frozen?_setCell]; exact zf9 1
            have us : W10.cell? ⟨q, 1, none⟩ = some (.int .i64 sz) := by
              have hq' : wr.heap.size ≤ q := hq
              have hqo : some q ≠ (Value.slice Ak m ck).ownBlock := fun e => by have := (hown.lt q e.symm).2; omega
              rw [hW10, set_blk (by omega)]
              exact hg9.cell (cell_kept (below_alloc0 w5 _) hsz5) hqo
            refine wp_region_ext_tail (I := Over W10) 9 (by kernel_rfl) (by kernel_rfl) (Over.refl W10) ?_
            have f1 := Over.cell u1
            simp only [List.take_succ_cons, List.take_zero, List.drop_succ_cons, List.drop_zero]
            repeat (go_big_quiet_step (fail))
            go_big_quiet_want
            unfold Oper.quiet
            simp [go_sem]
            refine ⟨.int .i64 sz, fun z => ?_, ?_⟩
            · go_invoke
              simp [go_sem]
              exact Calls.over ((innersize_any q sz _ (cell_kept (Ext.ok _) us)).mono fun e w' h => ⟨h.1, by rw [← h.2]; exact Below.refl _ _⟩)
            go_big_quiet_on
            repeat (go_big_quiet_step (fail))
            try refine wpQuiet_nil ?_
            intro w11 hw11
            have k1 := cell_kept hw11 u1
            have kf := (hw11.frozen (p := ⟨xb, 1, none⟩) (World.block_lt_of_cell? W10 _ u1)).trans uf
            clear f1
            go_wp2_with fail
            go_roundg (an - (m + 1))
            case measure => have := hgm.out; omega
            case rel =>
              refine ⟨m + 1, by have := hgm.out; show _ = _; omega, by go_num, ?_⟩
              have hs5 : Sized w5 (From wr.heap.size) (innerV q) sz := .inr ⟨q, rfl, hq, hsz5⟩
              have := grow_next (W := w) hrx (by rw [HXB.out]; exact Nat.le_refl _) hxw hturn hown hx5 hg5 hR5 hs5 hst ho9 hg9 z09 z19 z29 zf9 (by rcases ha9 with h | h; exact .inl h.symm; exact .inr (congrArg some h)) (hW10 ▸ hw11) hmax
              exact this
        · go_wp2_with fail
          go_ret
          obtain ⟨hturn, j, bad, nodes, kv, ks, hR, y0, y1, y2, yf, hown, hst⟩ := hGw
          have hwx : w.heap.size ≤ xb := Nat.le_of_eq HXB.out.symm
          obtain ⟨hkr, hkl⟩ := kidRow_of (S := From w.heap.size) hown (fun b hb => by show _ ≤ _; omega)
          refine ⟨innerV xb, j, bad, rfl, hturn, hR, ⟨nodes, .inr ⟨xb, rfl, hwx, y1⟩⟩, ?_⟩
          show match scanAt l t 1 i with | .ok m => _ | .error er => _
          rcases hst.out with ⟨rfl, j', rfl, hij, hjl, rfl, hks, hsc⟩ | ⟨hb, hsc⟩
          · rw [hsc, show an - m = 0 by omega, scanAt_zero]
            exact ⟨rfl, rfl, hi, hij, .inr ⟨by rw [HC.out]; omega, xb, kv, ks, rfl, hwx, y0, y1, y2, hkr, by rw [HAR.out]; omega, hks.mono fun _ _ _ => Node.keep ⟨Nat.le_refl _, fun b hb _ => ⟨by show _ ≤ _; have := hb.1; omega, rfl⟩⟩⟩⟩
          · rw [hsc]
    · exact read_short A B l t sc tc (n + 1) rb i w (by omega) hR
end Go.Proofs.YtfelhlffiiephaaDoor
