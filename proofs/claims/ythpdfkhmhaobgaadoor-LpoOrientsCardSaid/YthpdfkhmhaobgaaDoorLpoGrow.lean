/- The walk that grows the path order's tree of a term. Conditions: the signature may be. -/
import Derived.Test.YthpdfkhmhaobgaaDoorLpoNode
import Derived.Test.YthpdfkhmhaobgaaDoorReadA
set_option linter.unusedVariables false
set_option linter.unusedSimpArgs false
set_option linter.unnecessarySimpa false
namespace Go.Proofs.YthpdfkhmhaobgaaDoor
open Go.RowKit Go.Lib

theorem below_turned {B : Nat} {w0 w w' : World} {row : Option Nat} (h : Below B w0 w) (hB : B ≤ w.heap.size) (hg : w.grownBy w' row) (hr : ∀ k, row = some k → B ≤ k) : Below B w0 w' := h.grown hg hB hr
/-- One argument more. -/
theorem lgrow_next {l : List Sy} {t : List Int} {tb tf tc n i xb an m j j2 : Nat} {W wr w5 w9 : World} {kv kv' v : Value} {ks : List Value} {o : Obj}
    (hW : Below W.heap.size W wr) (hxW : W.heap.size ≤ xb) (y0 : wr.cell? ⟨xb, 0, none⟩ = some (.int .i64 (t.getD i 0))) (y1 : wr.cell? ⟨xb, 1, none⟩ = some (.int .i64 i)) (y2 : wr.cell? ⟨xb, 2, none⟩ = some (.slice none 0 0)) (y3 : wr.cell? ⟨xb, 3, none⟩ = some kv) (yf : ∀ k, wr.frozen? ⟨xb, k, none⟩ = false)
    (hown : wr.ownsRow (xb + 1) 67 1 kv m ks) (hij : i < j) (hks : KidsBy (LNode wr (Beside xb kv) l t tb tf n) ks (i + 1) j)
    (hb5 : Below wr.heap.size wr w5) (hN : LNode w5 (From wr.heap.size) l t tb tf n v j j2) (hj2 : j < j2 ∧ j2 ≤ t.length) (hsc : scanAt l t 1 i = scanAt l t (an - (m + 1)) j2)
    (ho9 : w9.ownsRow (xb + 1) 67 1 kv' (m + 1) (ks ++ [v])) (hg9 : (w5.alloc o).grownBy w9 kv.ownBlock) (hk' : kv'.ownBlock = kv.ownBlock ∨ kv'.ownBlock = some (w5.alloc o).heap.size) :
    LGrow l t tb tf tc n i xb an (m + 1) W (w9.setCell ⟨xb, 3, none⟩ kv') j2 := by
  have own_lt : ∀ k, kv.ownBlock = some k → xb + 1 ≤ k ∧ k < wr.heap.size := hown.lt
  have own9 : ∀ k, kv'.ownBlock = some k → xb + 1 ≤ k ∧ k < w9.heap.size := ho9.lt
  have hxw : xb < wr.heap.size := World.block_lt_of_cell? wr _ y0
  have hb5s := hb5.size
  have hg9s := hg9.size
  have hals : (w5.alloc o).heap.size = w5.heap.size + 1 := by simp
  have hx : some xb ≠ kv.ownBlock := fun e => by have := (own_lt xb e.symm).1; omega
  have ba := below_then hb5 hb5s (below_alloc0 w5 o)
  have step : ∀ b, b < w5.heap.size → b ≠ xb → some b ≠ kv.ownBlock → (w9.setCell ⟨xb, 3, none⟩ kv').heap[b]? = w5.heap[b]? := fun b hb h1 h2 => by
    rw [heap_set_far (by simpa using h1), hg9.block b (by omega) h2]
    exact (below_alloc0 w5 o).block b hb
  have hfs : w5.heap.size ≤ (w9.setCell ⟨xb, 3, none⟩ kv').heap.size := by simp; omega
  have cell9 : ∀ k u, wr.cell? ⟨xb, k, none⟩ = some u → w9.cell? ⟨xb, k, none⟩ = some u := fun k u h => hg9.cell (cell_kept ba h) hx
  refine ⟨?_, kv', ks ++ [v], hxW, ?_, ?_, ?_, ?_, ?_, ?_, by omega, hj2.2, ?_, hsc⟩
  · have q1 := below_then hW hW.size ba
    have q2 := below_turned q1 q1.size hg9 (fun k hk => by have := (own_lt k hk).1; omega)
    exact below_set q2 hxW _
  · rw [set_off (by decide)]; exact cell9 _ _ y0
  · rw [set_off (by decide)]; exact cell9 _ _ y1
  · rw [set_off (by decide)]; exact cell9 _ _ y2
  · exact set_same (cell9 _ _ y3)
  · intro k
    rw [World.frozen?_setCell]
    have h1 : (w5.alloc o).frozen? ⟨xb, k, none⟩ = false := (ba.frozen (p := ⟨xb, k, none⟩) hxw).trans (yf k)
    exact (World.frozen?_of_block (a := ⟨xb, k, none⟩) (hg9.block xb (by omega) hx)).trans h1
  · have hne : kv'.ownBlock ≠ some xb := fun e => by have := (own9 xb e).1; omega
    exact ho9.kept (turned_set w9 xb 3 kv') (.inr hne)
  · have K1 : Keeps (Beside xb kv) (Beside xb kv') wr (w9.setCell ⟨xb, 3, none⟩ kv') := by
      refine ⟨by omega, fun b hb hlt => ⟨⟨hb.1, ?_⟩, ?_⟩⟩
      · rcases hk' with h | h
        · rw [h]; exact hb.2
        · rw [h]; simp; omega
      · have hb1 := hb.1
        rw [step b (by omega) (by omega) hb.2]
        exact hb5.block b hlt
    have K2 : Keeps (From wr.heap.size) (Beside xb kv') w5 (w9.setCell ⟨xb, 3, none⟩ kv') := by
      refine ⟨hfs, fun b hb hlt => ?_⟩
      have hb' : wr.heap.size ≤ b := hb
      refine ⟨⟨by omega, ?_⟩, ?_⟩
      · rcases hk' with h | h
        · rw [h]; exact fun e => by have := (own_lt b e.symm).2; omega
        · rw [h]; simp; omega
      · exact step b hlt (by omega) (fun e => by have := (own_lt b e.symm).2; omega)
    exact KidsBy.snoc (hks.mono fun _ _ _ => LNode.keep K1) (hN.keep K2)
theorem kids_len_eq {R : Value → Nat → Nat → Prop} : True := trivial
set_option maxRecDepth 100000 in
set_option maxHeartbeats 4000000 in
theorem grow_any (A : Option Addr) (tb tf : Nat) (l : List Sy) (t : List Int) (sc tc : Nat) (hG : Good l) (htc : t.length ≤ tc) : ∀ (n i e : Nat) (w : World), t.length - i ≤ n → scanAt l t 1 i = .ok e → Sigs w A l → Ints w (some ⟨tb, tf, none⟩) t →
    Calls Tryd.prog 26 #[.slice A l.length sc, .slice (some ⟨tb, tf, none⟩) t.length tc, .int .i64 i] w fun e' w' => ∃ v, e' = .returned (.tuple #[v, .int .i64 e]) ∧ Below w.heap.size w w' ∧ LNode w' (From w.heap.size) l t tb tf n v i e := by
  intro n
  induction n with
  | zero =>
    intro i e w h1 hs hl ht
    have := (scan_more (k := 0) hs).1
    omega
  | succ n ih =>
    intro i e w h1 hs hl ht
    obtain ⟨hi, hcb, hN⟩ := scan_more (k := 0) hs
    have hie : i < e := by have := (scanAt_ok hs).1; omega
    have hel : e ≤ t.length := (scanAt_ok hs).2 (by omega)
    have hmax := ht.2.1
    have hml := hG.1
    obtain ⟨b, off, c, hbe, hgc, hc1, hc2, hcc⟩ := ht.at_ hi
    cases hbe
    rw [hgc] at hcb hN
    have HC := Lib.hid hgc
    have HS := Lib.hid hs
    have HT := Lib.hid ht
    clear hgc hs
    by_cases hneg : c < 0
    · have ha : arOf l c = 0 := by unfold arOf; rw [if_pos hneg]
      have he : e = i + 1 := by
        rw [ha, scanAt_zero] at hN
        injection hN with hN
        exact hN.symm
      have HE := Lib.hid he
      clear he ha hN hcb ih
      go_enter Tryd.func26, Tryd.ntmps26
      go_wp2_with fail
      go_ret2
      refine ⟨_, by rw [HE.out]; rfl, Below.refl _ _, hi, hie, hel, HS.out, .inl ⟨by rw [HC.out]; exact hneg, by rw [HC.out]; rfl⟩⟩
    · obtain ⟨cn, rfl⟩ := Int.eq_ofNat_of_zero_le (show 0 ≤ c by omega)
      have hcn : cn < l.length := by unfold codeBad at hcb; omega
      have HL := Lib.hid hl
      obtain ⟨b2, off2, sn, an, rfl, hgs, _, _, ha⟩ := hl.at_ hcn
      have han := hG.2 _ (getD_mem (d := sy0) hcn hgs)
      obtain ⟨an, rfl⟩ := Int.eq_ofNat_of_zero_le han.1
      have han8 : an ≤ 8 := by have := han.2; simp at this; omega
      have har : arOf l (cn : Int) = an := by rw [arOf, if_neg hneg, Int.toNat_natCast, hgs]; rfl
      rw [har, Nat.zero_add] at hN
      have HAR := Lib.hid har
      have hal := below_alloc0 w (.cells #[.int .i64 cn, .int .i64 i, .slice none 0 0, .slice none 0 0] 109)
      have x0 := fun k => World.cell?_alloc_new w #[.int .i64 cn, .int .i64 i, .slice none 0 0, .slice none 0 0] 109 k
      have xf := fun k => World.frozen?_alloc_new w #[.int .i64 cn, .int .i64 i, .slice none 0 0, .slice none 0 0] 109 k
      obtain ⟨w1, hw1⟩ : ∃ x, x = w.alloc (.cells #[.int .i64 cn, .int .i64 i, .slice none 0 0, .slice none 0 0] 109) := ⟨_, rfl⟩
      rw [← hw1] at x0 xf hal
      have hcc1 := cell_kept hal hcc
      have ha1 := cell_kept hal ha
      have hsz1 : w1.heap.size = w.heap.size + 1 := by rw [hw1]; simp
      have hcc2 := hcc1
      have ha2 := ha1
      rw [hw1] at hcc2 ha2
      clear hgs han har hcb hl ht
      go_enter Tryd.func26, Tryd.ntmps26
      go_wp2_with fail
      rw [← hw1]
      obtain ⟨xb, hxb⟩ : ∃ x, x = w.heap.size := ⟨_, rfl⟩
      rw [← hxb] at x0 xf ⊢
      have hG0 : LGrow l t tb tf tc n i xb an 0 w w1 (i + 1) := ⟨hal, .slice none 0 0, [], by omega, by rw [HC.out]; exact x0 0, x0 1, x0 2, x0 3, xf, ⟨rfl, .inl ⟨rfl, rfl⟩⟩, by omega, by omega, rfl, by rw [HS.out, Nat.sub_zero]; exact hN.symm⟩
      have HXB := Lib.hid hxb
      clear hxb hw1 x0 xf hcc2 ha2 hN hsz1 hcc1 ha1 hal hcc ha
      go_loopg [9, 41] an (fun gk jv mv wx => ∃ m j : Nat, Aside (gk + m = an) ∧ jv = .int .i64 j ∧ mv = .int .i64 m ∧ LGrow l t tb tf tc n i xb an m w wx j)
      case atStart => exact ⟨0, i + 1, (rfl : an + 0 = an), by go_num, rfl, hG0⟩
      case round =>
        clear hG0
        obtain ⟨m, j, hgm, rfl, rfl, hB, kv, ks, hxW, y0, y1, y2, y3, yf, hown, hij, hjl, hks, hsc⟩ := hrel
        have hm : m ≤ an := by have := hgm.out; omega
        have HSC := Lib.hid hsc
        clear hsc
        by_cases hma : m < an
        · have hsx : scanAt l t (an - (m + 1) + 1) j = .ok e := by rw [show an - (m + 1) + 1 = an - m by omega, ← HSC.out]; exact HS.out
          obtain ⟨j2, hs1, hs2, hjj⟩ := scan_next hsx
          have hj2 : j2 ≤ t.length := (scanAt_ok hs1).2 hjl
          have hsn : Hid (scanAt l t 1 i = scanAt l t (an - (m + 1)) j2) := Lib.hid (by rw [HS.out, hs2])
          have hc := ih j j2 wr (by omega) hs1 (HL.out.kept hB) (HT.out.kept hB)
          clear hsx hs1 hs2
          go_wp2_with fail
          refine hc.mono ?_
          rintro e' w5 ⟨v, rfl, hb5, hNd⟩
          have hv1 : ∀ u ∈ [v], u.oneCell' = true := by
            intro u hu
            simp at hu
            subst hu
            cases n with
            | zero => exact hNd.elim
            | succ n => rcases hNd.2.2.2.2 with ⟨_, rfl⟩ | ⟨_, _, _, _, _, rfl, _⟩ <;> rfl
          have hxw : xb < wr.heap.size := World.block_lt_of_cell? wr _ y0
          have z3 := cell_kept hb5 y3
          have own5 := own_kept hown hb5
          have hx5 : xb < w5.heap.size := World.block_lt_of_cell? w5 _ z3
          obtain ⟨Ak, ck, rfl, hkn⟩ := own_slice hown
          have hkx : some xb ≠ (Value.slice Ak m ck).ownBlock := fun e => by have := (hown.lt xb e.symm).1; omega
          have zf5 : w5.frozen? ⟨xb, 3, none⟩ = false := (hb5.frozen (p := ⟨xb, 3, none⟩) hxw).trans (yf 3)
          have hvf : (∃ q, v = varV q) ∨ ∃ q, v = funV q := by
            cases n with
            | zero => exact hNd.elim
            | succ n => rcases hNd.2.2.2.2 with ⟨_, h⟩ | ⟨_, q, _, _, _, h, _⟩; exact .inl ⟨_, h⟩; exact .inr ⟨q, h⟩
          rcases hvf with ⟨q, rfl⟩ | ⟨q, rfl⟩
          all_goals
            go_wp2_with (at_builtin; refine push (.tmp 54) (.tmp 56) 107 67 .nilIface 1 16 rfl rfl Tryd.underlying107 infoTree rfl (by decide) (by decide) (xb + 1) (.slice Ak m ck) m ks [_] rfl (own5.alloc _) _ 0 1 rfl rfl (var_cells _ _ _ _ rfl) hv1 (by omega) (by simp; omega) ?_; intro g9 cap9 w9 ho9 hg9 ha9 hlt9; have z39 := hg9.cell (cell_kept (below_alloc0 w5 _) z3) hkx; have zf9 : w9.frozen? ⟨xb, 3, none⟩ = false := (World.frozen?_of_block (a := ⟨xb, 3, none⟩) (hg9.block xb (by simp; omega) hkx)).trans (((below_alloc0 w5 _).frozen (p := ⟨xb, 3, none⟩) hx5).trans zf5))
            have hnext := lgrow_next (tc := tc) (n := n) hB hxW y0 y1 y2 y3 yf hown hij hks hb5 hNd ⟨hjj, hj2⟩ hsn.out ho9 hg9 (by rcases ha9 with h | h; exact .inl h.symm; exact .inr (congrArg some h))
            have HN := Lib.hid hnext
            clear hnext ho9 hg9 ha9 own5 hb5 hNd hown hks
            go_roundg (an - (m + 1))
            case measure => have := hgm.out; omega
            case rel => exact ⟨m + 1, j2, by have := hgm.out; show _ = _; omega, by go_num, by go_num, HN.out⟩
        · have hje : j = e := by
            have h := HSC.out
            rw [HS.out, show an - m = 0 by omega, scanAt_zero] at h
            injection h with h
            exact h.symm
          have hme : m = an := by omega
          subst hme hje
          have hxw : xb < wr.heap.size := World.block_lt_of_cell? wr _ y0
          have zf2 := yf 2
          have q1 : ¬ i = tc := by omega
          have q2 : i ≤ j := by omega
          have q3 : j ≤ tc := by omega
          have HKS := Lib.hid hks
          have HOWN := Lib.hid hown
          clear hks hown
          go_wp2_with fail
          go_ret2
          have hne : kv.ownBlock ≠ some xb := fun e => by have := (HOWN.out.lt xb e).1; omega
          have hown' := HOWN.out.kept (turned_set wr xb 2 (.slice (some ⟨tb, tf + i, none⟩) (j - i) (tc - i))) (.inr hne)
          obtain ⟨hkr, hkl⟩ := kidRow_of (S := From w.heap.size) hown' (fun b hb => by show _ ≤ _; omega)
          have hK : Keeps (Beside xb kv) (From w.heap.size) wr (wr.setCell ⟨xb, 2, none⟩ (.slice (some ⟨tb, tf + i, none⟩) (j - i) (tc - i))) :=
            ⟨by simp, fun b hb _ => ⟨by show _ ≤ _; have := hb.1; omega, heap_set_far (by have := hb.1; simp; omega)⟩⟩
          exact ⟨_, rfl, below_set hB hxW _, hi, hie, hel, HS.out, .inr ⟨by rw [HC.out]; omega, xb, kv, ks, tc - i, rfl, hxW, by rw [set_off (by decide)]; exact y0, by rw [set_off (by decide)]; exact y1, set_same y2, by rw [set_off (by decide)]; exact y3, hkr, by rw [hkl, HC.out, HAR.out], HKS.out.mono fun _ _ _ => LNode.keep hK⟩⟩
end Go.Proofs.YthpdfkhmhaobgaaDoor
