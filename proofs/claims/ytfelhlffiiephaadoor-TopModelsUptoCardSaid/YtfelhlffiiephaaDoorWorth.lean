/- What a term is worth, as the algebra tells it: the walks of worth, alike. Conditions: none. -/
import Derived.Test.YtfelhlffiiephaaDoorPlus
import Derived.Test.YtfelhlffiiephaaDoorRefKids
import Derived.Test.YtfelhlffiiephaaDoorEnd
import Derived.Test.YtfelhlffiiephaaDoorNest
import Derived.Deep.RegionHeldLaw
set_option linter.unusedVariables false
set_option linter.unusedSimpArgs false
set_option linter.unnecessarySimpa false
namespace Go.Proofs.YtfelhlffiiephaaDoor
open Go.RowKit Go.Lib

/-- What is told of a term's worth. -/
def WorthPost (M : Int) (lins : List (List Int)) (a : Tm) (len : Nat) (w : World) (e : Ending) (w' : World) : Prop :=
  ∃ (x : Int) (A : Option Addr) (c : Nat) (l : List (Int × Int)), e = .returned (.agg #[.int .i64 x, .slice A l.length c]) ∧ Below w.heap.size w w' ∧ (A = none → l.length = 0 ∧ c = 0) ∧ (∀ a, A = some a → w.heap.size ≤ a.block) ∧ Pairs w' A l ∧ l.length ≤ len ∧ Rep (modOf M) (fun ρ => a.val (facOf M lins) ρ) x l
theorem rep_var (M : Int) (lins : List (List Int)) (v : Int) : Rep (modOf M) (fun ρ => (Tm.var v).val (facOf M lins) ρ) 0 [(v, 1)] := by
  have hm := modOf_range M
  refine ⟨by omega, fun p hp => ?_, by simp, fun ρ => ?_⟩
  · simp at hp
    subst hp
    show 0 ≤ (1 : Int) ∧ (1 : Int) < _
    omega
  · show ((Tm.var v).val (facOf M lins) ρ) % _ = _
    rw [Tm.val, lin, lin]
    simp
theorem rep_alone (M : Int) (lins : List (List Int)) (f : Int) : Rep (modOf M) (fun ρ => facOf M lins f 0 + Tm.vals (facOf M lins) ρ f 1 []) (facOf M lins f 0) [] := by
  have h := facOf_range M lins f 0
  refine ⟨h, (fun p hp => by cases hp), by simp, fun ρ => ?_⟩
  show (facOf M lins f 0 + Tm.vals (facOf M lins) ρ f 1 []) % _ = _
  rw [Tm.vals, lin]
/-- One argument more. -/
theorem rep_more (M : Int) (lins : List (List Int)) (f : Int) (zs : List Tm) (a : Tm) (x y : Int) (l r : List (Int × Int)) (h : Rep (modOf M) (fun ρ => facOf M lins f 0 + Tm.vals (facOf M lins) ρ f 1 zs) x l) (g : Rep (modOf M) (fun ρ => a.val (facOf M lins) ρ) y r) :
    Rep (modOf M) (fun ρ => facOf M lins f 0 + Tm.vals (facOf M lins) ρ f 1 (zs ++ [a])) ((x + facOf M lins f (zs.length + 1) * y) % modOf M) (addAll (modOf M) (facOf M lins f (zs.length + 1)) l r) := by
  have hm := modOf_range M
  refine (h.plus (k := facOf M lins f (zs.length + 1)) (by omega) g).same fun ρ => ?_
  show (facOf M lins f 0 + Tm.vals (facOf M lins) ρ f 1 (zs ++ [a])) % _ = _
  rw [vals_app, Tm.vals, Tm.vals, Int.add_zero, show 1 + zs.length = zs.length + 1 by omega]
  congr 1; omega
/-- The form that is made so far: its two cells, what it reads. -/
structure Made (n0 : Nat) (w1 w : World) (b : Nat) (x : Int) (A : Option Addr) (c : Nat) (l : List (Int × Int)) : Prop where
  below : Below n0 w1 w
  lo : n0 ≤ b
  lt : b < w.heap.size
  c0 : w.cell? ⟨b, 0, none⟩ = some (.int .i64 x)
  c1 : w.cell? ⟨b, 1, none⟩ = some (.slice A l.length c)
  f0 : w.frozen? ⟨b, 0, none⟩ = false
  f1 : w.frozen? ⟨b, 1, none⟩ = false
  pairs : Pairs w A l
  nil : A = none → l.length = 0 ∧ c = 0
  fresh : ∀ a, A = some a → n0 ≤ a.block
theorem Made.kept {n0 : Nat} {w1 w w' : World} {b : Nat} {x : Int} {A : Option Addr} {c : Nat} {l : List (Int × Int)} (h : Made n0 w1 w b x A c l) (hn : n0 ≤ w.heap.size) (hb : Below w.heap.size w w') : Made n0 w1 w' b x A c l :=
  ⟨below_then h.below hn hb, h.lo, Nat.lt_of_lt_of_le h.lt hb.size, cell_kept hb h.c0, cell_kept hb h.c1, (hb.frozen (p := ⟨b, 0, none⟩) h.lt).trans h.f0, (hb.frozen (p := ⟨b, 1, none⟩) h.lt).trans h.f1, h.pairs.kept hb, h.nil, h.fresh⟩
/-- The form is written anew. -/
theorem Made.put {n0 : Nat} {w1 w w' : World} {b : Nat} {x : Int} {A : Option Addr} {c : Nat} {l : List (Int × Int)} (h : Made n0 w1 w b x A c l) (hn : n0 ≤ w.heap.size) (hb : Below w.heap.size w w') {y : Int} {B : Option Addr} {d : Nat} {r : List (Int × Int)} (hB : Pairs w' B r) (hBn : B = none → r.length = 0 ∧ d = 0) (hnew : ∀ a, B = some a → w.heap.size ≤ a.block) :
    Made n0 w1 ((w'.setCell ⟨b, 0, none⟩ (.int .i64 y)).setCell ⟨b, 1, none⟩ (.slice B r.length d)) b y B d r := by
  have k := h.kept hn hb
  refine ⟨below_set (below_set k.below k.lo _) k.lo _, k.lo, Nat.lt_of_lt_of_le k.lt (by rw [World.size_setCell, World.size_setCell]; exact Nat.le_refl _), ?_, ?_, ?_, ?_, ?_, hBn, fun a ha => Nat.le_trans hn (hnew a ha)⟩
  · rw [set_off (by decide)]; exact set_same k.c0
  · exact set_same (by rw [set_off (by decide)]; exact k.c1)
  · rw [World.frozen?_setCell, World.frozen?_setCell]; exact k.f0
  · rw [World.frozen?_setCell, World.frozen?_setCell]; exact k.f1
  · refine ⟨hB.1, fun h0 => ?_⟩
    obtain ⟨b2, off, rfl, hc⟩ := hB.2 h0
    have hne : b ≠ b2 := fun e => by have h1 : w.heap.size ≤ b2 := hnew _ rfl; have h2 := h.lt; omega
    exact ⟨b2, off, rfl, fun k hk => ⟨by rw [set_blk hne, set_blk hne]; exact (hc k hk).1, by rw [set_blk hne, set_blk hne]; exact (hc k hk).2⟩⟩
theorem flats_count : ∀ zs : List Tm, zs.length ≤ (Tm.flats zs).length
  | [] => Nat.zero_le _
  | a :: zs => by
    have h1 := flats_count zs
    have h2 := flat_pos a
    rw [Tm.flats, List.length_cons, List.length_append]
    omega
theorem flats_take (zs : List Tm) (i : Nat) : (Tm.flats (zs.take i)).length ≤ (Tm.flats zs).length := by
  have h := flats_app (zs.take i) (zs.drop i)
  rw [List.take_append_drop] at h
  rw [h, List.length_append]
  omega
theorem made_start (w1 w3 : World) (T : TypeId) (hb : Below (w1.heap.size + 1) (w1.alloc (.cells #[.int .i64 0, .slice none 0 0] T)) w3) (x : Int) (B : Option Addr) (d : Nat) (r : List (Int × Int)) (hB : Pairs w3 B r) (hBn : B = none → r.length = 0 ∧ d = 0) (hnew : ∀ a, B = some a → w1.heap.size + 1 ≤ a.block) :
    Made w1.heap.size w1 ((w3.setCell ⟨w1.heap.size, 0, none⟩ (.int .i64 x)).setCell ⟨w1.heap.size, 1, none⟩ (.slice B r.length d)) w1.heap.size x B d r := by
  have hm : Made w1.heap.size w1 (w1.alloc (.cells #[.int .i64 0, .slice none 0 0] T)) w1.heap.size 0 none 0 [] :=
    ⟨below_alloc0 _ _, Nat.le_refl _, by simp, World.cell?_alloc_new _ _ _ 0, World.cell?_alloc_new _ _ _ 1, World.frozen?_alloc_new _ _ _ 0, World.frozen?_alloc_new _ _ _ 1, ⟨by simp, fun h => by simp at h⟩, fun _ => ⟨rfl, rfl⟩, fun a h => by cases h⟩
  exact hm.put (w' := w3) (by simp) (by simpa using hb) hB hBn (fun a h => by simpa using hnew a h)
theorem made_late {w1 w3 : World} (T : TypeId) (hb : Below w1.heap.size w1 w3) (x : Int) (B : Option Addr) (d : Nat) (r : List (Int × Int)) (hB : Pairs w3 B r) (hBn : B = none → r.length = 0 ∧ d = 0) (hnew : ∀ a, B = some a → w1.heap.size ≤ a.block) :
    Made w1.heap.size w1 (w3.alloc (.cells #[.int .i64 x, .slice B r.length d] T)) w3.heap.size x B d r :=
  ⟨below_alloc hb hb.size _, hb.size, by simp, World.cell?_alloc_new _ _ _ 0, World.cell?_alloc_new _ _ _ 1, World.frozen?_alloc_new _ _ _ 0, World.frozen?_alloc_new _ _ _ 1, hB.kept (below_alloc0 _ _), hBn, hnew⟩
theorem pairs_nil (w : World) : Pairs w none [] := ⟨by simp, fun h => by simp at h⟩
theorem after_alloc (w1 w3 : World) (T : TypeId) (hb : Below (w1.alloc (.cells #[.int .i64 0, .slice none 0 0] T)).drew.heap.size (w1.alloc (.cells #[.int .i64 0, .slice none 0 0] T)).drew w3) :
    Below (w1.heap.size + 1) (w1.alloc (.cells #[.int .i64 0, .slice none 0 0] T)) w3 ∧ Below w1.heap.size w1 w3 ∧ w3.cell? ⟨w1.heap.size, 0, none⟩ = some (.int .i64 0) ∧ w3.cell? ⟨w1.heap.size, 1, none⟩ = some (.slice none 0 0) ∧
      w3.frozen? ⟨w1.heap.size, 0, none⟩ = false ∧ w3.frozen? ⟨w1.heap.size, 1, none⟩ = false := by
  have hs : (w1.alloc (.cells #[.int .i64 0, .slice none 0 0] T)).drew.heap.size = w1.heap.size + 1 := by simp
  rw [hs] at hb
  have h1 : Below (w1.heap.size + 1) (w1.alloc (.cells #[.int .i64 0, .slice none 0 0] T)) w3 := ⟨hb.os, hb.tape, hb.output, hb.size, hb.block⟩
  have hz : (w1.alloc (.cells #[.int .i64 0, .slice none 0 0] T)).heap.size = w1.heap.size + 1 := by simp
  refine ⟨h1, below_then (below_alloc0 w1 (.cells #[.int .i64 0, .slice none 0 0] T)) (by omega) (by rw [hz]; exact h1), ?_, ?_, ?_, ?_⟩
  · exact (h1.cell (p := ⟨w1.heap.size, 0, none⟩) (by simp)).trans (World.cell?_alloc_new _ _ _ 0)
  · exact (h1.cell (p := ⟨w1.heap.size, 1, none⟩) (by simp)).trans (World.cell?_alloc_new _ _ _ 1)
  · exact (h1.frozen (p := ⟨w1.heap.size, 0, none⟩) (by simp)).trans (World.frozen?_alloc_new _ _ _ 0)
  · exact (h1.frozen (p := ⟨w1.heap.size, 1, none⟩) (by simp)).trans (World.frozen?_alloc_new _ _ _ 1)
theorem treeAt_sub {l : List Sy} {t : List Int} (h : termErr l t = 0) {p : Nat} (hp : p < t.length) : treeAt l (subAt l t p) 0 = treeAt l t p := by
  have h1 := sub_term h hp
  have h2 : subAt l (subAt l t p) 0 = subAt l t p := by
    rw [subAt, root_end h1, List.drop_zero, Nat.sub_zero, List.take_length]
  unfold treeAt
  rw [h2]
/-- A term's arguments, one by one. -/
theorem zs_facts {l : List Sy} {t : List Int} {c : Int} (h : termErr l t = 0) (hs : treeAt l t 0 = .fn c ((kidsAt l t 0).map fun k => treeAt l t k.toNat)) :
    (∀ i, i < (kidsAt l t 0).length → ∃ p e : Nat, (kidsAt l t 0).getD i 0 = (p : Int) ∧ p < t.length ∧ 0 < p ∧ p < e ∧ e ≤ t.length ∧ scanAt l t 1 p = .ok e ∧ (subAt l t p).length = e - p ∧ subAt l t p = (t.drop p).take (e - p) ∧ termErr l (subAt l t p) = 0 ∧ treeAt l (subAt l t p) 0 = ((kidsAt l t 0).map fun k => treeAt l t k.toNat).getD i (.var 0) ∧ (((kidsAt l t 0).map fun k => treeAt l t k.toNat).getD i (.var 0)).flat = subAt l t p) ∧
    (Tm.flats ((kidsAt l t 0).map fun k => treeAt l t k.toNat)).length + 1 = t.length := by
  have hpos := term_pos h
  constructor
  · intro i hi
    have hm : (kidsAt l t 0).getD i 0 ∈ kidsAt l t 0 := getD_mem hi rfl
    obtain ⟨p, hk, hp, ha⟩ := above_kid h hpos _ hm
    obtain ⟨q, hq, hq1, _⟩ := kids_skip h (arOf l (t.getD 0 0)) 1 t.length (by omega) (by
      obtain ⟨_, _, hN⟩ := scan_more (k := 0) (root_ok h)
      rwa [Nat.zero_add, Nat.zero_add] at hN) ((kidsAt l t 0).getD i 0) (by
      have h9 := hm
      generalize (kidsAt l t 0).getD i 0 = y at h9 ⊢
      unfold kidsAt at h9
      split at h9
      · cases h9
      · exact h9)
    rw [hk] at hq
    have hpq : p = q := by omega
    obtain ⟨e1, e2, e3⟩ := place_end h hp
    refine ⟨p, endOf l t p, hk, hp, by omega, e2, e3, e1, sub_length h hp, rfl, sub_term h hp, ?_, ?_⟩
    · rw [treeAt_sub h hp, List.getD_eq_getElem?_getD, List.getElem?_map, List.getElem?_eq_getElem hi]
      have : (kidsAt l t 0)[i] = (p : Int) := by rw [← hk, List.getD_eq_getElem?_getD, List.getElem?_eq_getElem hi]; rfl
      rw [this]; rfl
    · rw [List.getD_eq_getElem?_getD, List.getElem?_map, List.getElem?_eq_getElem hi]
      have : (kidsAt l t 0)[i] = (p : Int) := by rw [← hk, List.getD_eq_getElem?_getD, List.getElem?_eq_getElem hi]; rfl
      rw [this]
      exact (tree_exists h hp).1
  · have h1 := (tree_root h).1
    rw [hs, Tm.flat] at h1
    rw [← List.length_cons (a := c), h1]
set_option maxRecDepth 100000 in
set_option maxHeartbeats 8000000 in
theorem worth_any (M : Int) (LA : Option Addr) (lins : List (List Int)) (lc : Nat) (hM : -9223372036854775808 ≤ M ∧ M ≤ 9223372036854775807) (A : Option Addr) (l : List Sy) (sc : Nat) :
    ∀ (n : Nat) (B : Option Addr) (t : List Int) (tc : Nat) (w : World), t.length ≤ n → t.length ≤ 512 → t.length ≤ tc → termErr l t = 0 → RowsIn w LA lins → Sigs w A l → Ints w B t →
      Calls Tryd.prog 17 #[.agg #[.int .i64 M, .slice LA lins.length lc], .slice A l.length sc, .slice B t.length tc] w (WorthPost M lins (treeAt l t 0) t.length w)
  | 0, B, t, tc, w, hn, h512, htc, hte, hL, hl, ht => by have := term_pos hte; omega
  | n + 1, B, t, tc, w, hn, h512, htc, hte, hL, hl, ht => by
    have hpos := term_pos hte
    have hG := good_of (term_sig hte)
    have hGm := hG.1
    have hstep := tree_step hte hpos
    obtain ⟨b, off, c, rfl, hgc, hc1, hc2, hcc⟩ := ht.at_ hpos
    have hcb : b < w.heap.size := World.block_lt_of_cell? w _ hcc
    have hc0 : w.cell? ⟨b, off, none⟩ = some (.int .i64 c) := hcc
    clear hcc
    rw [hgc] at hstep
    by_cases hneg : c < 0
    · rw [if_pos hneg] at hstep
      have HP : ∀ (w' : World) (bb : Nat), w.heap.size ≤ bb → Below w.heap.size w w' → w'.cell? ⟨bb, 0, none⟩ = some (.int .i64 c) → w'.cell? ⟨bb, 1, none⟩ = some (.int .i64 1) → WorthPost M lins (treeAt l t 0) t.length w (.returned (.agg #[.int .i64 0, .slice (some ⟨bb, 0, none⟩) 1 1])) w' := fun w' bb hbb hb h0 h1 => by
        refine ⟨0, _, 1, [(c, 1)], rfl, hb, (fun h => by cases h), (fun a ha => by cases ha; exact hbb), ⟨by simp, fun _ => ⟨bb, 0, rfl, fun k hk => ?_⟩⟩, hpos, by rw [hstep]; exact rep_var M lins c⟩
        obtain rfl : k = 0 := by simp at hk; omega
        exact ⟨h0, h1⟩
      have HPP := Lib.hid HP
      clear HP hstep hgc
      go_enter Tryd.func17, Tryd.ntmps17
      go_wp2_with fail
      refine bodyPost_ret (v := .agg #[.int .i64 0, .slice (some ⟨w.heap.size + 1 + 1, 0, none⟩) 1 1]) (by simp [results, Tryd.results17, go_sem]; try rfl) rfl ?_
      exact HPP.out _ _ (by omega) (below_alloc (below_alloc (below_alloc0 w _) (by simp) _) (by simp; omega) _) (by go_simp) (by go_simp)
    · rw [if_neg hneg] at hstep
      obtain ⟨cn, rfl⟩ := Int.eq_ofNat_of_zero_le (show 0 ≤ c by omega)
      have hcn : cn < l.length := by
        obtain ⟨_, hb, _⟩ := scan_more (k := 0) (root_ok hte)
        rw [hgc] at hb
        unfold codeBad at hb
        omega
      have hz := zs_facts hte hstep
      have cK := refkids_any A (some ⟨b, off, none⟩) l t sc tc 0 (by decide)
      rw [show placeErr l t 0 = 0 from place_ok hte hpos] at cK
      simp only [if_true, Int.toNat_zero] at cK
      have cF := fun k hk => factor_any M LA lins lc cn k hM (by omega) hk
      have HZ := Lib.hid hz
      have HS := Lib.hid hstep
      have CK := Lib.hid cK
      have CF := Lib.hid cF
      clear hz hstep cK cF hgc hneg
      go_enter Tryd.func17, Tryd.ntmps17
      go_wp2_with fail
      obtain ⟨wB, hwB⟩ : ∃ x, x = (w.alloc (.cells #[.int .i64 M, .slice LA lins.length lc] 26)).alloc (.cells #[.int .i64 0, .slice none 0 0] 69) := ⟨_, rfl⟩
      rw [← hwB]
      have hbB : Below w.heap.size w wB := by rw [hwB]; exact below_alloc (below_alloc0 w _) (by simp) _
      have hsB : wB.heap.size = w.heap.size + 2 := by rw [hwB]; simp
      have x0c : wB.cell? ⟨w.heap.size, 0, none⟩ = some (.int .i64 M) := by rw [hwB]; go_simp
      have x1c : wB.cell? ⟨w.heap.size, 1, none⟩ = some (.slice LA lins.length lc) := by rw [hwB]; go_simp
      have y0c : wB.cell? ⟨w.heap.size + 1, 0, none⟩ = some (.int .i64 0) := by rw [hwB]; go_simp
      have y1c : wB.cell? ⟨w.heap.size + 1, 1, none⟩ = some (.slice none 0 0) := by rw [hwB]; go_simp
      have y0f : wB.frozen? ⟨w.heap.size + 1, 0, none⟩ = false := by rw [hwB]; go_simp
      have y1f : wB.frozen? ⟨w.heap.size + 1, 1, none⟩ = false := by rw [hwB]; go_simp
      obtain ⟨a6, ha6⟩ : ∃ x, x = w.heap.size + 1 := ⟨_, rfl⟩
      obtain ⟨a3, ha3⟩ : ∃ x, x = w.heap.size := ⟨_, rfl⟩
      rw [← ha6] at y0c y1c y0f y1f
      rw [← ha3] at x0c x1c hbB hcb
      rw [← ha6, ← ha3]
      have h6 : a3 ≤ a6 ∧ a6 < wB.heap.size := by omega
      have hLB : RowsIn wB LA lins := hL.kept (by rw [← ha3]; exact hbB)
      have hlB : Sigs wB A l := hl.kept (by rw [← ha3]; exact hbB)
      have htB : Ints wB (some ⟨b, off, none⟩) t := ht.kept (by rw [← ha3]; exact hbB)
      have hcB : wB.cell? ⟨b, off, none⟩ = some (.int .i64 (cn : Int)) := cell_kept (by rw [← ha3]; exact hbB) hc0
      have HA3 := Lib.hid ha3
      have HBB := Lib.hid hbB
      clear hwB hsB ha6 ha3 hL hl ht hc0 hbB
      refine (CK.out wB hlB htB (by omega)).mono ?_
      rintro e w1 ⟨kv, rfl, hb1, hK⟩
      obtain ⟨KA, kc, rfl, hkc, hkn, hk8, hKI⟩ := hK.reads
      have x0d := cell_kept hb1 x0c
      have x1d := cell_kept hb1 x1c
      have y0d := cell_kept hb1 y0c
      have y1d := cell_kept hb1 y1c
      have y0g := (hb1.frozen (p := ⟨a6, 0, none⟩) h6.2).trans y0f
      have y1g := (hb1.frozen (p := ⟨a6, 1, none⟩) h6.2).trans y1f
      have hcd := cell_kept hb1 hcB
      have hL1 := hLB.kept hb1
      have hl1 := hlB.kept hb1
      have ht1 := htB.kept hb1
      have h61 : a6 < w1.heap.size := Nat.lt_of_lt_of_le h6.2 hb1.size
      have HB1 := Lib.hid (below_then HBB.out (by have := HBB.out.size; omega) hb1)
      have h31 : a3 ≤ w1.heap.size := by omega
      obtain ⟨N, hN⟩ : ∃ N, N = (kidsAt l t 0).length := ⟨_, rfl⟩
      rw [← hN]
      have hNm : N ≤ 512 := by
        have h1 := flats_count ((kidsAt l t 0).map fun k => treeAt l t k.toNat)
        have h2 := HZ.out.2
        rw [List.length_map, ← hN] at h1
        omega
      have HNN := Lib.hid hN
      clear x0c x1c y0c y1c y0f y1f hcB hLB hlB htB hb1 hK hkc hkn hk8 CK hN
      go_wp2_with fail
      obtain ⟨R0, hR0⟩ : ∃ R, R = facOf M lins cn 0 := ⟨_, rfl⟩
      have cF0 := CF.out 0 (by omega)
      rw [← hR0] at cF0
      have HR0 := Lib.hid hR0
      have CFF := Lib.hid cF0
      clear hR0 cF0
      go_cut [9] (fun v wx => ∃ b9, v = .pointer (some ⟨b9, 0, none⟩) ∧ Aside (Made w1.heap.size w1 wx b9 R0 none 0 []))
      case first =>
        have cF0 := CFF.out
        have CF0 := Lib.hid cF0
        clear cF0
        have n1 : ¬ w1.heap.size = a3 := by omega
        have n2 : ¬ w1.heap.size = b := by omega
        go_region_held_law (fun w' => w'.cell? ⟨a3, 0, none⟩ = some (.int .i64 M) ∧ w'.cell? ⟨a3, 1, none⟩ = some (.slice LA lins.length lc) ∧ w'.cell? ⟨b, off, none⟩ = some (.int .i64 (cn : Int))) (go_keep) (first
          | (go_at_call 30
             refine (CF0.out _ (hL1.kept (below_draw (Below.refl _ _)))).mono ?_
             rintro e w3 ⟨rfl, hb3⟩
             have hb4 : Below w1.heap.size w1 w3 := below_then (below_draw (Below.refl _ _)) (Nat.le_refl _) hb3
             have x0e := cell_kept hb4 x0d
             have x1e := cell_kept hb4 x1d
             have hce := cell_kept hb4 hcd)
          | (go_at_call 30
             refine (CF0.out _ (hL1.kept (below_draw (below_alloc0 _ _)))).mono ?_
             rintro e w3 ⟨rfl, hb3⟩
             obtain ⟨hb5, hb4, o0, o1, of0, of1⟩ := after_alloc w1 w3 _ hb3
             have x0e := cell_kept hb4 x0d
             have x1e := cell_kept hb4 x1d
             have hce := cell_kept hb4 hcd))
        all_goals
          go_wp2_with fail
          go_meet
          case rel =>
            first
            | exact ⟨_, rfl, made_start w1 w3 _ hb5 R0 none 0 [] (pairs_nil _) (fun _ => ⟨rfl, rfl⟩) (fun a h => by cases h)⟩
            | exact ⟨_, rfl, made_late _ hb4 R0 none 0 [] (pairs_nil _) (fun _ => ⟨rfl, rfl⟩) (fun a h => by cases h)⟩
      case rest =>
        obtain ⟨b9, rfl, hMade⟩ := hcut
        have HM0 := Lib.hid hMade.out
        obtain ⟨w2, rfl⟩ : ∃ x : World, x = wc := ⟨_, rfl⟩
        obtain ⟨zs, hzs⟩ : ∃ zs, zs = (kidsAt l t 0).map fun k => treeAt l t k.toNat := ⟨_, rfl⟩
        have hz := HZ.out
        have hst := HS.out
        rw [← hzs] at hz hst
        have hzl : zs.length = N := by rw [hzs, List.length_map]; exact HNN.out.symm
        have HZ' := Lib.hid hz
        have HST := Lib.hid hst
        have HZL := Lib.hid hzl
        clear hMade hz hst hzs hzl HZ HS
        go_wp2_with fail
        go_loopg [10, 11] N (fun gk v u11 wr => ∃ (i : Nat) (x : Int) (FA : Option Addr) (fc : Nat) (ls : List (Int × Int)), Aside (gk + i = N) ∧ v = .int .i64 i ∧ Aside (Made w1.heap.size w1 wr b9 x FA fc ls) ∧
          Aside (Rep (modOf M) (fun ρ => facOf M lins cn 0 + Tm.vals (facOf M lins) ρ cn 1 (zs.take i)) x ls) ∧ Aside (ls.length ≤ (Tm.flats (zs.take i)).length))
        case atStart => exact ⟨0, _, none, 0, [], (rfl : N + 0 = _), rfl, HM0.out, by show Rep _ _ _ _; rw [HR0.out]; exact rep_alone M lins cn, Nat.zero_le _⟩
        case round =>
          obtain ⟨i, x, FA, fc, ls, hg, rfl, hMd, hRp, hLn⟩ := hrel
          have hi : i ≤ N := by have := hg.out; omega
          have HMD := Lib.hid hMd.out
          have HRP := Lib.hid hRp.out
          have HLN := Lib.hid hLn.out
          have hBr := HMD.out.below
          have x0e := cell_kept hBr x0d
          have x1e := cell_kept hBr x1d
          have hce := cell_kept hBr hcd
          have y0e := cell_kept hBr y0d
          have y1e := cell_kept hBr y1d
          have y0h := (hBr.frozen (p := ⟨a6, 0, none⟩) h61).trans y0g
          have y1h := (hBr.frozen (p := ⟨a6, 1, none⟩) h61).trans y1g
          have hLr := hL1.kept hBr
          have hlr := hl1.kept hBr
          have htr := ht1.kept hBr
          have hKr := hKI.kept hBr
          have z0 := HMD.out.c0
          have z1 := HMD.out.c1
          have hwr := hBr.size
          have hb9 : b9 < wr.heap.size := HMD.out.lt
          clear hMd hRp hLn hBr
          by_cases hlt : i < N
          · obtain ⟨p, e, hkp, hp1, hp2, hp3, hp4, hsc, hul, hud, hut, hutr, hufl⟩ := HZ'.out.1 i (by rw [← HNN.out]; exact hlt)
            obtain ⟨kb, ko, kx, rfl, hkx, hkx1, hkx2, hkc⟩ := hKr.at_ (show i < (kidsAt l t 0).length by rw [← HNN.out]; exact hlt)
            obtain rfl : kx = (p : Int) := by rw [← hkx, hkp]
            obtain ⟨m, rfl⟩ : ∃ m, e = p + m := ⟨e - p, by omega⟩
            have e9 : p + m - p = m := by omega
            rw [e9] at hul hud
            have hIs : ∀ W : World, Below wr.heap.size wr W → Ints W (some ⟨b, off + p, none⟩) (subAt l t p) := fun W h => by rw [hud]; exact (htr.kept h).part p m
            generalize subAt l t p = U at hul hud hut hutr hufl hIs
            subst hul
            have cE := fun W h1 h2 => end_any A (some ⟨b, off, none⟩) l t sc tc p (p + U.length) hsc W hG h1 h2
            have cI := fun W h1 h2 h3 => worth_any M LA lins lc hM A l sc n (some ⟨b, off + p, none⟩) U (tc - p) W (by omega) (by omega) (by omega) hut h1 h2 h3
            have hUl : (Tm.flats (zs.take (i + 1))).length = (Tm.flats (zs.take i)).length + U.length := by
              rw [take_succ' zs (.var 0) (by rw [HZL.out]; exact hlt), flats_app, List.length_append, Tm.flats, Tm.flats, List.append_nil, hufl]
            have hft := flats_take zs (i + 1)
            have hfz := HZ'.out.2
            have CE := Lib.hid cE
            have CI := Lib.hid cI
            have HIS := Lib.hid hIs
            have HUT := Lib.hid hutr
            have HUL := Lib.hid hUl
            have hUb : U.length + ls.length ≤ 512 := by have := HLN.out; omega
            clear cE cI hsc hut hutr hufl hud hIs hkx hkp hUl hft hfz
            go_wp2_with fail
            go_cut [11] (fun v wx => ∃ b11 y YA yc yl, v = .pointer (some ⟨b11, 0, none⟩) ∧ Aside (Made wr.heap.size wr wx b11 y YA yc yl) ∧ Aside (yl.length ≤ U.length) ∧ Aside (Rep (modOf M) (fun ρ => (treeAt l U 0).val (facOf M lins) ρ) y yl))
            case first =>
              have n1 : ¬ wr.heap.size = a3 := by omega
              have n2 : ¬ wr.heap.size = b := by omega
              have n3 : ¬ wr.heap.size = kb := by have := World.block_lt_of_cell? wr _ hkc; simp at this; omega
              go_region_held_law (fun w' => w'.cell? ⟨a3, 0, none⟩ = some (.int .i64 M) ∧ w'.cell? ⟨a3, 1, none⟩ = some (.slice LA lins.length lc) ∧ w'.cell? ⟨kb, ko + i, none⟩ = some (.int .i64 (p : Int))) (go_keep) (first
                | (go_at_call 31
                   refine (CE.out _ (hlr.kept (below_draw (Below.refl _ _))) (htr.kept (below_draw (Below.refl _ _)))).mono ?_
                   rintro e w3 ⟨rfl, rfl⟩)
                | (go_at_call 31
                   refine (CE.out _ (hlr.kept (below_draw (below_alloc0 _ _))) (htr.kept (below_draw (below_alloc0 _ _)))).mono ?_
                   rintro e w3 ⟨rfl, rfl⟩)
                | (go_at_call 17
                   refine (CI.out _ (hLr.kept (below_draw (Below.refl _ _))) (hlr.kept (below_draw (Below.refl _ _))) (HIS.out _ (below_draw (Below.refl _ _)))).mono ?_
                   rintro e w3 ⟨y, YA, yc, yl, rfl, hb3, hyn, hynew, hyp, hyl, hyr⟩
                   have hb4 : Below wr.heap.size wr w3 := below_then (below_draw (Below.refl _ _)) (Nat.le_refl _) hb3
                   have x0f := cell_kept hb4 x0e
                   have x1f := cell_kept hb4 x1e
                   have hcf := cell_kept hb4 hkc
                   have hyn := Lib.hid hyn
                   have hynew := Lib.hid (show ∀ a, YA = some a → wr.heap.size ≤ a.block from fun a ha => hynew a ha)
                   have hyr := Lib.hid hyr)
                | (go_at_call 17
                   refine (CI.out _ (hLr.kept (below_draw (below_alloc0 _ _))) (hlr.kept (below_draw (below_alloc0 _ _))) (HIS.out _ (below_draw (below_alloc0 _ _)))).mono ?_
                   rintro e w3 ⟨y, YA, yc, yl, rfl, hb3, hyn, hynew, hyp, hyl, hyr⟩
                   obtain ⟨hb5, hb4, o0, o1, of0, of1⟩ := after_alloc wr w3 _ hb3
                   have x0f := cell_kept hb4 x0e
                   have x1f := cell_kept hb4 x1e
                   have hcf := cell_kept hb4 hkc
                   have hyn := Lib.hid hyn
                   have hynew := Lib.hid (show ∀ a, YA = some a → wr.heap.size + 1 ≤ a.block from fun a ha => by simpa using hynew a ha)
                   have hyr := Lib.hid hyr))
              all_goals
                go_wp2_with fail
                go_meet
                case rel =>
                  first
                  | exact ⟨_, y, YA, yc, yl, rfl, made_start wr w3 _ hb5 y YA yc yl hyp hyn.out hynew.out, hyl, hyr.out⟩
                  | exact ⟨_, y, YA, yc, yl, rfl, made_late _ hb4 y YA yc yl hyp hyn.out hynew.out, hyl, hyr.out⟩
            case rest =>
              obtain ⟨b11, y, YA, yc, yl, rfl, hMk, hyl, hyr⟩ := hcut
              obtain ⟨wz, rfl⟩ : ∃ x : World, x = wc := ⟨_, rfl⟩
              have HMK := Lib.hid hMk.out
              have HYR := Lib.hid hyr.out
              have hyl' : yl.length ≤ U.length := hyl.out
              have hBz := HMK.out.below
              have x0f := cell_kept hBz x0e
              have x1f := cell_kept hBz x1e
              have hcf := cell_kept hBz hce
              have z0f := cell_kept hBz z0
              have z1f := cell_kept hBz z1
              have z0h := (hBz.frozen (p := ⟨b9, 0, none⟩) hb9).trans HMD.out.f0
              have z1h := (hBz.frozen (p := ⟨b9, 1, none⟩) hb9).trans HMD.out.f1
              have k0f := HMK.out.c0
              have k1f := HMK.out.c1
              have hLz := hLr.kept hBz
              have HBZ := Lib.hid hBz
              have hzz := hBz.size
              obtain ⟨kf, hkf⟩ : ∃ k, k = facOf M lins cn (i + 1) := ⟨_, rfl⟩
              have hkr := facOf_range M lins cn (i + 1)
              have hmr := modOf_range M
              have cF := CF.out (i + 1) (by omega)
              rw [← hkf] at hkr cF
              rw [show ((i + 1 : Nat) : Int) = (i : Int) + 1 by omega] at cF
              have cP := fun W hX hY => plus_any M (.slice LA lins.length lc) x y kf FA YA ls yl fc yc hM (by have := HRP.out.low; omega) (by have := HYR.out.low; omega) (by omega) HRP.out.coef HYR.out.coef HMD.out.nil (by omega) (by omega) W hX hY
              have hRR : Rep (modOf M) (fun ρ => facOf M lins cn 0 + Tm.vals (facOf M lins) ρ cn 1 (zs.take (i + 1))) ((x + kf * y) % modOf M) (addAll (modOf M) kf ls yl) := by
                have hz1 : (zs.take i).length = i := by rw [List.length_take, HZL.out]; omega
                have h9 := rep_more M lins cn (zs.take i) (treeAt l U 0) x y ls yl HRP.out HYR.out
                rw [hz1, ← hkf, HUT.out, ← take_succ' zs (.var 0) (by rw [HZL.out]; exact hlt)] at h9
                exact h9
              have hLL : (addAll (modOf M) kf ls yl).length ≤ (Tm.flats (zs.take (i + 1))).length := by
                have := len_addAll (modOf M) kf yl ls
                rw [HUL.out]
                have := HLN.out
                omega
              generalize addAll (modOf M) kf ls yl = LS at cP hRR hLL
              generalize (x + kf * y) % modOf M = X at cP hRR
              have CF9 := Lib.hid cF
              have CP9 := Lib.hid cP
              have HRR := Lib.hid hRR
              have HLL := Lib.hid hLL
              have s1 : IntKind.i64.wrap ((i : Int) + 1) = (i : Int) + 1 := by rw [IntKind.wrap_i64]; omega
              clear hMk hyl hyr hBz cF cP hRR hLL hkf x0e x1e hce z0 z1 y0e y1e y0h y1h hkc hKr hKI hLr hlr htr HIS HUT HUL CE CI
              go_wp2_with fail
              refine wp_region_last (S := fun w' => w'.cell? ⟨a3, 0, none⟩ = some (.int .i64 M) ∧ w'.cell? ⟨a3, 1, none⟩ = some (.slice LA lins.length lc) ∧ w'.cell? ⟨b, off, none⟩ = some (.int .i64 (cn : Int)) ∧ w'.cell? ⟨b9, 0, none⟩ = some (.int .i64 x) ∧ w'.cell? ⟨b9, 1, none⟩ = some (.slice FA ls.length fc) ∧ w'.cell? ⟨b11, 0, none⟩ = some (.int .i64 y) ∧ w'.cell? ⟨b11, 1, none⟩ = some (.slice YA yl.length yc))
                (by kernel_rfl) 11 [0, 1, 2, 3, 4, 5, 6, 7, 9] 3 (by kernel_rfl) (by kernel_rfl) (by kernel_rfl) (fun c a d v w h => by cases d <;> exact h) ⟨x0f, x1f, hcf, z0f, z1f, k0f, k1f⟩ ?_
              simp only [List.filterMap_cons, List.filterMap_nil, List.getElem?_toArray, List.getElem?_cons_succ, List.getElem?_cons_zero]
              iterate 9
                refine still_step (v := ?_) rfl ?_ ?_
                rotate_left
                · intro w hS
                  obtain ⟨s1, s2, s3, s4, s5, s6, s7⟩ := hS
                  go_simp
                  rfl
                simp only [Act.put, List.setIfInBounds_toArray, List.set_cons_succ, List.set_cons_zero]
              refine still_nil ?_
              refine wpHL_law (i := 8) (ho := rfl) (by kernel_rfl) rfl ?_
              intro KK hKK
              go_simp
              refine (CF9.out _ (hLz.kept (below_draw (Below.refl _ _)))).mono ?_
              rintro e w6 ⟨rfl, hb6⟩
              have hb6' : Below wz.heap.size wz w6 := below_then (below_draw (Below.refl _ _)) (Nat.le_refl _) hb6
              have HB6 := Lib.hid hb6'
              have x0g := cell_kept hb6' x0f
              have x1g := cell_kept hb6' x1f
              have hcg := cell_kept hb6' hcf
              have z0g := cell_kept hb6' z0f
              have z1g := cell_kept hb6' z1f
              have k0g := cell_kept hb6' k0f
              have k1g := cell_kept hb6' k1f
              have hPX := (HMD.out.pairs.kept HBZ.out).kept hb6'
              have hPY := HMK.out.pairs.kept hb6'
              clear hb6 hb6'
              refine hKK _ _ (fun _ => ⟨x0g, x1g, hcg, z0g, z1g, k0g, k1g⟩) ?_
              (try simp only [Act.put, List.setIfInBounds_toArray, List.set_cons_succ, List.set_cons_zero])
              refine wpHL_law (i := 10) (ho := rfl) (by kernel_rfl) rfl ?_
              intro KP hKP
              go_simp
              refine (CP9.out _ hPX hPY).mono ?_
              rintro e w7 ⟨PA, pc, rfl, hb7, hpn, hpp, hpnew⟩
              have z0h2 := (hb7.frozen (p := ⟨b9, 0, none⟩) (World.block_lt_of_cell? w6 _ z0g)).trans ((HB6.out.frozen (p := ⟨b9, 0, none⟩) (World.block_lt_of_cell? wz _ z0f)).trans z0h)
              have z1h2 := (hb7.frozen (p := ⟨b9, 1, none⟩) (World.block_lt_of_cell? w6 _ z1g)).trans ((HB6.out.frozen (p := ⟨b9, 1, none⟩) (World.block_lt_of_cell? wz _ z1f)).trans z1h)
              have HB7 : Hid (Below wr.heap.size wr w7) := Lib.hid (below_then (below_then HBZ.out HBZ.out.size HB6.out) (by have := HBZ.out.size; have := HB6.out.size; omega) hb7)
              have hpn := Lib.hid hpn
              have hpnew : Hid (∀ a, PA = some a → wr.heap.size ≤ a.block) := Lib.hid (fun a ha => by have h1 := hpnew a ha; have h2 := HBZ.out.size; have h3 := HB6.out.size; omega)
              have x0i := cell_kept hb7 x0g
              have x1i := cell_kept hb7 x1g
              have hci := cell_kept hb7 hcg
              have z0i := cell_kept hb7 z0g
              have z1i := cell_kept hb7 z1g
              have k0i := cell_kept hb7 k0g
              have k1i := cell_kept hb7 k1g
              clear hb7
              refine hKP _ _ (fun _ => ⟨x0i, x1i, hci, z0i, z1i, k0i, k1i⟩) ?_
              (try simp only [Act.put, List.setIfInBounds_toArray, List.set_cons_succ, List.set_cons_zero])
              refine wpHL_skip (i := 11) (ho := rfl) (w' := ?_) (by kernel_rfl) rfl ?_ (fun h => absurd rfl h) ?_
              rotate_left
              · go_simp
                rfl
              refine wpHL_end (by kernel_rfl) ?_
              clear x0g x1g hcg z0g z1g k0g k1g x0f x1f hcf z0f z1f k0f k1f x0i x1i hci k0i k1i s1
              go_wp2_with fail
              go_roundg (N - (i + 1))
              case measure => have := hg.out; omega
              case rel => exact ⟨i + 1, X, PA, pc, LS, by have := hg.out; show _ = _; omega, by go_num, HMD.out.put hwr HB7.out hpp hpn.out hpnew.out, HRR.out, HLL.out⟩
          · have hie : i = N := by omega
            subst hie
            go_wp2_with fail
            have hp9 : WorthPost M lins (treeAt l t 0) t.length w (.returned (.agg #[.int .i64 x, .slice FA ls.length fc])) ((wr.setCell ⟨a6, 0, none⟩ (.int .i64 x)).setCell ⟨a6, 1, none⟩ (.slice FA ls.length fc)) := by
              have h1 := HMD.out
              have ha := HA3.out
              have hbW : Below w.heap.size w ((wr.setCell ⟨a6, 0, none⟩ (.int .i64 x)).setCell ⟨a6, 1, none⟩ (.slice FA ls.length fc)) := by
                have h2 := HB1.out
                rw [ha] at h2
                exact below_set (below_set (below_then h2 (by omega) h1.below) (by show _ ≤ a6; omega) _) (by show _ ≤ a6; omega) _
              have hzt : zs.take i = zs := by rw [← HZL.out]; exact List.take_length
              refine ⟨x, FA, fc, ls, rfl, hbW, h1.nil, fun a hf => by have := h1.fresh a hf; omega, ?_, ?_, ?_⟩
              · refine ⟨h1.pairs.1, fun h0 => ?_⟩
                obtain ⟨b2, off2, rfl, hc⟩ := h1.pairs.2 h0
                have hne : a6 ≠ b2 := fun e => by have h3 : w1.heap.size ≤ b2 := h1.fresh _ rfl; omega
                exact ⟨b2, off2, rfl, fun k hk => ⟨by rw [set_blk hne, set_blk hne]; exact (hc k hk).1, by rw [set_blk hne, set_blk hne]; exact (hc k hk).2⟩⟩
              · have h2 := HLN.out
                rw [hzt] at h2
                have h3 := HZ'.out.2
                omega
              · have h2 := HRP.out
                rw [hzt] at h2
                rw [HST.out]
                exact h2.same fun ρ => by rw [Tm.val]
            have HP9 := Lib.hid hp9
            clear hp9
            obtain ⟨V, hV⟩ : ∃ V, V = (wr.setCell ⟨a6, 0, none⟩ (.int .i64 x)).setCell ⟨a6, 1, none⟩ (.slice FA ls.length fc) := ⟨_, rfl⟩
            have v0 : V.cell? ⟨a6, 0, none⟩ = some (.int .i64 x) := by rw [hV, set_off (by decide)]; exact set_same y0e
            have v1 : V.cell? ⟨a6, 1, none⟩ = some (.slice FA ls.length fc) := by rw [hV]; exact set_same (by rw [set_off (by decide)]; exact y1e)
            rw [← hV] at HP9 ⊢
            clear hV
            (try simp only [Exit.inBlock, Exit.then])
            refine bodyPost_ret (by simp [results, Tryd.results17, go_sem, v0, v1]; try rfl) rfl ?_
            exact HP9.out
end Go.Proofs.YtfelhlffiiephaaDoor
