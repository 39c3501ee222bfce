/- What stands at a place, and the places below it: the walks of the program's ways. Conditions: utf8's tables as laid. -/
import Derived.Test.YtfelhlffiiephaaDoorPlaces
import Derived.Test.YtfelhlffiiephaaDoorFind
import Derived.Test.YtfelhlffiiephaaDoorClone
set_option linter.unusedVariables false
set_option linter.unusedSimpArgs false
namespace Go.Proofs.YtfelhlffiiephaaDoor
open Go.RowKit Go.Lib

theorem Node.end_le {w : World} {S : Nat → Prop} {l : List Sy} {t : List Int} : ∀ {f : Nat} {v : Value} {i e : Nat}, Node w S l t f v i e → e ≤ t.length
  | 0, _, _, _, h => h.elim
  | f + 1, v, i, e, ⟨h1, h2, h3⟩ => by
    rcases h3 with ⟨_, rfl, _⟩ | ⟨_, b, kv, ks, _, _, _, _, _, _, hk, hkids⟩
    · omega
    · have : ∀ (ks : List Value) (i e : Nat), i ≤ t.length → KidsBy (Node w S l t f) ks i e → e ≤ t.length := by
        intro ks
        induction ks with
        | nil => intro i e hi h; cases h; exact hi
        | cons v ks ih => intro i e hi ⟨m, a1, a2⟩; exact ih m e (Node.end_le a1) a2
      exact this ks (i + 1) e (by omega) hkids

set_option maxRecDepth 100000 in
set_option maxHeartbeats 2000000 in
theorem sub_any (A B : Option Addr) (l : List Sy) (t : List Int) (sc tc : Nat) (a : Int) (ha : -9223372036854775808 ≤ a ∧ a ≤ 9223372036854775807) (hcap : l.length ≤ sc) (htc : t.length ≤ tc) (w : World) (hl : Sigs w A l) (ht : Ints w B t) (hT : Tabs w) (h8 : t.length * 8 ≤ 140737488355328) :
    Calls Tryd.prog 38 #[.slice A l.length sc, .slice B t.length tc, .int .i64 a] w fun e w' => ∃ v, e = .returned (.tuple #[v, .int .i64 (placeErr l t a)]) ∧ Below w.heap.size w w' ∧ RowO w' w.heap.size v (if placeErr l t a = 0 then subAt l t a.toNat else []) := by
  have m2 := ht.2.1
  have cF := find_any A B l t sc tc a ha hcap w hl ht hT h8
  have hz := place_zero (l := l) (t := t) (a := a)
  unfold FindPost at cF
  generalize placeErr l t a = er at cF hz ⊢
  by_cases h0 : er = 0
  · subst h0
    obtain ⟨_, h1, h2⟩ := hz rfl
    obtain ⟨p, rfl⟩ := Int.eq_ofNat_of_zero_le h1
    have hp : p < t.length := by omega
    obtain ⟨b, off, hBe, _⟩ := ht.2.2 (by omega)
    subst hBe
    rw [Int.toNat_natCast] at cF ⊢
    rw [if_pos rfl]
    clear hz h1 h2
    go_enter Tryd.func38, Tryd.ntmps38
    go_wp2_with fail
    refine cF.mono ?_
    rintro e w1 ⟨v, u, rfl, hb1, hp1, _⟩
    obtain ⟨hO, f, hN⟩ := hp1 (by first | rfl | trivial)
    have hs := hN.sized
    have hlt := Node.lt hN
    have hle := Node.end_le hN
    have hsub : (subAt l t p).length = endOf l t p - p := by unfold subAt; rw [List.length_take, List.length_drop]; omega
    have hIs := (ht.kept hb1).part p (endOf l t p - p)
    have cC := fun (cap : Nat) => clone_any (some ⟨b, off + p, none⟩) (subAt l t p) cap w1 hIs (fun h => by cases h) (by rw [hsub]; omega)
    rw [hsub] at cC
    generalize endOf l t p = E at hs hlt hle cC hN hIs hsub
    clear hp1 hO cF hIs hsub
    rcases hs with ⟨nn, rfl, hs1⟩ | ⟨bb, rfl, hbb, hsc⟩
    · have hE : E = p + 1 := by omega
      subst hE
      clear hN
      have e9 : p + 1 - p = 1 := by omega
      rw [e9] at cC
      go_wp2_with (go_at_call 65; refine (leafsize_any _ _).mono ?_; rintro e' w' ⟨rfl, rfl⟩)
      refine (cC _).mono ?_
      rintro e w3 ⟨v3, rfl, hb3, hO3⟩
      go_wp2_with fail
      go_ret2
      exact ⟨_, rfl, below_then hb1 hb1.size hb3, hO3.base hb1.size⟩
    · obtain ⟨n, rfl⟩ : ∃ n, E = p + n := ⟨E - p, by omega⟩
      have e9 : p + n - p = n := by omega
      have e8 : (((p + n : Nat) : Int) - (p : Int)) = (n : Int) := by omega
      rw [e9] at cC
      rw [e8] at hsc
      clear hN e9 e8
      go_wp2_with (go_at_call 66; refine (innersize_any _ _ _ hsc).mono ?_; rintro e' w' ⟨rfl, rfl⟩)
      refine (cC _).mono ?_
      rintro e w3 ⟨v3, rfl, hb3, hO3⟩
      go_wp2_with fail
      go_ret2
      exact ⟨_, rfl, below_then hb1 hb1.size hb3, hO3.base hb1.size⟩
  · have hq1 : (er == 0) = false := beq_eq_false_iff_ne.2 h0
    have hq2 : (er != 0) = true := bne_iff_ne.2 h0
    rw [if_neg h0]
    clear hz h0
    go_enter Tryd.func38, Tryd.ntmps38
    go_wp2_with fail
    refine cF.mono ?_
    rintro e w1 ⟨v, u, rfl, hb1, _⟩
    go_wp2_with fail
    go_ret2
    exact ⟨_, rfl, hb1, RowO.nil _ _⟩
end Go.Proofs.YtfelhlffiiephaaDoor
