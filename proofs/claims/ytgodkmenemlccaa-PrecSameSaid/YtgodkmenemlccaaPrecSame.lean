/- The walk of PrecSame: for any two numbers of symbols and any two rows of pairs it answers true. Conditions: none. -/
import Derived.Test.YtgodkmenemlccaaPrecD
set_option linter.unusedVariables false
set_option linter.unusedSimpArgs false
namespace Go.Proofs.Ytgodkmenemlccaa
open Go.RowKit

/-- What the two closures hand back: nothing, or one precedence each. -/
def Hand (w : World) (p q : Option Addr) (n : Int) (l : List (Int × Int)) : Prop :=
  (p = none ∧ q = none) ∨ ∃ b c, p = some ⟨b, 0, none⟩ ∧ q = some ⟨c, 0, none⟩ ∧ IsPrec w b n l ∧ IsRef w c n l
theorem Hand.kept {w w' : World} {p q : Option Addr} {n : Int} {l : List (Int × Int)} (h : Hand w p q n l) (hb : Below w.heap.size w w') : Hand w' p q n l := by
  rcases h with h | ⟨b, c, h1, h2, h3, h4⟩
  · exact .inl h
  · exact .inr ⟨b, c, h1, h2, h3.kept hb, h4.kept hb⟩

set_option maxRecDepth 100000 in
theorem made_any (n : Int) (A : Option Addr) (l : List (Int × Int)) (len cap : Nat) (w : World) (hlen : l.length = len) (hl : Pairs w A l) :
    Calls Try.prog 13 #[.int .i64 n, .slice A len cap] w fun e w' => ∃ p q, e = .returned (.tuple #[.pointer p, .pointer q, .bool true]) ∧ Below w.heap.size w w' ∧ Hand w' p q n l := by
  have fin : ∀ p q w', Below w.heap.size w w' → Hand w' p q n l → (∃ p' q', Ending.returned (.tuple #[.pointer p, .pointer q, .bool true]) = .returned (.tuple #[.pointer p', .pointer q', .bool true]) ∧ Below w.heap.size w w' ∧ Hand w' p' q' n l) := fun p q w' h1 h2 => ⟨p, q, rfl, h1, h2⟩
  have hlen' := Lib.hid hlen
  clear hlen
  by_cases hp : perr n l = 0
  · have HP := Lib.hid hp
    clear hp
    go_enter Try.func13, Try.ntmps13
    go_wp2_with fail
    refine (close_ok n A l len cap w hlen'.out hl HP.out).mono ?_
    rintro e w1 ⟨rfl, hb1, hP⟩
    obtain ⟨p, hpb⟩ : ∃ p, p = w.heap.size := ⟨_, rfl⟩
    rw [← hpb] at hP ⊢
    clear hpb
    go_wp2_with fail
    refine (ref_ok n A l len cap w1 hlen'.out (hl.kept hb1) HP.out).mono ?_
    rintro e w2 ⟨rfl, hb2, hQ⟩
    obtain ⟨q, hqb⟩ : ∃ p, p = w1.heap.size := ⟨_, rfl⟩
    rw [← hqb] at hQ ⊢
    clear hqb
    have hP2 := hP.kept hb2
    have hB2 := below_then hb1 hb1.size hb2
    go_wp2_with fail
    go_ret3
    exact fin _ _ _ hB2 (.inr ⟨p, q, rfl, rfl, hP2, hQ⟩)
  · have HP := Lib.hid hp
    clear hp
    go_enter Try.func13, Try.ntmps13
    go_wp2_with fail
    refine (close_err n A l len cap w hlen'.out hl _ rfl HP.out).mono ?_
    rintro e w1 ⟨rfl, hb1⟩
    go_wp2_with fail
    refine (ref_err n A l len cap w1 hlen'.out (hl.kept hb1) _ rfl HP.out).mono ?_
    rintro e w2 ⟨rfl, hb2⟩
    have hB2 := below_then hb1 hb1.size hb2
    generalize perr n l = x at *
    go_wp2_with fail
    go_ret3
    exact fin _ _ _ hB2 (.inl ⟨rfl, rfl⟩)

set_option maxRecDepth 100000 in
set_option maxHeartbeats 2000000 in
theorem precSame_walk (n : Int) (A : Option Addr) (l : List (Int × Int)) (cap : Nat) (m : Int) (B : Option Addr) (k : List (Int × Int)) (cap2 : Nat) (w : World) (hl : Pairs w A l) (hk : Pairs w B k) :
    Calls Try.prog 7 #[.int .i64 n, .slice A l.length cap, .int .i64 m, .slice B k.length cap2] w fun e w' => e = .returned (.bool true) ∧ Below w.heap.size w w' := by
  go_enter Try.func7, Try.ntmps7
  go_wp2_with (go_at_call 8; refine (shown_any _).mono ?_; rintro e w1 ⟨rfl, hB⟩)
  refine (made_any n A l _ cap w1 rfl (hl.kept hB)).mono ?_
  rintro e w2 ⟨p, q, rfl, hb2, hP⟩
  have hB2 := below_then hB hB.size hb2
  go_wp2_with fail
  refine (made_any m B k _ cap2 w2 rfl (hk.kept hB2)).mono ?_
  rintro e w3 ⟨r, s, rfl, hb3, hR⟩
  have hB3 := below_then hB2 hB2.size hb3
  have hP3 := hP.kept hb3
  clear hP hB hb2 hB2 hb3
  go_wp2_with fail
  obtain ⟨M, hM⟩ : ∃ M, (if n < m then m else n) = M := ⟨_, rfl⟩
  go_loopg [16] 200 (fun gk i wx => ∃ c : Nat, Aside (gk + c = 200) ∧ i = .int .i64 c ∧ Below w.heap.size w wx ∧ Hand wx p q n l ∧ Hand wx r s m k)
  case atStart => exact ⟨0, (rfl : 200 + 0 = 200), rfl, hB3, hP3, hR⟩
  case round =>
    clear hB3 hP3 hR
    obtain ⟨c, hgc, rfl, hB, hP, hR⟩ := hrel
    have hc : c ≤ 200 := by have := hgc.out; omega
    by_cases hcM : (c : Int) < M
    · by_cases hc2 : (c : Int) < 200
      · go_wp2_with fail
        obtain ⟨wo, rfl⟩ : ∃ wo : World, wo = wr := ⟨_, rfl⟩
        go_loopg [17] 200 (fun gk i wx => ∃ d : Nat, Aside (gk + d = 200) ∧ i = .int .i64 d ∧ Below w.heap.size w wx ∧ Hand wx p q n l ∧ Hand wx r s m k)
        case atStart => exact ⟨0, (rfl : 200 + 0 = 200), rfl, hB, hP, hR⟩
        case round =>
          clear hB hP hR
          obtain ⟨d, hgd, rfl, hB, hP, hR⟩ := hrel
          have hd : d ≤ 200 := by have := hgd.out; omega
          by_cases hdM : (d : Int) < M
          · by_cases hd2 : (d : Int) < 200
            · rcases hP with ⟨rfl, rfl⟩ | ⟨b1, c1, rfl, rfl, hP, hQ⟩
              · rcases hR with ⟨rfl, rfl⟩ | ⟨b2, c2, rfl, rfl, hP', hQ'⟩
                · go_wp2_with fail
                  go_roundg (200 - (d + 1))
                  case measure => have := hgd.out; omega
                  case rel => exact ⟨d + 1, by have := hgd.out; show _ = _; omega, by go_num, hB, .inl ⟨rfl, rfl⟩, .inl ⟨rfl, rfl⟩⟩
                · go_wp2_with fail
                  refine (above_any b2 m k c d wr hP').mono ?_
                  rintro e w4 ⟨rfl, hb4⟩
                  go_wp2_with fail
                  refine (refabove_any c2 m k c d w4 (hQ'.kept hb4)).mono ?_
                  rintro e w5 ⟨rfl, rfl⟩
                  go_wp2_with fail
                  go_roundg (200 - (d + 1))
                  case measure => have := hgd.out; omega
                  case rel => exact ⟨d + 1, by have := hgd.out; show _ = _; omega, by go_num, below_then hB hB.size hb4, .inl ⟨rfl, rfl⟩, .inr ⟨_, _, rfl, rfl, hP'.kept hb4, hQ'.kept hb4⟩⟩
              · rcases hR with ⟨rfl, rfl⟩ | ⟨b2, c2, rfl, rfl, hP', hQ'⟩
                · go_wp2_with fail
                  refine (above_any b1 n l c d wr hP).mono ?_
                  rintro e w4 ⟨rfl, hb4⟩
                  go_wp2_with fail
                  refine (refabove_any c1 n l c d w4 (hQ.kept hb4)).mono ?_
                  rintro e w5 ⟨rfl, rfl⟩
                  go_wp2_with fail
                  go_roundg (200 - (d + 1))
                  case measure => have := hgd.out; omega
                  case rel => exact ⟨d + 1, by have := hgd.out; show _ = _; omega, by go_num, below_then hB hB.size hb4, .inr ⟨_, _, rfl, rfl, hP.kept hb4, hQ.kept hb4⟩, .inl ⟨rfl, rfl⟩⟩
                · go_wp2_with fail
                  refine (above_any b1 n l c d wr hP).mono ?_
                  rintro e w4 ⟨rfl, hb4⟩
                  have hB4 := below_then hB hB.size hb4
                  go_wp2_with fail
                  refine (refabove_any c1 n l c d w4 (hQ.kept hb4)).mono ?_
                  rintro e w5 ⟨rfl, rfl⟩
                  go_wp2_with fail
                  refine (above_any b2 m k c d w4 (hP'.kept hb4)).mono ?_
                  rintro e w5 ⟨rfl, hb5⟩
                  go_wp2_with fail
                  refine (refabove_any c2 m k c d w5 ((hQ'.kept hb4).kept hb5)).mono ?_
                  rintro e w6 ⟨rfl, rfl⟩
                  go_wp2_with fail
                  go_roundg (200 - (d + 1))
                  case measure => have := hgd.out; omega
                  case rel => exact ⟨d + 1, by have := hgd.out; show _ = _; omega, by go_num, below_then hB4 hB4.size hb5, .inr ⟨_, _, rfl, rfl, (hP.kept hb4).kept hb5, (hQ.kept hb4).kept hb5⟩, .inr ⟨_, _, rfl, rfl, (hP'.kept hb4).kept hb5, (hQ'.kept hb4).kept hb5⟩⟩
            · go_wp2_with fail
              go_roundg (200 - (c + 1))
              case measure => have := hgc.out; omega
              case rel => exact ⟨c + 1, by have := hgc.out; show _ = _; omega, by go_num, hB, hP, hR⟩
          · go_wp2_with fail
            go_roundg (200 - (c + 1))
            case measure => have := hgc.out; omega
            case rel => exact ⟨c + 1, by have := hgc.out; show _ = _; omega, by go_num, hB, hP, hR⟩
      · go_wp2_with fail
        go_ret
        exact ⟨rfl, hB⟩
    · go_wp2_with fail
      go_ret
      exact ⟨rfl, hB⟩
end Go.Proofs.Ytgodkmenemlccaa
