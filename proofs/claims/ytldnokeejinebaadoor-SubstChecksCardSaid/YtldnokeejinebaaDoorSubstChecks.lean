/- The walk of SubstChecks: over every signature and all binds it answers true. Conditions: utf8's tables as laid. -/
import Derived.Test.YtldnokeejinebaaDoorShown
set_option linter.unusedVariables false
set_option linter.unusedSimpArgs false
namespace Go.Proofs.YtldnokeejinebaaDoor
open Go.RowKit Go.Lib

set_option maxRecDepth 100000 in
set_option maxHeartbeats 4000000 in
theorem substChecks_walk (A : Option Addr) (l : List Sy) (sc : Nat) (B : Option Addr) (s : List Bd) (c : Nat) (w : World) (hT : Tabs w) (hcap : l.length ≤ sc) (hl : Sigs w A l) (hc : s.length ≤ c) (hn : B = none → s.length = 0 ∧ c = 0) (h32 : s.length * 32 ≤ 140737488351232) (hs : Binds w B s) :
    Calls Tryd.prog 3 #[.slice A l.length sc, .slice B s.length c] w fun e w' => e = .returned (.bool true) ∧ Below w.heap.size w w' := by
  go_enter Tryd.func3, Tryd.ntmps3
  go_wp2_with fail
  refine (shown_any w hT).mono ?_
  rintro e w1 ⟨rfl, hb1⟩
  go_wp2_with fail
  refine (copied_any B s c w1 (hs.kept hb1) (by omega)).mono ?_
  rintro e w2 ⟨v, rfl, hb2, hC⟩
  obtain ⟨C, d, rfl, _, _, hs2⟩ := hC.reads
  have hB2 := below_then hb1 hb1.size hb2
  go_wp2_with fail
  refine (subst_check_any A C l s sc d hcap w2 (hl.kept hB2) hs2 (hT.kept hB2)).mono ?_
  rintro e w3 ⟨rfl, hb3⟩
  have hB3 := below_then hB2 hB2.size hb3
  go_wp2_with fail
  refine (subst_refcheck_any A B l s sc c w3 (hl.kept hB3) (hs.kept hB3)).mono ?_
  rintro e w4 ⟨rfl, hb4⟩
  have hB4 := below_then hB3 hB3.size hb4
  have hq : (substErr l s == substErr l s) = true := beq_self_eq_true _
  have cSm := sameBinds_any C B s s d c w4 ((hs2.kept hb3).kept hb4) (hs.kept hB4)
  rw [decide_eq_true rfl] at cSm
  go_wp2_with fail
  refine cSm.mono ?_
  rintro e w5 ⟨rfl, hb5⟩
  have hB5 := below_then hB4 hB4.size hb5
  go_wp2_with fail
  go_ret
  exact ⟨rfl, hB5⟩
end Go.Proofs.YtldnokeejinebaaDoor
