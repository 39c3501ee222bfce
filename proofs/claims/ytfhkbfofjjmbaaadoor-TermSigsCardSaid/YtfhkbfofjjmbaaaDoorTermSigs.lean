/- The walk of TermSigs: over every signature it answers true. Conditions: utf8's tables as laid. -/
import Derived.Test.YtfhkbfofjjmbaaaDoorShownT
set_option linter.unusedVariables false
set_option linter.unusedSimpArgs false
namespace Go.Proofs.YtfhkbfofjjmbaaaDoor
open Go.RowKit Go.Lib

set_option maxRecDepth 100000 in
theorem termSigs_walk (A : Option Addr) (l : List Sy) (sc : Nat) (w : World) (hT : Tabs w) (hcap : l.length ≤ sc) (hl : Sigs w A l) :
    Calls Tryd.prog 3 #[.slice A l.length sc] w fun e w' => e = .returned (.bool true) ∧ Below w.heap.size w w' := by
  go_enter Tryd.func3, Tryd.ntmps3
  go_wp2_with fail
  refine (shown_any w hT).mono ?_
  rintro e w1 ⟨rfl, hb1⟩
  go_wp2_with fail
  refine (sig_any A l l.length sc rfl hcap w1 (hl.kept hb1) (hT.kept hb1)).mono ?_
  rintro e w2 ⟨rfl, hb2⟩
  have hB2 := below_then hb1 hb1.size hb2
  go_wp2_with fail
  refine (refsig_any A l l.length sc rfl w2 (hl.kept hB2)).mono ?_
  rintro e w3 ⟨rfl, hb3⟩
  have hB3 := below_then hB2 hB2.size hb3
  have hq : (sigErr l == sigErr l) = true := beq_self_eq_true _
  go_wp2_with fail
  go_ret
  exact ⟨rfl, hB3⟩
end Go.Proofs.YtfhkbfofjjmbaaaDoor
