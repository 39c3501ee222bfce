/- The statement TopModels answers true over every signature, for all equations with any algebra, and all lemmas. Conditions: the arguments hold at most 1048576 values. -/
import Derived.Test.YtfelhlffiiephaaDoorCards
import Derived.Test.YtfelhlffiiephaaDoorTie
import Derived.Test.YtfelhlffiiephaaDoorTopModels
import Derived.Test.YtfelhlffiiephaaDoorOpenH

import Derived.WalkKit
import Derived.ProofKit
import Derived.OpenShut
import Derived.Lib.LaidIn
import Derived.Lib.LaidU8T
import Derived.Deep.DeepHandedRow
import Derived.SizedLaws
set_option linter.unusedVariables false
set_option linter.unusedSimpArgs false
namespace Go.Proofs.YtfelhlffiiephaaDoor.topModelsUpto
open Go.ChangeShapes Go.WideShapes Go.ChangeAt Go.RowKit Go.Shelf Go.Lib
theorem own : ownKnob Tryd.prog.godebug = none := by kernel_rfl
theorem laidOut : laidOutB Tryd.prog = true := by kernel_rfl
/-- A world for the witness: the settled one, the two tables holding what their initialisers lay. -/
noncomputable def laidWorld (os : Os) : World :=
  let w0 := World.holding Tryd.prog os ⟨#[], #[], []⟩
  let put (h : Array Obj) (g : Nat) (cs : Array Value) : Array Obj := h.modify g fun
    | .cells _ t frozen => .cells cs t frozen
    | o => o
  let h1 := put w0.heap (Tryd.laysValid_ren.g 3) (Lib.firstTab.map fun z => Value.int .u8 z).toArray
  let h2 := put h1 (Tryd.laysValid_ren.g 4) ((List.range 16).flatMap fun i => [Value.int .u8 (Lib.accLo i), Value.int .u8 (Lib.accHi i)]).toArray
  { w0 with heap := h2 }
theorem laid_met (os : Os) (args : Array Value) : laidMet Tryd.prog Rows.topModelsUptoRow.laid ((laidWorld os).forCall (fun _ _ => 0) ⟨#[], args, []⟩).memory :=
  (LaidIn.of_run (l := [("unicode/utf8.acceptRanges", Rows.laid_unicode_utf8_acceptRanges), ("unicode/utf8.first", Rows.laid_unicode_utf8_first)]) [Tryd.laysValid_ren.g 4, Tryd.laysValid_ren.g 3] 8 (by kernel_rfl) (by kernel_rfl) (by kernel_rfl) (by kernel_rfl)).met
theorem witness_row (os : Os) {H : Type} (enc : TypeId × Value → H) :
    (Rows.OpenSpec.upto Rows.topModelsSpec).preRow enc Tryd.prog Tryd.f3 Rows.topModelsUptoRow.domain false Rows.topModelsUptoRow.laid ((laidWorld os).forCall (fun _ _ => 0) ⟨#[], #[.slice none 0 0, .agg #[.slice none 0 0, .int .i64 0, .slice none 0 0], .slice none 0 0], []⟩).memory #[.slice none 0 0, .agg #[.slice none 0 0, .int .i64 0, .slice none 0 0], .slice none 0 0] := by
  have hw : (DataW.whole enc Tryd.prog ((laidWorld os).forCall (fun _ _ => 0) ⟨#[], #[.slice none 0 0, .agg #[.slice none 0 0, .int .i64 0, .slice none 0 0], .slice none 0 0], []⟩).memory Tryd.f3.params.toList (Rows.OpenSpec.upto Rows.topModelsSpec).vars false #[Value.slice none 0 0, .agg #[.slice none 0 0, .int .i64 0, .slice none 0 0], .slice none 0 0].toList 8).map (fun x => (x.1, x.2.1)) =
      some ([.nil, .agg [.nil, .agg [.lit (.int .i64 0), .nil]], .nil], []) := by kernel_rfl
  obtain ⟨⟨x1, x2, x3⟩, hx, hx1⟩ := Option.map_eq_some_iff.1 hw
  simp only [Prod.mk.injEq] at hx1
  obtain ⟨rfl, rfl⟩ := hx1
  exact OpenSpec.preRow_of_cond 8 hx (by kernel_rfl) (fun k hk => by cases hk; kernel_rfl) (by kernel_rfl) (laid_met os _)
set_option maxRecDepth 100000 in
set_option maxHeartbeats 2000000 in
theorem lifted (os : Os) (started : os.Started) (H : Type) (enc : TypeId × Value → H) (F : Stop.Interp) :
    ReturnsInHanded {} Tryd.checked os 3 .any ((Rows.OpenSpec.upto Rows.topModelsSpec).preRow enc Tryd.prog Tryd.f3 Rows.topModelsUptoRow.domain false Rows.topModelsUptoRow.laid) (((Rows.OpenSpec.upto Rows.topModelsSpec).at F).post enc Tryd.prog Tryd.f3 false true false false) := by
  refine returnsInHanded_of_row (C := Tryd.checked) (s := (Rows.OpenSpec.upto Rows.topModelsSpec)) own started (by kernel_rfl) Tryd.func3
    (witness_row_at (enc := enc) (C := Tryd.checked) false (laidWorld os) #[.slice none 0 0, .agg #[.slice none 0 0, .int .i64 0, .slice none 0 0], .slice none 0 0] rfl (by kernel_rfl) (by kernel_rfl) (by kernel_rfl) (witness_row os enc)) ?_
  intro W base args ds gs before hval0 hW _ hcond hsz0 hL _ _
  have hval : ∀ (j : Nat) t v, Tryd.f3.params[j]? = some t → args[j]? = some v → Value.okWide Tryd.prog W .any base t v := hval0
  have hsz : (DataW.weightsEach Tryd.prog (Tryd.f3.params.toList ++ Rows.topModelsSpec.plain.varTypes Tryd.prog) (ds ++ gs)).all (· ≤ reachBytes) = true := hsz0
  have hW' := hW
  obtain ⟨p, q, hA0, hV, rfl, hfz, hnd⟩ := hW
  have hA : DataW.TrodAll enc Tryd.prog W 0 (fun _ => true) true Tryd.f3.params.toList args.toList ds p := hA0
  rw [Tryd.params3] at hA hval hsz
  obtain ⟨v0, vs0, d0, ds0, p0, q0, hargs, rfl, rfl, h0, r0⟩ := trodAll_cons hA
  obtain ⟨v1, vs1, d1, ds1, p1, q1, rfl, rfl, rfl, h1, r1⟩ := trodAll_cons r0
  obtain ⟨v2, vs2, d2, ds2, p2, q2, rfl, rfl, rfl, h2, r2⟩ := trodAll_cons r1
  obtain ⟨rfl, rfl, rfl⟩ := trodAll_nil r2
  obtain rfl : args = #[v0, v1, v2] := by cases args; simp_all
  obtain ⟨rfl, rfl⟩ := trodVars_none hV
  have hTab : Tabs W := utf8Tabs_of_readsT (U8Types.of196 Tryd.laysValid) ⟨by kernel_rfl, by kernel_rfl, by kernel_rfl, by kernel_rfl, by kernel_rfl, by kernel_rfl, by kernel_rfl⟩ (Lib.laidMet.reads hL (.tail _ (.head _))) (Lib.laidMet.reads hL (.head _))
  have hb := bulks.bound (hcond _ rfl)
  simp only [List.append_nil, List.cons_append, List.nil_append, Rows.uptoBulkAll] at hb
  obtain ⟨z0, len0, cp0, rfl⟩ := okWide_slice Tryd.underlying22 (hval 0 22 v0 rfl rfl)
  have k0 := h0
  have lt0 : ∀ x ∈ p0, x.block < W.heap.size := by obtain ⟨m, hm⟩ := k0; exact DataW.trod_lt m _ _ _ hm
  obtain ⟨fuel0, g0⟩ := h0
  obtain ⟨A0, cap0, l0, e0, hc0, hn0, hS0⟩ := open_sigs Tryd.underlying22 Tryd.underlying53 (by kernel_rfl) Tryd.underlying9 (by kernel_rfl) rfl Tryd.underlying3 (by kernel_rfl) rfl g0
  simp only [Value.cells, List.cons.injEq, Value.slice.injEq, and_true] at e0
  obtain ⟨rfl, rfl, rfl⟩ := e0
  obtain ⟨z1, rfl, sz1⟩ := okWide_struct Tryd.underlying28 (hval 1 28 v1 rfl rfl)
  have k1 := h1
  have lt1 : ∀ x ∈ p1, x.block < W.heap.size := by obtain ⟨m, hm⟩ := k1; exact DataW.trod_lt m _ _ _ hm
  obtain ⟨fuel1, g1⟩ := h1
  obtain ⟨A1, cap1, rs1, M1, B1, c1, lins1, y1, yy1, e1, ed1, hc1, hn1, he1, hd1, hM1, hL1⟩ := open_modelled Tryd.underlying28 (by kernel_rfl) Tryd.underlying23 (by kernel_rfl) rfl Tryd.underlying26 (by kernel_rfl) rfl Tryd.underlying3 (by kernel_rfl) rfl Tryd.underlying24 (by kernel_rfl) rfl Tryd.underlying38 (by kernel_rfl) (by kernel_rfl) Tryd.underlying55 (by kernel_rfl) (by kernel_rfl) Tryd.underlying38 (by kernel_rfl) rfl Tryd.underlying38 (by kernel_rfl) rfl Tryd.underlying3 (by kernel_rfl) (by kernel_rfl) (reach_arg hsz (j := 1) rfl rfl) g1
  simp only [Value.cells] at e1 ed1
  obtain rfl : z1 = #[.slice A1 rs1.length cap1, .int .i64 M1, .slice B1 lins1.length c1] := Array.ext' e1
  have bk1 := len_bulk hd1
  rw [ed1] at hb
  obtain ⟨z2, len2, cp2, rfl⟩ := okWide_slice Tryd.underlying29 (hval 2 29 v2 rfl rfl)
  have k2 := h2
  have lt2 : ∀ x ∈ p2, x.block < W.heap.size := by obtain ⟨m, hm⟩ := k2; exact DataW.trod_lt m _ _ _ hm
  obtain ⟨fuel2, g2⟩ := h2
  obtain ⟨A2, cap2, l2, e2, hS2, hd2⟩ := open_lemmas Tryd.underlying29 Tryd.underlying46 (by kernel_rfl) (by kernel_rfl) Tryd.underlying38 (by kernel_rfl) rfl Tryd.underlying38 (by kernel_rfl) rfl Tryd.underlying44 (by kernel_rfl) rfl Tryd.underlying43 (by kernel_rfl) (by kernel_rfl) Tryd.underlying3 (by kernel_rfl) rfl Tryd.underlying4 (by kernel_rfl) rfl Tryd.underlying3 (by kernel_rfl) rfl Tryd.underlying41 (by kernel_rfl) rfl Tryd.underlying40 (by kernel_rfl) (by kernel_rfl) Tryd.underlying3 (by kernel_rfl) rfl Tryd.underlying38 (by kernel_rfl) rfl Tryd.underlying3 (by kernel_rfl) (by kernel_rfl) (reach_arg hsz (j := 2) rfl rfl) g2
  have bk2 : l2.length ≤ Rows.uptoBulk d2 := len_bulk hd2
  simp only [Value.cells, List.cons.injEq, Value.slice.injEq, and_true] at e2
  obtain ⟨rfl, rfl, rfl⟩ := e2
  have h48 : (rs1.length + l2.length) * 48 ≤ 140737488355328 := by
    simp only [Rows.uptoBulk, Rows.uptoBulkAll] at hb
    omega
  clear hA0 hval0 hsz0 hsz
  refine (topModels_walk z0 l0 cp0 A1 rs1 cap1 M1 B1 lins1 c1 z2 l2 cp2 W hTab hc0 hS0 hc1 hn1 he1 hM1 hL1 hS2 h48).mono fun e W' ⟨he, bel⟩ => ?_
  subst he
  exact ⟨_, rfl, _, _, _, [], _, [], hW', trodAll_mk1 (shut_bool Tryd.underlying4 _), (trodAll_cons_mk (Below.trod laidOut (by kernel_rfl) (of_decide_eq_true (by kernel_rfl)) k0 bel lt0) (trodAll_cons_mk (Below.trod laidOut (by kernel_rfl) (of_decide_eq_true (by kernel_rfl)) k1 bel lt1) (trodAll_cons_mk (Below.trod laidOut (by kernel_rfl) (of_decide_eq_true (by kernel_rfl)) k2 bel lt2) trodAll_mk0))), rfl, bel.frame _, fun h => by cases h⟩
theorem said : Rows.TopModelsUptoSaid :=
  OpenClaim.holds_of_cond 3 Tryd.f3 rfl rfl rfl rfl rfl rfl rfl ⟨rfl, rfl, rfl, rfl, rfl⟩ rfl rfl rfl rfl rfl (by kernel_rfl) Tryd.func3 (by kernel_rfl)
    (of_decide_eq_true (by kernel_rfl)) (by unfold Func.isWrapper; first | (rw [if_pos (by decide +kernel)]; kernel_rfl) | (rw [if_neg (by decide +kernel)]; exact ⟨rfl, rfl⟩))
    (fun os started H enc _ F => by rw [OpenClaim.pre_eq_preRow]; exact lifted os started H enc F)
theorem plain (f : FuncId) (fn : Func) (hf : Tryd.pinned.checked.prog.funcNamed "lodestone/lodestonetop.TopModels" = some f) (hfn : Tryd.pinned.checked.prog.funcs[f]? = some fn) :
    true = Tryd.pinned.checked.prog.looks [] ∧ ∀ (j : Nat) t, fn.params[j]? = some t → Tryd.pinned.checked.prog.wantsStandIn t = false := by
  obtain rfl : f = 3 := Option.some.inj ((show Tryd.prog.funcNamed "lodestone/lodestonetop.TopModels" = some 3 by kernel_rfl).symm.trans hf) |>.symm
  obtain rfl : fn = Tryd.f3 := (Option.some.inj (Tryd.func3.symm.trans hfn)).symm
  refine ⟨by kernel_rfl, fun j t ht => ?_⟩
  rw [Tryd.params3] at ht
  have hm := Array.mem_of_getElem? ht
  simp at hm
  have hd : t = 22 ∨ t = 28 ∨ t = 29 := by omega
  rcases hd with rfl | rfl | rfl
  · exact (show Tryd.prog.wantsStandIn 22 = false by kernel_rfl)
  · exact (show Tryd.prog.wantsStandIn 28 = false by kernel_rfl)
  · exact (show Tryd.prog.wantsStandIn 29 = false by kernel_rfl)
end Go.Proofs.YtfelhlffiiephaaDoor.topModelsUpto
namespace Go.Proofs.YtfelhlffiiephaaDoor
theorem topModelsUpto_holds : Rows.TopModelsUptoCardSaid :=
  Claim7.holds_tied_plain_at .later [] _ _ _ _ topModelsUpto.said (fun _ h => by cases h) (by kernel_rfl) (fun _ h => by cases h) topModelsUpto_row_tie rfl ⟨rfl, rfl⟩ (by kernel_rfl) rfl topModelsUpto.plain (by kernel_rfl)
#print axioms topModelsUpto_holds
end Go.Proofs.YtfelhlffiiephaaDoor
