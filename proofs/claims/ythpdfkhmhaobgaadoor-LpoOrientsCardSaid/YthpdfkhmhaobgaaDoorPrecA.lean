/- Walks of the rows of bits: a row asked, a row with a bit more, two rows together. Conditions: symbols below 128. -/
import Derived.Test.YthpdfkhmhaobgaaDoorProg
import Derived.Test.YthpdfkhmhaobgaaDoorPrecPure
import Derived.Test.YthpdfkhmhaobgaaDoorRegion
import Derived.WalkKit
import Derived.WalkLawsBesides
import Derived.KernelRfl
import Derived.Lib.Hide
import Derived.Laws.Bits64
import Derived.Laws.StructEq
set_option linter.unusedVariables false
set_option linter.unusedSimpArgs false
namespace Go.Proofs.YthpdfkhmhaobgaaDoor
open Go.RowKit

/-- Two arrays of two numbers, compared. -/
theorem eqArr2 {P : Program} (w : World) (d : Nat) {t e : TypeId} {k : IntKind} (a b c f : Int)
    (ht : P.underlying t = some (.array 2 e)) (he : P.underlying e = some (.int k)) (hag : ∀ w, (isAgg e).run P w = .ok false w) (hsz : ∀ w, (sizeOf e).run P w = .ok 1 w) :
    (Op.equalIn (d + 2) t (.agg #[.int k a, .int k b]) (.agg #[.int k c, .int k f])).run P w = .ok (a == c && b == f) w := by
  have hx : ∀ (x y : Int), (Op.equalIn (d + 1) e (.int k x) (.int k y)).run P w = .ok (x == y) w := by
    intro x y
    simp [Op.equalIn, run_underlying he, Sem.run_bind]
  rw [Op.equalIn]
  simp [Sem.run_bind, run_underlying ht, hsz, part, hag, hx, List.range'_succ]
  cases h1 : (a == c) <;> cases h2 : (b == f) <;> simp_all [Sem.run_bind, hx]
theorem neq_row (a b c f : Int) (w : World) : (binOp .neq 92 (.agg #[.int .u64 a, .int .u64 b]) (.agg #[.int .u64 c, .int .u64 f])).run Tryd.prog w = .ok (.bool (!(a == c && b == f))) w := by
  have h := eqArr2 (P := Tryd.prog) w 9998 (t := 92) (k := .u64) a b c f Tryd.underlying92 Tryd.underlying90 (fun w => by kernel_rfl) (fun w => by kernel_rfl)
  simp only [binOp]
  simp [Op.equal, Op.maxDepth, h]
theorem neq_pair (a b c f : Int) (w : World) : (binOp .neq 54 (.agg #[.int .i64 a, .int .i64 b]) (.agg #[.int .i64 c, .int .i64 f])).run Tryd.prog w = .ok (.bool (!(a == c && b == f))) w := by
  have h := eqArr2 (P := Tryd.prog) w 9998 (t := 54) (k := .i64) a b c f Tryd.underlying54 Tryd.underlying3 (fun w => by kernel_rfl) (fun w => by kernel_rfl)
  simp only [binOp]
  simp [Op.equal, Op.maxDepth, h]

theorem ofInt_nat64 (a : Nat) (ha : a < 18446744073709551616) : (BitVec.ofInt 64 (a : Int)).toNat = a := by
  rw [BitVec.ofInt_natCast, BitVec.toNat_ofNat]; exact Nat.mod_eq_of_lt (by omega)
theorem bits_or_nat (a b : Nat) (ha : a < 18446744073709551616) (hb : b < 18446744073709551616) : bits .or .u64 (a : Int) (b : Int) = ((a ||| b : Nat) : Int) := by
  have hx : a ||| b < 2 ^ 64 := Nat.or_lt_two_pow (by omega) (by omega)
  show IntKind.u64.wrap ((BitVec.ofInt 64 (a : Int) ||| BitVec.ofInt 64 (b : Int)).toNat : Int) = _
  rw [BitVec.toNat_or, ofInt_nat64 a ha, ofInt_nat64 b hb, IntKind.wrap_u64]
  omega
theorem bits_and_one (a : Nat) (ha : a < 18446744073709551616) (k : Nat) : (bits .and .u64 ((a : Int) / 2 ^ k) 1 == 1) = a.testBit k := by
  have e : ((a : Int) / 2 ^ k) = ((a / 2 ^ k : Nat) : Int) := by rw [Int.natCast_ediv]; simp
  have hd : a / 2 ^ k < 18446744073709551616 := Nat.lt_of_le_of_lt (Nat.div_le_self _ _) ha
  have h : bits .and .u64 ((a : Int) / 2 ^ k) 1 = (((a / 2 ^ k) % 2 : Nat) : Int) := by
    rw [e]
    show IntKind.u64.wrap ((BitVec.ofInt 64 ((a / 2 ^ k : Nat) : Int) &&& BitVec.ofInt 64 ((1 : Nat) : Int)).toNat : Int) = _
    rw [BitVec.toNat_and, ofInt_nat64 _ hd, ofInt_nat64 1 (by decide), IntKind.wrap_u64, Nat.and_one_is_mod]
    omega
  rw [h, Nat.testBit_eq_decide_div_mod_eq]
  rw [Bool.eq_iff_iff]; simp; omega
theorem wrap_pow (k : Nat) (h : k < 64) : IntKind.u64.wrap (2 ^ k) = ((2 ^ k : Nat) : Int) := by
  rw [IntKind.wrap_u64]
  have h1 : (2:Nat) ^ k < 2 ^ 64 := Nat.pow_lt_pow_right (by decide) h
  have e : ((2:Int) ^ k) = ((2 ^ k : Nat) : Int) := by simp
  rw [e]
  generalize (2:Nat) ^ k = x at *
  simp only [Nat.reducePow] at h1
  omega

theorem pow_lt64 {k : Nat} (h : k < 64) : 2 ^ k < 18446744073709551616 := Nat.pow_lt_pow_right (a := 2) (m := k) (n := 64) (by decide) h

/-- A row as a value. -/
def rowV (m : Nat) : Value := .agg #[.int .u64 (lo m), .int .u64 (hi m)]

theorem has_any (m g : Nat) (w : World) (hm : W128 m) (hg : g < 128) :
    Calls Tryd.prog 36 #[.agg #[.int .u64 (lo m), .int .u64 (hi m)], .int .i64 g] w fun e w' => e = .returned (.bool (m.testBit g)) ∧ Below w.heap.size w w' := by
  have hl := lo_lt m
  have hh := hi_lt hm
  by_cases h : g < 64
  · have hq : (g : Int) / 64 = 0 := by omega
    have hf : (bits .and .u64 ((lo m : Int) / 2 ^ ((g : Int) % 64).toNat) 1 == 1) = m.testBit g := by
      rw [bits_and_one _ hl, show ((g : Int) % 64).toNat = g by omega, testBit_lo h]
    have HF := Lib.hid hf
    clear hf hl hh hm
    go_enter Tryd.func36, Tryd.ntmps36
    go_wp2
    go_ret
    refine ⟨?_, (Below.refl _ _).alloc (Nat.le_refl _) _⟩
    rw [← HF.out]; rfl
  · have hq : (g : Int) / 64 = 1 := by omega
    have hf : (bits .and .u64 ((hi m : Int) / 2 ^ ((g : Int) % 64).toNat) 1 == 1) = m.testBit g := by
      rw [bits_and_one _ hh, show ((g : Int) % 64).toNat = g - 64 by omega, testBit_hi (by omega)]
    have HF := Lib.hid hf
    clear hf hl hh hm
    go_enter Tryd.func36, Tryd.ntmps36
    go_wp2
    go_ret
    refine ⟨?_, (Below.refl _ _).alloc (Nat.le_refl _) _⟩
    rw [← HF.out]; rfl

theorem below_two (w : World) (o p : Obj) : Below w.heap.size w ((w.alloc o).alloc p) := ((Below.refl _ _).alloc (Nat.le_refl _) _).alloc (by simp) _
theorem below_drew' {B : Nat} {w W : World} (h : Below B w W) : Below B w W.drew := ⟨h.os, h.tape, h.output, h.size, h.block⟩

theorem with_any (m g : Nat) (w : World) (hm : W128 m) (hg : g < 128) :
    Calls Tryd.prog 35 #[.agg #[.int .u64 (lo m), .int .u64 (hi m)], .int .i64 g] w fun e w' => e = .returned (.agg #[.int .u64 (lo (m ||| 2 ^ g)), .int .u64 (hi (m ||| 2 ^ g))]) ∧ Below w.heap.size w w' := by
  have hl := lo_lt m
  have hh := hi_lt hm
  by_cases h : g < 64
  · have hq : (g : Int) / 64 = 0 := by omega
    have hf : bits .or .u64 (lo m : Int) (IntKind.u64.wrap (2 ^ (g % 64))) = (lo (m ||| 2 ^ g) : Int) := by
      rw [show g % 64 = g by omega, wrap_pow _ h, bits_or_nat _ _ hl (pow_lt64 h), lo_or, lo_bit h]
    have hf2 : hi (m ||| 2 ^ g) = hi m := by rw [hi_or, hi_bit h, Nat.or_zero]
    have HF := Lib.hid hf
    have HF2 := Lib.hid hf2
    clear hf hf2 hl hh hm
    go_enter Tryd.func35, Tryd.ntmps35
    go_wp2
    go_region
    go_wp2
    refine bodyPost_ret (v := .agg #[.int .u64 (bits .or .u64 (lo m : Int) (IntKind.u64.wrap (2 ^ (g % 64)))), .int .u64 (hi m)]) ?_ rfl ⟨by rw [HF.out, HF2.out], below_drew' (below_two _ _ _)⟩
    simp [results, Tryd.results35, go_sem]
  · have hq : (g : Int) / 64 = 1 := by omega
    have hf : bits .or .u64 (hi m : Int) (IntKind.u64.wrap (2 ^ (g % 64))) = (hi (m ||| 2 ^ g) : Int) := by
      rw [show g % 64 = g - 64 by omega, wrap_pow _ (by omega), bits_or_nat _ _ hh (pow_lt64 (by omega)), hi_or, hi_bit' (by omega)]
    have hf2 : lo (m ||| 2 ^ g) = lo m := by rw [lo_or, lo_bit' (by omega), Nat.or_zero]
    have HF := Lib.hid hf
    have HF2 := Lib.hid hf2
    clear hf hf2 hl hh hm
    go_enter Tryd.func35, Tryd.ntmps35
    go_wp2
    go_region
    go_wp2
    refine bodyPost_ret (v := .agg #[.int .u64 (lo m), .int .u64 (bits .or .u64 (hi m : Int) (IntKind.u64.wrap (2 ^ (g % 64))))]) ?_ rfl ⟨by rw [HF.out, HF2.out], below_drew' (below_two _ _ _)⟩
    simp [results, Tryd.results35, go_sem]

theorem below_three (w : World) (o p q : Obj) : Below w.heap.size w (((w.alloc o).alloc p).alloc q) := (below_two w o p).alloc (by simp; omega) _
theorem and_any (m g : Nat) (w : World) (hm : W128 m) (hg : W128 g) :
    Calls Tryd.prog 37 #[.agg #[.int .u64 (lo m), .int .u64 (hi m)], .agg #[.int .u64 (lo g), .int .u64 (hi g)]] w fun e w' => e = .returned (.agg #[.int .u64 (lo (m ||| g)), .int .u64 (hi (m ||| g))]) ∧ Below w.heap.size w w' := by
  have hl : bits .or .u64 (lo m : Int) (lo g : Int) = (lo (m ||| g) : Int) := by rw [bits_or_nat _ _ (lo_lt _) (lo_lt _), lo_or]
  have hh : bits .or .u64 (hi m : Int) (hi g : Int) = (hi (m ||| g) : Int) := by rw [bits_or_nat _ _ (hi_lt hm) (hi_lt hg), hi_or]
  have HL := Lib.hid hl
  have HH := Lib.hid hh
  clear hl hh hm hg
  go_enter Tryd.func37, Tryd.ntmps37
  go_wp2
  refine wp_loop_rounds 3 ?_
  rw [rounds_succ]
  go_wp2
  go_region
  go_wp2
  rw [rounds_succ]
  go_wp2
  go_region
  go_wp2
  rw [rounds_succ]
  go_wp2
  refine bodyPost_ret (v := .agg #[.int .u64 (bits .or .u64 (lo m : Int) (lo g : Int)), .int .u64 (bits .or .u64 (hi m : Int) (hi g : Int))]) ?_ rfl ⟨by rw [HL.out, HH.out], below_drew' (below_drew' (below_three _ _ _ _))⟩
  simp [results, Tryd.results37, go_sem]
end Go.Proofs.YthpdfkhmhaobgaaDoor
