/- The library's small functions on floats and words. -/
import Derived.Test.YtkbpjegmfhmhbaaLen
import Derived.Test.YtkbpjegmfhmhbaaFloat
import Derived.RangeFuncNested
import Derived.Shelf.Abstract
import Derived.Shelf.RegionOpen
import Derived.OwnWalkIn
import Derived.TacticsInMore
import Derived.LoopNIn
import Derived.LoopIn
import Derived.Outline
import Derived.BigQuiet
import Derived.Sort.QuietIn
import Derived.Lib.Hide
import Derived.Deep.RegionHeld3
import Derived.WalkSpells
import Derived.StillTactics
import Derived.OwnWalk
import Derived.Deep.RegionLaw
import Derived.ArgAppend
import Derived.Lib.SliceRun
import Derived.IntWalk
import Derived.WalkLawsBesides
import Derived.Laws.Externs
import Derived.Laws.BitsAllLaws
import Derived.Laws.ShiftsVarLaws
import Derived.Lib.Mul64
import Derived.Laws.Bits64b
import Derived.Shelf.Bits.Mul64
namespace Go.Proofs.Ytkbpjegmfhmhbaa
open Go.RowKit Go.Shelf
attribute [local go_sem] Oper.semAt_some

theorem run_bits (f : Nat) (w : World) : (callFunc 18 #[.float .f64 f]).run Try.prog w = .ok (.value (.int .u64 f)) w := by
  rw [run_callFunc_extern Try.func18 (by kernel_rfl) (by kernel_rfl) (by kernel_rfl) (e := Extern.MathFloatBits.float64bits) (by kernel_rfl)]
  rfl
theorem run_frombits (n : Int) (w : World) : (callFunc 13 #[.int .u64 n]).run Try.prog w = .ok (.value (.float .f64 n.toNat)) w := by
  rw [run_callFunc_extern Try.func13 (by kernel_rfl) (by kernel_rfl) (by kernel_rfl) (e := Extern.MathFloatBits.float64frombits) (by kernel_rfl)]
  rfl

theorem eq_self (f : Nat) : (Ieee.double.order f f != some .eq) = nanB f := by
  rw [order_eq, cmp_def]
  cases nanB f <;> simp
def ltF (x y : Nat) : Bool := !nanB x && !nanB y && decide (sv x < sv y)
def leF (x y : Nat) : Bool := !nanB x && !nanB y && decide (sv x ≤ sv y)
theorem lss_f (x y : Nat) : (Ieee.double.order x y == some .lt) = ltF x y := by
  rw [order_eq, cmp_def]; unfold ltF
  cases nanB x <;> cases nanB y <;> simp
  split
  · simp [*]
  · split <;> simp [*]
theorem gtr_f (x y : Nat) : (Ieee.double.order x y == some .gt) = ltF y x := by
  rw [order_eq, cmp_def]; unfold ltF
  cases nanB x <;> cases nanB y <;> simp
  split
  · simp; omega
  · split
    · simp; omega
    · simp; omega
theorem leq_f (x y : Nat) : (Ieee.double.order x y == some .lt || Ieee.double.order x y == some .eq) = leF x y := by
  rw [order_eq, cmp_def]; unfold leF
  cases nanB x <;> cases nanB y <;> simp
  split
  · simp; omega
  · split
    · simp; omega
    · simp; omega
theorem geq_f (x y : Nat) : (Ieee.double.order x y == some .gt || Ieee.double.order x y == some .eq) = leF y x := by
  rw [order_eq, cmp_def]; unfold leF
  cases nanB x <;> cases nanB y <;> simp
  split
  · simp; omega
  · split
    · simp; omega
    · simp; omega

theorem isnan_any (f : Nat) (w : World) : Calls Try.prog 28 #[.float .f64 f] w fun e w' => e = .returned (.bool (nanB f)) ∧ w' = w := by
  have h := eq_self f
  go_enter Try.func28, Try.ntmps28
  go_wp2_with fail
  go_ret
  exact ⟨by rw [← h]; rfl, rfl⟩
theorem isnan2_any (f : Nat) (w : World) : Calls Try.prog 56 #[.float .f64 f] w fun e w' => e = .returned (.bool (nanB f)) ∧ w' = w := by
  have h := eq_self f
  go_enter Try.func56, Try.ntmps56
  go_wp2_with fail
  go_ret
  exact ⟨by rw [← h]; rfl, rfl⟩

theorem and_not_sign (f : Nat) (hf : f < 18446744073709551616) : bits .andNot .u64 (f : Int) 9223372036854775808 = ((rung f : Nat) : Int) := by
  have h := u64_andNot_nat f 9223372036854775808 hf (by omega)
  rw [show (18446744073709551615 - 9223372036854775808 : Nat) = 2 ^ 63 - 1 by decide, Nat.and_two_pow_sub_one_eq_mod] at h
  exact h
theorem abs_any (f : Nat) (hf : f < 18446744073709551616) (w : World) : Calls Try.prog 29 #[.float .f64 f] w fun e w' => e = .returned (.float .f64 (rung f)) ∧ w' = w := by
  have h1 := run_bits
  have h2 := run_frombits
  have h3 := and_not_sign f hf
  go_enter Try.func29, Try.ntmps29
  go_wp2_with fail
  go_ret
  exact ⟨rfl, rfl⟩

theorem neg_iff (f : Nat) (hf : f < 18446744073709551616) : negB f = decide (9223372036854775808 ≤ f) := by
  unfold negB
  by_cases h : 9223372036854775808 ≤ f
  · have : f / 9223372036854775808 = 1 := by omega
    simp [this, h]
  · have : f / 9223372036854775808 = 0 := by omega
    simp [this, h]
theorem signbit_any (f : Nat) (hf : f < 18446744073709551616) (w : World) : Calls Try.prog 33 #[.float .f64 f] w fun e w' => e = .returned (.bool (negB f)) ∧ w' = w := by
  have h1 := run_bits
  have h3 : decide (wrap64 (f : Int) < 0) = negB f := by
    rw [neg_iff f hf]
    unfold wrap64
    by_cases h : 9223372036854775808 ≤ f
    · simp [h]; omega
    · simp [h]; omega
  replace h3 := Lib.hid h3
  go_enter Try.func33, Try.ntmps33
  go_wp2_with fail
  go_ret
  exact ⟨by rw [← h3.out]; rfl, rfl⟩

theorem lead_any (x : Nat) (h1 : x ≤ 18446744073709551615) (w : World) : Calls Try.prog 55 #[.int .u64 x] w fun e w' => e = .returned (.int .i64 (64 - (Lib.bitLen x : Int))) ∧ w' = w := by
  have h := len64_any (x : Int) w (by omega) (by omega)
  rw [Int.toNat_natCast] at h
  replace h := Lib.hid h
  have hl : Lib.bitLen x ≤ 64 := Lib.bitLen_le x 64 (Nat.le_refl _) (by omega)
  go_enter Try.func55, Try.ntmps55
  go_wp2_with (go_at_call 39; refine h.out.mono ?_; rintro e w' ⟨rfl, rfl⟩)
  go_ret
  exact ⟨rfl, rfl⟩

set_option maxHeartbeats 1000000 in
theorem mul64_any (x y : Nat) (hx : x < 18446744073709551616) (hy : y < 18446744073709551616) (w : World) :
    Calls Try.prog 31 #[.int .u64 x, .int .u64 y] w fun e w' => e = .returned (.tuple #[.int .u64 ((x * y / 18446744073709551616 : Nat) : Int), .int .u64 ((x * y % 18446744073709551616 : Nat) : Int)]) ∧ w' = w := by
  obtain ⟨bd, bt, bw, hhi⟩ := Lib.mul64_hi x y hx hy
  have ba := Lib.half_mul_le (a := x / 4294967296) (b := y / 4294967296) (by omega) (by omega)
  have bb := Lib.half_mul_le (a := x / 4294967296) (b := y % 4294967296) (by omega) (by omega)
  have bc := Lib.half_mul_le (a := x % 4294967296) (b := y / 4294967296) (by omega) (by omega)
  have ba' : x / 4294967296 * (y / 4294967296) < 18446744073709551616 := by omega
  have bb' : x / 4294967296 * (y % 4294967296) < 18446744073709551616 := by omega
  have bc' : x % 4294967296 * (y / 4294967296) < 18446744073709551616 := by omega
  have bh1 : x / 4294967296 * (y / 4294967296) + (x / 4294967296 * (y % 4294967296) + x % 4294967296 * (y % 4294967296) / 4294967296) / 4294967296 < 18446744073709551616 := by omega
  have bh : x / 4294967296 * (y / 4294967296) + (x / 4294967296 * (y % 4294967296) + x % 4294967296 * (y % 4294967296) / 4294967296) / 4294967296 + ((x / 4294967296 * (y % 4294967296) + x % 4294967296 * (y % 4294967296) / 4294967296) % 4294967296 + x % 4294967296 * (y / 4294967296)) / 4294967296 < 18446744073709551616 := by omega
  go_enter Try.func31, Try.ntmps31
  go_wp2
  simp only [Mul64.maskN x hx, Mul64.maskN y hy, Mul64.divN, Mul64.mulN, Mul64.addN, Mul64.wrapN _ bd, Mul64.wrapN _ bb', Mul64.wrapN _ bt, Mul64.maskN _ bt, Mul64.wrapN _ bc', Mul64.wrapN _ bw, Mul64.wrapN _ ba', Mul64.wrapN _ bh1, Mul64.wrapN _ bh, Mul64.wrapM (x * y)]
  rw [hhi]
  go_ret2
  exact ⟨rfl, rfl⟩
end Go.Proofs.Ytkbpjegmfhmhbaa
