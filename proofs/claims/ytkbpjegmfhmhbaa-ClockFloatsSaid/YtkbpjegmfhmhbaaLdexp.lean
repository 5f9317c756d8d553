/- Floats that need no rounding; Ldexp. -/
import Derived.Test.YtkbpjegmfhmhbaaDiv
namespace Go.Proofs.Ytkbpjegmfhmhbaa
open Go.RowKit Go.Shelf
attribute [local go_sem] Oper.semAt_some

theorem cut_zero (s : Bool) (n : Nat) : Ieee.Toward.even.cut s n 0 = n := by
  unfold Ieee.Toward.cut
  simp [Nat.mod_one]
theorem cut_exact (s : Bool) (M j : Nat) (hM : M ≠ 0) : Ieee.Toward.even.cut s (M * 2 ^ j) j = M := by
  have hp : 0 < 2 ^ j := Nat.two_pow_pos _
  have hne : M * 2 ^ j ≠ 0 := Nat.mul_ne_zero hM (by omega)
  have hl : j ≤ (M * 2 ^ j).log2 := (Nat.le_log2 hne).2 (Nat.le_mul_of_pos_left _ (by omega))
  unfold Ieee.Toward.cut
  have e : min j ((M * 2 ^ j).log2 + 2) = j := by omega
  simp only [e, Nat.shiftLeft_eq, Nat.one_mul, Nat.mul_div_cancel _ hp, Nat.mul_mod_left]
  simp

/-- A whole number of 53 bits, times a power of two, at a place in range: its own float. -/
theorem nearest_exact (s : Bool) (M j : Nat) (p : Int) (r : Nat) (h1 : 4503599627370496 ≤ M) (h2 : M < 9007199254740992) (h3 : -1074 ≤ p + j) (hr : (r : Int) = (p + j + 1074) * 4503599627370496 + M) (hi : r < infR) :
    Ieee.double.nearest s (M * 2 ^ j) p = if s then 9223372036854775808 + r else r := by
  have hne : M * 2 ^ j ≠ 0 := Nat.mul_ne_zero (by omega) (by have := Nat.two_pow_pos j; omega)
  have hlog : (M * 2 ^ j).log2 = 52 + j := by
    have a1 : 52 + j ≤ (M * 2 ^ j).log2 := (Nat.le_log2 hne).2 (by rw [Nat.pow_add]; exact Nat.mul_le_mul_right _ (by omega))
    have a2 : (M * 2 ^ j).log2 < 53 + j := (Nat.log2_lt hne).2 (by rw [Nat.pow_add]; exact Nat.mul_lt_mul_of_pos_right (by omega) (Nat.two_pow_pos _))
    omega
  have e1 : Ieee.double.leastPlace = -1074 := by decide
  have e2 : Ieee.double.binade = 4503599627370496 := by decide
  have e3 : Ieee.double.infRung = infR := by decide
  have e4 : Ieee.double.signWeight = 9223372036854775808 := by decide
  have e5 : Ieee.double.fractionBits = 52 := rfl
  unfold Ieee.Format.nearest
  rw [if_neg hne, hlog, e1, e2, e3, e5]
  have hlast : max (p + ((52 + j : Nat) : Int) - ((52 : Nat) : Int)) (-1074) = p + j := by omega
  simp only [hlast]
  rw [show (p - (p + (j : Int))).toNat = 0 by omega, show (p + (j : Int) - p).toNat = j by omega, Nat.shiftLeft_zero, cut_exact s M j (by omega)]
  obtain ⟨d, hd⟩ : ∃ d : Nat, p + j + 1074 = (d : Int) := ⟨(p + j + 1074).toNat, by omega⟩
  rw [show (p + (j : Int) - -1074).toNat = d by omega]
  rw [hd] at hr
  have hr' : r = d * 4503599627370496 + M := by omega
  rw [← hr', Nat.min_eq_left (Nat.le_of_lt hi)]
  unfold Ieee.Format.word
  rw [e4]

/-- A whole number of fewer bits: its own float. -/
theorem nearest_small (s : Bool) (n b : Nat) (r : Nat) (hn : n ≠ 0) (hb : 2 ^ b ≤ n) (hb2 : n < 2 ^ (b + 1)) (hb52 : b ≤ 52) (hr : r = (1022 + b) * 4503599627370496 + n * 2 ^ (52 - b)) :
    Ieee.double.nearest s n 0 = if s then 9223372036854775808 + r else r := by
  have hlog : n.log2 = b := by
    have a1 : b ≤ n.log2 := (Nat.le_log2 hn).2 hb
    have a2 : n.log2 < b + 1 := (Nat.log2_lt hn).2 hb2
    omega
  have e1 : Ieee.double.leastPlace = -1074 := by decide
  have e2 : Ieee.double.binade = 4503599627370496 := by decide
  have e3 : Ieee.double.infRung = infR := by decide
  have e4 : Ieee.double.signWeight = 9223372036854775808 := by decide
  have e5 : Ieee.double.fractionBits = 52 := rfl
  unfold Ieee.Format.nearest
  rw [if_neg hn, hlog, e1, e2, e3, e5]
  have hlast : max (0 + (b : Int) - ((52 : Nat) : Int)) (-1074) = (b : Int) - 52 := by omega
  simp only [hlast]
  rw [show ((0 : Int) - ((b : Int) - 52)).toNat = 52 - b by omega, show ((b : Int) - 52 - 0).toNat = 0 by omega, cut_zero, Nat.shiftLeft_eq, show ((b : Int) - 52 - -1074).toNat = 1022 + b by omega, ← hr]
  have hlt : n * 2 ^ (52 - b) < 9007199254740992 := by
    have : n * 2 ^ (52 - b) < 2 ^ (b + 1) * 2 ^ (52 - b) := Nat.mul_lt_mul_of_pos_right hb2 (Nat.two_pow_pos _)
    rw [← Nat.pow_add, show b + 1 + (52 - b) = 53 by omega] at this
    exact this
  have hi : r ≤ infR := by unfold infR; omega
  rw [Nat.min_eq_left hi]
  unfold Ieee.Format.word
  rw [e4]

theorem norm_parts {r : Nat} (h : 4503599627370496 ≤ r) : magN r = 4503599627370496 + r % 4503599627370496 ∧ expN r = r / 4503599627370496 - 1 := by
  unfold magN expN
  rw [if_neg (by omega), if_neg (by omega)]
  exact ⟨rfl, rfl⟩

/-- One times a float is that float. -/
theorem mul_one_f (r : Nat) (h1 : 4503599627370496 ≤ r) (h2 : r < infR) : Ieee.double.mul 4607182418800017408 r = some r := by
  have hr : rung r = r := by unfold rung; unfold infR at h2; omega
  have hn : negB r = false := by unfold negB; unfold infR at h2; simp; omega
  have ho : rung 4607182418800017408 < infR := by decide
  unfold Ieee.Format.mul
  rw [read_num ho, read_num (by rw [hr]; exact h2), hr, hn]
  obtain ⟨m1, m2⟩ := norm_parts h1
  have o1 : magN (rung 4607182418800017408) = 4503599627370496 := by decide
  have o2 : expN (rung 4607182418800017408) = 1022 := by decide
  have o3 : negB 4607182418800017408 = false := by decide
  rw [o1, o2, o3]
  simp only [Ieee.Datum.product, Option.map_some, Ieee.Format.write, Bool.xor_self]
  have h := nearest_exact false (magN r) 52 (-1074 + ((1022 : Nat) : Int) + (-1074 + (expN r : Int))) r (by rw [m1]; omega) (magN_lt r) (by omega) (by rw [m1, m2]; unfold infR at h2; omega) h2
  rw [show 4503599627370496 * magN r = magN r * 2 ^ 52 by rw [Nat.mul_comm]]
  rw [h]
  rfl

theorem andNot_exp (x : Nat) (h : x < 9223372036854775808) : bits .andNot .u64 (x : Int) 9218868437227405312 = ((x % 4503599627370496 : Nat) : Int) := by
  have h1 := u64_andNot_nat x 9218868437227405312 (by omega) (by omega)
  rw [show (18446744073709551615 - 9218868437227405312 : Nat) = 2 ^ 63 ||| (2 ^ 52 - 1) by decide, Nat.and_or_distrib_left, nat_bit, Nat.and_two_pow_sub_one_eq_mod] at h1
  have h2 : x / 2 ^ 63 % 2 * 2 ^ 63 = 0 := by
    have : x / 2 ^ 63 = 0 := Nat.div_eq_of_lt h
    rw [this]
  rw [h2, Nat.zero_or] at h1
  exact h1

theorem i64_and_nat (a b : Nat) (ha : a < 18446744073709551616) (hb : b < 9223372036854775808) : bits .and .i64 (a : Int) (b : Int) = ((a &&& b : Nat) : Int) := by
  have h2 : bits .and .i64 (a : Int) (b : Int) = IntKind.i64.wrap (BitVec.ofInt 64 (a : Int) &&& BitVec.ofInt 64 (b : Int)).toNat := rfl
  rw [h2, BitVec.toNat_and, ofInt_u64 a ha, ofInt_u64 b (by omega), IntKind.wrap_i64]
  have : a &&& b ≤ b := Nat.and_le_right
  omega
theorem rung_rung (f : Nat) : rung (rung f) = rung f := by unfold rung; rw [Nat.mod_mod]
theorem nan_rung (f : Nat) : nanB (rung f) = nanB f := by unfold nanB; rw [rung_rung]
theorem sv_pos {r : Nat} (h : r < 9223372036854775808) : sv r = (r : Int) := by
  have h1 : rung r = r := Nat.mod_eq_of_lt h
  have h2 : negB r = false := by unfold negB; simp; omega
  unfold sv
  rw [h1, h2]
  rfl
def maxF : Nat := 9218868437227405311
theorem isinf0 (f : Nat) (hf : f < 18446744073709551616) (w : World) : Calls Try.prog 23 #[.float .f64 f, .int .i64 0] w fun e w' => e = .returned (.bool (decide (rung f = infR))) ∧ w' = w := by
  have ha := abs_any f hf w
  have hg := gtr_f (rung f) maxF
  have hv : ltF maxF (rung f) = decide (rung f = infR) := by
    have h1 : nanB maxF = false := by decide
    have h2 : sv maxF = (maxF : Int) := sv_pos (by decide)
    have h3 : sv (rung f) = (rung f : Int) := sv_pos (by unfold rung; omega)
    unfold ltF
    rw [h1, nan_rung, h2, h3]
    unfold nanB infR maxF
    by_cases e : rung f = 9218868437227405312
    · rw [e]; decide
    · by_cases e2 : 9218868437227405312 < rung f
      · simp [e, e2]
      · simp [e, e2]; omega
  rw [hv] at hg
  have hg : (FloatKind.f64.format.order (rung f) 9218868437227405311 == some .gt) = decide (rung f = infR) := hg
  obtain ⟨b, hb⟩ : ∃ b, decide (rung f = infR) = b := ⟨_, rfl⟩
  rw [hb] at hg ⊢
  replace ha := Lib.hid ha
  clear hv hb hf
  go_enter Try.func23, Try.ntmps23
  go_wp2_with fail
  refine ha.out.mono ?_; rintro e w' ⟨rfl, rfl⟩
  go_wp2_with fail
  go_ret
  exact ⟨rfl, rfl⟩
theorem isinf1 (f : Nat) (w : World) : Calls Try.prog 23 #[.float .f64 f, .int .i64 1] w fun e w' => e = .returned (.bool (ltF maxF f)) ∧ w' = w := by
  have hg := gtr_f f maxF
  have hg : (FloatKind.f64.format.order f 9218868437227405311 == some .gt) = ltF maxF f := hg
  obtain ⟨b, hb⟩ : ∃ b, ltF maxF f = b := ⟨_, rfl⟩
  rw [hb] at hg ⊢
  clear hb
  go_enter Try.func23, Try.ntmps23
  go_wp2_with fail
  go_ret
  exact ⟨rfl, rfl⟩

theorem normalize_any (r : Nat) (h1 : 4503599627370496 ≤ r) (h2 : r < infR) (w : World) : Calls Try.prog 57 #[.float .f64 r] w fun e w' => e = .returned (.tuple #[.float .f64 r, .int .i64 0]) ∧ w' = w := by
  have hlt : r < 9223372036854775808 := by unfold infR at h2; omega
  have ha := abs_any r (by omega) w
  have hr : rung r = r := Nat.mod_eq_of_lt hlt
  rw [hr] at ha
  have hg := lss_f r 4503599627370496
  have hv : ltF r 4503599627370496 = false := by
    unfold ltF
    rw [sv_pos hlt, sv_pos (by omega)]
    have : decide ((r : Int) < ((4503599627370496 : Nat) : Int)) = false := by simp; omega
    rw [this]
    simp
  rw [hv] at hg
  have hg : (FloatKind.f64.format.order r 4503599627370496 == some .lt) = false := hg
  replace ha := Lib.hid ha
  clear hv h1 h2 hlt hr
  go_enter Try.func57, Try.ntmps57
  go_wp2_with fail
  refine ha.out.mono ?_; rintro e w' ⟨rfl, rfl⟩
  go_wp2_with fail
  go_ret2
  exact ⟨rfl, rfl⟩

set_option maxRecDepth 100000 in
set_option maxHeartbeats 2000000 in
/-- Ldexp of a normal float above 0, where the answer is one too. -/
theorem ldexp2 (q t e2 : Nat) (ex : Int) (hq : 1 ≤ q) (hq2 : q ≤ 2046) (ht : t < 4503599627370496) (he : (q : Int) + ex = e2) (he1 : 1 ≤ e2) (he2 : e2 ≤ 2046) (w : World) :
    Calls Try.prog 51 #[.float .f64 (q * 4503599627370496 + t), .int .i64 ex] w fun e w' => e = .returned (.float .f64 (e2 * 4503599627370496 + t)) ∧ w' = w := by
  obtain ⟨r, hr⟩ : ∃ r, q * 4503599627370496 + t = r := ⟨_, rfl⟩
  obtain ⟨s, hs⟩ : ∃ s, e2 * 4503599627370496 + t = s := ⟨_, rfl⟩
  rw [hr, hs]
  have r1 : 4503599627370496 ≤ r := by omega
  have r2 : r < infR := by unfold infR; omega
  have s1 : 4503599627370496 ≤ s := by omega
  have s2 : s < infR := by unfold infR; omega
  have hrl : r < 9223372036854775808 := by unfold infR at r2; omega
  have hz := fun (W : World) => isinf0 r (by omega) W
  rw [decide_eq_false (by rw [show rung r = r from Nat.mod_eq_of_lt hrl]; omega)] at hz
  have hn := fun (W : World) => isnan_any r W
  have hnan : nanB r = false := by unfold nanB; rw [show rung r = r from Nat.mod_eq_of_lt hrl]; simp; unfold infR at r2; unfold infR; omega
  rw [hnan] at hn
  have hnm := fun (W : World) => normalize_any r r1 r2 W
  have hb := run_bits
  have hfb : ∀ w : World, (callFunc 13 #[.int .u64 (s : Int)]).run Try.prog w = .ok (.value (.float .f64 s)) w := fun w => by
    have := run_frombits (s : Int) w
    rw [Int.toNat_natCast] at this
    exact this
  have hmul : ∀ w : World, (binOp .mul 24 (.float .f64 4607182418800017408) (.float .f64 s)).run Try.prog w = .ok (.float .f64 s) w := fun w =>
    run_float_arith w .mul 24 .f64 _ _ _ (mul_one_f s s1 s2)
  have f0 : (FloatKind.f64.format.order r 0 == some .eq) = false := by
    have h := order_eq r 0
    rw [hnan, show nanB 0 = false by decide, sv_pos hrl, show sv 0 = 0 by decide, cmp_def] at h
    show (Ieee.double.order r 0 == some .eq) = false
    rw [h]
    have n1 : ¬ ((r : Int) < 0) := by omega
    have n2 : ¬ ((r : Int) = 0) := by omega
    simp [n1, n2]
    omega
  have f1 : (r : Int) / 4503599627370496 = (q : Int) := by
    have : r / 4503599627370496 = q := by rw [← hr]; exact (dm q t _ ht).1
    rw [← this]; rfl
  have f2 : bits .and .i64 (q : Int) 2047 = (q : Int) := by
    have h := i64_and_nat q 2047 (by omega) (by omega)
    rw [show (2047 : Nat) = 2 ^ 11 - 1 by decide, Nat.and_two_pow_sub_one_eq_mod, Nat.mod_eq_of_lt (show q < 2 ^ 11 by omega)] at h
    exact h
  have f4 : bits .andNot .u64 (r : Int) 9218868437227405312 = (t : Int) := by
    have h := andNot_exp r hrl
    rw [show r % 4503599627370496 = t by rw [← hr]; exact (dm q t _ ht).2] at h
    exact h
  obtain ⟨e1, he1'⟩ : ∃ e1 : Int, ex + ((q : Int) - 1023) = e1 := ⟨_, rfl⟩
  have f5 : e1 + 1023 = (e2 : Int) := by omega
  have m9 : e2 * 4503599627370496 < 18446744073709551616 := Nat.lt_of_le_of_lt (Nat.mul_le_mul_right _ he2) (by decide)
  have m8 : t < 18446744073709551616 := Nat.lt_trans ht (by decide)
  have f6 : IntKind.u64.wrap ((e2 : Int) * 4503599627370496) = ((e2 * 4503599627370496 : Nat) : Int) := wl m9
  have f7 : bits .or .u64 (t : Int) ((e2 * 4503599627370496 : Nat) : Int) = (s : Int) := by
    rw [u64_or_nat t _ m8 m9, Nat.or_comm, nat_join 52 _ t (Nat.mul_mod_left _ _) ht, hs]
  have b1 : -2045 ≤ ex := by omega
  have b2 : ex ≤ 2045 := by omega
  have b3 : (1 : Int) ≤ (q : Int) := by omega
  have b4 : (q : Int) ≤ 2046 := by omega
  have b5 : -1022 ≤ e1 := by omega
  have b6 : e1 ≤ 1023 := by omega
  have b7 : (1 : Int) ≤ (e2 : Int) := by omega
  have b8 : (e2 : Int) ≤ 2046 := by omega
  generalize ((e2 * 4503599627370496 : Nat) : Int) = M at *
  clear m8 m9
  replace hz := Lib.hid hz
  replace hn := Lib.hid hn
  replace hnm := Lib.hid hnm
  replace hr := Lib.hid hr
  replace hs := Lib.hid hs
  replace he := Lib.hid he
  clear hq hq2 ht he1 he2 r1 r2 s1 s2 hrl hnan
  go_enter Try.func51, Try.ntmps51
  go_wp2_with fail
  refine (hz.out _).mono ?_; rintro e w' ⟨rfl, rfl⟩
  go_wp2_with fail
  refine (hn.out _).mono ?_; rintro e w' ⟨rfl, rfl⟩
  go_wp2_with fail
  refine (hnm.out _).mono ?_; rintro e w' ⟨rfl, rfl⟩
  go_wp2_with fail
  go_ret
  exact ⟨rfl, rfl⟩
set_option maxRecDepth 100000 in
theorem ldexp_any (q t e2 : Nat) (ex : Int) (hq : 1 ≤ q) (hq2 : q ≤ 2046) (ht : t < 4503599627370496) (he : (q : Int) + ex = e2) (he1 : 1 ≤ e2) (he2 : e2 ≤ 2046) (w : World) :
    Calls Try.prog 26 #[.float .f64 (q * 4503599627370496 + t), .int .i64 ex] w fun e w' => e = .returned (.float .f64 (e2 * 4503599627370496 + t)) ∧ w' = w := by
  have h := ldexp2 q t e2 ex hq hq2 ht he he1 he2 w
  obtain ⟨r, hr⟩ : ∃ r, q * 4503599627370496 + t = r := ⟨_, rfl⟩
  obtain ⟨s, hs⟩ : ∃ s, e2 * 4503599627370496 + t = s := ⟨_, rfl⟩
  rw [hr, hs] at h ⊢
  replace h := Lib.hid h
  clear hq hq2 ht he he1 he2 hr hs
  go_enter Try.func26, Try.ntmps26
  go_wp2_with fail
  refine h.out.mono ?_; rintro e w' ⟨rfl, rfl⟩
  go_wp2_with fail
  go_ret
  exact ⟨rfl, rfl⟩
end Go.Proofs.Ytkbpjegmfhmhbaa
