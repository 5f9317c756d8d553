/- even, near, parts. -/
import Derived.Test.YtkbpjegmfhmhbaaBase
namespace Go.Proofs.Ytkbpjegmfhmhbaa
open Go.RowKit Go.Shelf
attribute [local go_sem] Oper.semAt_some

theorem even_any (x p : Nat) (hx : x < 18446744073709551615) (hp : p < 18446744073709551616) (w : World) : Calls Try.prog 41 #[.int .u64 x, .int .u64 p] w fun e w' => e = .returned (.int .u64 (evenN x p)) ∧ w' = w := by
  have hb : bits .and .u64 (x : Int) 1 = ((x % 2 : Nat) : Int) := by
    have := u64_and_nat x 1 (by omega) (by omega)
    rw [nat_mask1] at this
    exact this
  obtain ⟨r, hr⟩ : ∃ r, evenN x p = r := ⟨_, rfl⟩
  rw [hr]
  unfold evenN at hr
  by_cases h1 : 9223372036854775808 < p
  · rw [if_pos (.inl h1)] at hr
    subst hr
    clear hb
    go_enter Try.func41, Try.ntmps41
    go_wp2_with fail
    go_ret
    exact ⟨by simp, rfl⟩
  · by_cases h2 : p = 9223372036854775808
    · have h3 : ((p : Int) == 9223372036854775808) = true := by simp; omega
      by_cases h4 : x % 2 = 1
      · rw [if_pos (.inr ⟨h2, h4⟩)] at hr
        subst hr
        have h5 : ((x : Int) % 2 == 1) = true := by simp; omega
        have h6 : decide (9223372036854775808 < (p : Int)) = false := by simp; omega
        replace h2 := Lib.hid h2
        replace h4 := Lib.hid h4
        go_enter Try.func41, Try.ntmps41
        go_wp2_with fail
        go_ret
        exact ⟨by simp, rfl⟩
      · rw [if_neg (by omega)] at hr
        subst hr
        have h5 : ((x : Int) % 2 == 1) = false := by simp; omega
        have h6 : decide (9223372036854775808 < (p : Int)) = false := by simp; omega
        replace h2 := Lib.hid h2
        replace h4 := Lib.hid h4
        go_enter Try.func41, Try.ntmps41
        go_wp2_with fail
        go_ret
        exact ⟨rfl, rfl⟩
    · rw [if_neg (by omega)] at hr
      subst hr
      have h3 : ((p : Int) == 9223372036854775808) = false := by simp; omega
      clear hb
      replace h2 := Lib.hid h2
      go_enter Try.func41, Try.ntmps41
      go_wp2_with fail
      go_ret
      exact ⟨rfl, rfl⟩

/-! the three ways of near, in plain numbers -/
theorem near_hi_num (hi lo j s : Nat) (h1 : 1 ≤ j) (h2 : j ≤ 63) (hlo : lo < 18446744073709551616) (hs : s = if lo = 0 then 0 else 1) :
    evenN (hi / 2 ^ j) (hi * 2 ^ (64 - j) % 18446744073709551616 + s) = rq (hi * 18446744073709551616 + lo) (2 ^ (j + 64)) := by
  obtain ⟨p, hp⟩ : ∃ p, 2 ^ j = 2 * p := ⟨2 ^ (j - 1), by rw [← Nat.pow_succ', show (j - 1).succ = j by omega]⟩
  obtain ⟨v, hv⟩ : ∃ v, 2 ^ (64 - j) = 2 * v := ⟨2 ^ (64 - j - 1), by rw [← Nat.pow_succ', show (64 - j - 1).succ = 64 - j by omega]⟩
  have hpu : 2 ^ j * 2 ^ (64 - j) = 18446744073709551616 := by rw [← Nat.pow_add, show j + (64 - j) = 64 by omega]
  have hA : 2 ^ (j + 64) = 18446744073709551616 * 2 ^ j := by rw [Nat.pow_add, Nat.mul_comm]
  have hq : (hi * 18446744073709551616 + lo) / (18446744073709551616 * 2 ^ j) = hi / 2 ^ j := by
    rw [← Nat.div_div_eq_div_mul, show (hi * 18446744073709551616 + lo) / 18446744073709551616 = hi by omega]
  have hm : (hi * 18446744073709551616 + lo) % (18446744073709551616 * 2 ^ j) = lo + 18446744073709551616 * (hi % 2 ^ j) := by
    rw [Nat.mod_mul, show (hi * 18446744073709551616 + lo) % 18446744073709551616 = lo by omega, show (hi * 18446744073709551616 + lo) / 18446744073709551616 = hi by omega]
  have hpm : hi * 2 ^ (64 - j) % 18446744073709551616 = hi % 2 ^ j * 2 ^ (64 - j) := by
    rw [← hpu, Nat.mul_mod_mul_right]
  rw [hA, ← hq, hpm]
  have ht : hi % 2 ^ j < 2 ^ j := Nat.mod_lt _ (Nat.two_pow_pos _)
  have hvp : 0 < v := by have := Nat.two_pow_pos (64 - j); omega
  rw [hp, hv] at hpu
  have e1 : 2 * p * (2 * v) = 4 * (p * v) := by rw [Nat.mul_mul_mul_comm]
  rw [e1] at hpu
  have hpv : p * v = 4611686018427387904 := by omega
  refine evenN_rq _ _ 0 0 (by rw [hp]; omega) _ ?_ ?_
  · rw [hm, hp, hv]
    rw [hp] at ht
    generalize hi % (2 * p) = t at *
    have e2 : t * (2 * v) = 2 * (t * v) := by rw [Nat.mul_left_comm]
    rw [e2]
    rcases Nat.lt_trichotomy t p with h | h | h
    · have h3 : (t + 1) * v ≤ p * v := Nat.mul_le_mul_right v h
      rw [Nat.add_mul] at h3
      constructor
      · intro; split at hs <;> omega
      · intro; omega
    · subst h
      rw [hpv]
      split at hs <;> omega
    · have h3 : (p + 1) * v ≤ t * v := Nat.mul_le_mul_right v h
      rw [Nat.add_mul] at h3
      constructor
      · intro; omega
      · intro; omega
  · rw [hm, hp, hv]
    rw [hp] at ht
    generalize hi % (2 * p) = t at *
    have e2 : t * (2 * v) = 2 * (t * v) := by rw [Nat.mul_left_comm]
    rw [e2]
    rcases Nat.lt_trichotomy t p with h | h | h
    · have h3 : (t + 1) * v ≤ p * v := Nat.mul_le_mul_right v h
      rw [Nat.add_mul] at h3
      constructor
      · intro; split at hs <;> omega
      · intro; omega
    · subst h
      rw [hpv]
      split at hs <;> omega
    · have h3 : (p + 1) * v ≤ t * v := Nat.mul_le_mul_right v h
      rw [Nat.add_mul] at h3
      constructor
      · intro; omega
      · intro; omega

theorem near_mid_num (hi lo : Nat) (hlo : lo < 18446744073709551616) : evenN hi lo = rq (hi * 18446744073709551616 + lo) (2 ^ 64) := by
  have hA : (2 : Nat) ^ 64 = 18446744073709551616 := by decide
  rw [hA]
  have hq : (hi * 18446744073709551616 + lo) / 18446744073709551616 = hi := by omega
  have hm : (hi * 18446744073709551616 + lo) % 18446744073709551616 = lo := by omega
  have := evenN_rq (hi * 18446744073709551616 + lo) 18446744073709551616 0 0 (by omega) lo (by rw [hm]; omega) (by rw [hm]; omega)
  rw [hq] at this
  exact this

theorem near_lo_num (hi lo n : Nat) (h1 : 1 ≤ n) (h2 : n ≤ 63) (hhi : hi < 2 ^ n) (hlo : lo < 18446744073709551616) :
    hi * 2 ^ (64 - n) + lo / 2 ^ n < 18446744073709551616 ∧ lo / 2 ^ n < 2 ^ (64 - n) ∧ hi * 2 ^ (64 - n) < 18446744073709551616 ∧
    evenN (hi * 2 ^ (64 - n) + lo / 2 ^ n) (lo * 2 ^ (64 - n) % 18446744073709551616) = rq (hi * 18446744073709551616 + lo) (2 ^ n) := by
  have hpu : 2 ^ n * 2 ^ (64 - n) = 18446744073709551616 := by rw [← Nat.pow_add, show n + (64 - n) = 64 by omega]
  have hp0 : 0 < 2 ^ n := Nat.two_pow_pos _
  have hu0 : 0 < 2 ^ (64 - n) := Nat.two_pow_pos _
  have hpm : lo * 2 ^ (64 - n) % 18446744073709551616 = lo % 2 ^ n * 2 ^ (64 - n) := by
    rw [← hpu, Nat.mul_mod_mul_right]
  have hq : (hi * 18446744073709551616 + lo) / 2 ^ n = hi * 2 ^ (64 - n) + lo / 2 ^ n := by
    rw [← hpu, show hi * (2 ^ n * 2 ^ (64 - n)) + lo = lo + hi * 2 ^ (64 - n) * 2 ^ n by rw [Nat.mul_assoc, Nat.mul_comm (2 ^ (64 - n)), Nat.add_comm], Nat.add_mul_div_right _ _ hp0, Nat.add_comm]
  have hm : (hi * 18446744073709551616 + lo) % 2 ^ n = lo % 2 ^ n := by
    rw [← hpu, show hi * (2 ^ n * 2 ^ (64 - n)) + lo = lo + hi * 2 ^ (64 - n) * 2 ^ n by rw [Nat.mul_assoc, Nat.mul_comm (2 ^ (64 - n)), Nat.add_comm], Nat.add_mul_mod_self_right]
  have hlq : lo / 2 ^ n < 2 ^ (64 - n) := by
    rw [Nat.div_lt_iff_lt_mul hp0, Nat.mul_comm, hpu]; exact hlo
  have hh : (hi + 1) * 2 ^ (64 - n) ≤ 2 ^ n * 2 ^ (64 - n) := Nat.mul_le_mul_right _ hhi
  rw [Nat.add_mul, hpu] at hh
  refine ⟨by omega, hlq, by omega, ?_⟩
  rw [hpm, ← hq]
  have ht : lo % 2 ^ n < 2 ^ n := Nat.mod_lt _ hp0
  refine evenN_rq _ _ 0 0 hp0 _ ?_ ?_
  · rw [hm]
    generalize lo % 2 ^ n = t at *
    generalize 2 ^ n = p at *
    generalize 2 ^ (64 - n) = u at *
    constructor
    · intro h
      rcases Nat.lt_or_ge p (2 * t) with h3 | h3
      · exact h3
      · have := Nat.mul_le_mul_right u h3
        rw [Nat.mul_assoc] at this
        omega
    · intro h
      have := Nat.mul_lt_mul_of_pos_right h hu0
      rw [Nat.mul_assoc] at this
      omega
  · rw [hm]
    generalize lo % 2 ^ n = t at *
    generalize 2 ^ n = p at *
    generalize 2 ^ (64 - n) = u at *
    constructor
    · intro h
      have : p * u = 2 * t * u := by rw [Nat.mul_assoc]; omega
      exact Nat.eq_of_mul_eq_mul_right hu0 this
    · intro h
      have : p * u = 2 * t * u := by rw [h]
      rw [Nat.mul_assoc] at this
      omega

theorem castmul (a u : Nat) : ((a * 2 ^ u : Nat) : Int) = (a : Int) * 2 ^ u := by rw [Int.natCast_mul, Int.natCast_pow]; rfl
theorem castdiv (a u : Nat) : ((a / 2 ^ u : Nat) : Int) = (a : Int) / 2 ^ u := by rw [Int.natCast_ediv, Int.natCast_pow]; rfl
theorem wrapU_nat (a : Nat) : IntKind.u64.wrap (a : Int) = ((a % 18446744073709551616 : Nat) : Int) := by rw [IntKind.wrap_u64]; omega

set_option maxHeartbeats 1000000 in
theorem near_any (hi lo n : Nat) (hx : hi < 18446744073709551615) (hp : lo < 18446744073709551616) (hn : 1 ≤ n) (hn2 : n ≤ 126) (hh : n < 64 → hi < 2 ^ n) (hq : (hi * 18446744073709551616 + lo) / 2 ^ n < 18446744073709551615) (w : World) :
    Calls Try.prog 32 #[.int .u64 hi, .int .u64 lo, .int .i64 n] w fun e w' => e = .returned (.int .u64 (rq (hi * 18446744073709551616 + lo) (2 ^ n))) ∧ ∃ m, w' = w.drewN m := by
  rcases Nat.lt_trichotomy n 64 with h | h | h
  · obtain ⟨g1, g2, g3, g4⟩ := near_lo_num hi lo n hn (by omega) (hh h) hp
    rw [← g4]
    have f1 : IntKind.i64.wrap (64 - (n : Int)) = ((64 - n : Nat) : Int) := by rw [IntKind.wrap_i64]; omega
    have f1' : (64 : Int) - (n : Int) = ((64 - n : Nat) : Int) := by omega
    have f2 : IntKind.u64.wrap ((hi : Int) * 2 ^ (64 - n)) = ((hi * 2 ^ (64 - n) : Nat) : Int) := by
      have := wrapU_nat (hi * 2 ^ (64 - n))
      rw [Nat.mod_eq_of_lt g3] at this
      rw [← this, castmul]
    have f3 : (lo : Int) / 2 ^ n = ((lo / 2 ^ n : Nat) : Int) := (castdiv _ _).symm
    have f4 : bits .or .u64 ((hi * 2 ^ (64 - n) : Nat) : Int) ((lo / 2 ^ n : Nat) : Int) = ((hi * 2 ^ (64 - n) + lo / 2 ^ n : Nat) : Int) := by
      rw [u64_or_nat _ _ g3 (by omega), nat_join (64 - n) _ _ (Nat.mul_mod_left _ _) g2]
    have f5 : IntKind.u64.wrap ((lo : Int) * 2 ^ (64 - n)) = ((lo * 2 ^ (64 - n) % 18446744073709551616 : Nat) : Int) := by
      rw [← wrapU_nat, castmul]
    have g5 : (hi * 18446744073709551616 + lo) / 2 ^ n = hi * 2 ^ (64 - n) + lo / 2 ^ n := by
      have hpu : 2 ^ n * 2 ^ (64 - n) = 18446744073709551616 := by rw [← Nat.pow_add, show n + (64 - n) = 64 by omega]
      rw [← hpu, show hi * (2 ^ n * 2 ^ (64 - n)) + lo = lo + hi * 2 ^ (64 - n) * 2 ^ n by rw [Nat.mul_assoc, Nat.mul_comm (2 ^ (64 - n)), Nat.add_comm], Nat.add_mul_div_right _ _ (Nat.two_pow_pos _), Nat.add_comm]
    rw [g5] at hq
    have hev := fun W => even_any (hi * 2 ^ (64 - n) + lo / 2 ^ n) (lo * 2 ^ (64 - n) % 18446744073709551616) hq (Nat.mod_lt _ (by omega)) W
    have b1 : (n : Int) ≤ 64 := by omega
    have b2 : ((n : Int) == 64) = false := by simp; omega
    have b3 : (0 : Int) ≤ (n : Int) := by omega
    clear g1 g2 g3 g4 g5 hq hh hx hp hn hn2
    generalize hi * 2 ^ (64 - n) + lo / 2 ^ n = X at *
    generalize lo * 2 ^ (64 - n) % 18446744073709551616 = Y at *
    generalize hi * 2 ^ (64 - n) = A at *
    generalize lo / 2 ^ n = B at *
    replace hev := Lib.hid hev
    go_enter Try.func32, Try.ntmps32
    go_wp2_with fail
    go_quiet ((go_at_call 41; exact Calls.quiet_of_same (hev.out _)))
    go_wp2_with fail
    go_ret
    exact ⟨rfl, _, rfl⟩
  · subst h
    rw [← near_mid_num hi lo hp]
    have hev := even_any hi lo hx hp w
    replace hev := Lib.hid hev
    clear hh hq
    go_enter Try.func32, Try.ntmps32
    go_wp2_with (go_at_call 41; refine hev.out.mono ?_; rintro e w' ⟨rfl, rfl⟩)
    go_ret
    exact ⟨rfl, 0, rfl⟩
  · obtain ⟨j, rfl⟩ : ∃ j, n = j + 64 := ⟨n - 64, by omega⟩
    rw [← near_hi_num hi lo j _ (by omega) (by omega) hp rfl]
    have f1 : (64 : Int) < ((j + 64 : Nat) : Int) := by omega
    have f2 : ((j + 64 : Nat) : Int) - 64 = (j : Int) := by omega
    have f3 : bits .or .u64 (hi : Int) 0 = (hi : Int) := by
      have := bits_or_u64_nat hi 0 (by omega) (by omega)
      simpa using this
    have f5 : IntKind.i64.wrap (64 - (j : Int)) = ((64 - j : Nat) : Int) := by rw [IntKind.wrap_i64]; omega
    have f6 : IntKind.u64.wrap ((hi : Int) * 2 ^ (64 - j)) = ((hi * 2 ^ (64 - j) % 18446744073709551616 : Nat) : Int) := by rw [← wrapU_nat, castmul]
    have f7 : (hi : Int) / 2 ^ j = ((hi / 2 ^ j : Nat) : Int) := (castdiv _ _).symm
    have hle : hi / 2 ^ j ≤ hi := Nat.div_le_self _ _
    have hev2 : ∃ Y : Nat, Y = hi * 2 ^ (64 - j) % 18446744073709551616 ∧ Y % 2 = 0 ∧ Y < 18446744073709551616 := by
      refine ⟨_, rfl, ?_, Nat.mod_lt _ (by omega)⟩
      obtain ⟨v, hv⟩ : ∃ v, 2 ^ (64 - j) = 2 * v := ⟨2 ^ (64 - j - 1), by rw [← Nat.pow_succ', show (64 - j - 1).succ = 64 - j by omega]⟩
      rw [hv, show hi * (2 * v) = 2 * (hi * v) by rw [Nat.mul_left_comm]]
      omega
    obtain ⟨Y, hY, hY2, hY3⟩ := hev2
    rw [← hY] at f6 ⊢
    have b3 : (0 : Int) ≤ (j : Int) := by omega
    have b4 : (j : Int) ≤ 62 := by omega
    clear hY hq hh
    generalize ((j + 64 : Nat) : Int) = N at *
    generalize hi / 2 ^ j = X at *
    by_cases hlo : lo = 0
    · subst hlo
      simp only [if_true, Nat.add_zero]
      have f4 : (((0 : Nat) : Int) != 0) = false := rfl
      have f8 : bits .or .u64 (Y : Int) 0 = (Y : Int) := by
        have := bits_or_u64_nat Y 0 hY3 (by omega)
        simpa using this
      have hev := fun W => even_any X Y (by omega) hY3 W
      replace hev := Lib.hid hev
      clear hx hp hn hn2 hle hY2 hY3
      go_enter Try.func32, Try.ntmps32
      go_wp2_with fail
      go_quiet ((go_at_call 41; exact Calls.quiet_of_same (hev.out _)))
      go_wp2_with fail
      go_ret
      exact ⟨rfl, _, rfl⟩
    · simp only [hlo, if_false]
      have f4 : ((lo : Int) != 0) = true := by simp; omega
      have f8 : bits .or .u64 (Y : Int) 1 = ((Y + 1 : Nat) : Int) := by
        have := u64_or_nat Y 1 hY3 (by omega)
        rw [nat_join 1 Y 1 (by simpa using hY2) (by decide)] at this
        exact this
      have hev := fun W => even_any X (Y + 1) (by omega) (by omega) W
      replace hev := Lib.hid hev
      clear hx hp hn hn2 hle hY2 hY3 hlo
      go_enter Try.func32, Try.ntmps32
      go_wp2_with fail
      go_quiet ((go_at_call 41; exact Calls.quiet_of_same (hev.out _)))
      go_wp2_with fail
      go_ret
      exact ⟨rfl, _, rfl⟩
end Go.Proofs.Ytkbpjegmfhmhbaa
