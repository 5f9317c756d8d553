/- From: the time of a float. -/
import Derived.Test.YtkbpjegmfhmhbaaNear
namespace Go.Proofs.Ytkbpjegmfhmhbaa
open Go.RowKit Go.Shelf
attribute [local go_sem] Oper.semAt_some

theorem mag_exp (q t : Nat) (ht : t < 4503599627370496) : magN (q * 4503599627370496 + t) = (if q = 0 then t else 4503599627370496 + t) ∧ expN (q * 4503599627370496 + t) = q - 1 := by
  unfold magN expN
  by_cases hq : q = 0
  · subst hq; simp [ht]
  · have : ¬ (q * 4503599627370496 + t < 4503599627370496) := by omega
    simp only [this, hq, if_false]
    exact ⟨by rw [(dm q t _ ht).2], by rw [(dm q t _ ht).1]⟩

theorem parts_any (f : Nat) (hf : f < 18446744073709551616) (w : World) : Calls Try.prog 30 #[.float .f64 f] w fun e w' => e = .returned (.tuple #[.int .u64 (magN (rung f)), .int .i64 ((expN (rung f) : Int) - 1074)]) ∧ w' = w := by
  have h1 := run_bits
  have p1 : bits .and .u64 (f : Int) 4503599627370495 = ((f % 4503599627370496 : Nat) : Int) := by
    have h := u64_and_nat f 4503599627370495 hf (by omega)
    rw [show (4503599627370495 : Nat) = 2 ^ 52 - 1 by decide, Nat.and_two_pow_sub_one_eq_mod] at h
    exact h
  have p2 : bits .and .u64 ((f : Int) / 4503599627370496) 2047 = ((f / 4503599627370496 % 2048 : Nat) : Int) := by
    have h := u64_and_nat (f / 4503599627370496) 2047 (by omega) (by omega)
    rw [show (2047 : Nat) = 2 ^ 11 - 1 by decide, Nat.and_two_pow_sub_one_eq_mod] at h
    exact h
  have hr : rung f = f / 4503599627370496 % 2048 * 4503599627370496 + f % 4503599627370496 := by unfold rung; omega
  rw [hr]
  have ht : f % 4503599627370496 < 4503599627370496 := Nat.mod_lt _ (by omega)
  have hq : f / 4503599627370496 % 2048 < 2048 := Nat.mod_lt _ (by omega)
  clear hr hf
  generalize f / 4503599627370496 % 2048 = q at *
  generalize f % 4503599627370496 = t at *
  obtain ⟨m1, m2⟩ := mag_exp q t ht
  rw [m1, m2]
  clear m1 m2
  by_cases h0 : q = 0
  · subst h0
    simp only [if_true]
    have h2 : (((0 : Nat) : Int) == 0) = true := rfl
    go_enter Try.func30, Try.ntmps30
    go_wp2_with fail
    go_ret2
    exact ⟨rfl, rfl⟩
  · simp only [h0, if_false]
    have h2 : ((q : Int) == 0) = false := by simp; omega
    have h3 : bits .or .u64 (t : Int) 4503599627370496 = ((4503599627370496 + t : Nat) : Int) := by
      have h := u64_or_nat t 4503599627370496 (by omega) (by omega)
      rw [Nat.or_comm, nat_join 52 4503599627370496 t (by decide) ht] at h
      exact h
    have h4 : ((q - 1 : Nat) : Int) - 1074 = (q : Int) - 1075 := by omega
    rw [h4]
    have b1 : (0 : Int) ≤ (q : Int) := by omega
    have b2 : (q : Int) ≤ 2047 := by omega
    generalize ((4503599627370496 + t : Nat) : Int) = M at *
    clear h4 ht
    replace h0 := Lib.hid h0
    go_enter Try.func30, Try.ntmps30
    go_wp2_with fail
    go_ret2
    exact ⟨rfl, rfl⟩

def topR : Nat := 4755801206503243776
/-- The least place of all floats: 2 to the power of minus 1074. -/
@[irreducible] def ex0 : Nat := 1074
theorem ex0_eq : ex0 = 1074 := by unfold ex0; rfl
/-- The time of the float of rung r, without its sign. -/
def fromN (r : Nat) : Nat := rq (valN r * 1000000000) (2 ^ ex0)
def fromE (f : Nat) : Int := if nanB f then 22 else if topR ≤ rung f then 34 else 0
def fromT (f : Nat) : Int := if nanB f then 0 else if topR ≤ rung f then 0 else if negB f then -(fromN (rung f) : Int) else (fromN (rung f) : Int)

theorem valN_top : valN topR = 8589934592 * 2 ^ ex0 := by
  have h1 : magN topR = 8589934592 * 2 ^ 19 := by unfold magN topR; rfl
  have h2 : 19 + expN topR = ex0 := by rw [ex0_eq]; unfold expN topR; rfl
  unfold valN
  rw [h1, Nat.mul_assoc, ← Nat.pow_add, h2]
theorem fromN_top : fromN topR = 8589934592000000000 := by
  unfold fromN
  rw [valN_top, show 8589934592 * 2 ^ ex0 * 1000000000 = 8589934592000000000 * 2 ^ ex0 by rw [Nat.mul_right_comm]]
  exact rq_exact _ _ (Nat.two_pow_pos _)
theorem fromN_mono {r r' : Nat} (h : r ≤ r') : fromN r ≤ fromN r' := rq_mono _ _ _ (Nat.two_pow_pos _) (Nat.mul_le_mul_right _ (valN_le h))
theorem fromN_le {r : Nat} (h : r < topR) : fromN r ≤ 8589934592000000000 := by
  rw [← fromN_top]
  exact fromN_mono (Nat.le_of_lt h)
theorem magN_lt (r : Nat) : magN r < 9007199254740992 := by
  unfold magN
  split <;> omega

/-- By the whole number and the power alone. -/
theorem fromN_big (r d : Nat) (h : expN r = ex0 + d) : fromN r = magN r * 1000000000 * 2 ^ d := by
  unfold fromN valN
  rw [h, Nat.pow_add, show magN r * (2 ^ ex0 * 2 ^ d) * 1000000000 = magN r * 1000000000 * 2 ^ d * 2 ^ ex0 by
    rw [Nat.mul_comm (2 ^ ex0), ← Nat.mul_assoc, Nat.mul_right_comm, Nat.mul_right_comm (magN r)]]
  exact rq_exact _ _ (Nat.two_pow_pos _)
theorem fromN_small (r n : Nat) (h : expN r + n = ex0) : fromN r = rq (magN r * 1000000000) (2 ^ n) := by
  unfold fromN valN
  rw [← h, Nat.pow_add, Nat.mul_comm (2 ^ expN r) (2 ^ n), Nat.mul_right_comm]
  exact rq_scale _ _ _ (Nat.two_pow_pos _)

theorem two_pow_le {a b : Nat} (h : a ≤ b) : 2 ^ a ≤ 2 ^ b := Nat.pow_le_pow_right (by omega) h

theorem leF_top (f : Nat) (hf : f < 18446744073709551616) (hn : nanB f = false) : leF topR (rung f) = decide (topR ≤ rung f) := by
  have h1 : nanB topR = false := by decide
  have h2 : nanB (rung f) = nanB f := by unfold nanB rung; rw [Nat.mod_mod]
  have h3 : sv topR = (topR : Int) := by decide
  have h4 : sv (rung f) = (rung f : Int) := by
    unfold sv
    rw [neg_iff _ (by unfold rung; omega)]
    have : ¬ (9223372036854775808 ≤ rung f) := by unfold rung; omega
    simp [this]
    unfold rung
    omega
  unfold leF
  rw [h1, h2, hn, h3, h4]
  simp

set_option maxHeartbeats 4000000 in
theorem from_any (f : Nat) (hf : f < 18446744073709551616) (w : World) :
    Calls Try.prog 14 #[.float .f64 f] w fun e w' => e = .returned (.tuple #[.int .i64 (fromT f), .int .i64 (fromE f)]) ∧ ∃ m, w' = w.drewN m := by
  have hn := isnan_any f w
  unfold fromT fromE
  cases hnan : nanB f
  · have hge := geq_f (rung f) topR
    rw [leF_top f hf hnan] at hge
    have ha := abs_any f hf w
    rw [hnan] at hn
    simp only [Bool.false_eq_true, if_false]
    by_cases hbig : topR ≤ rung f
    · simp only [hbig, if_true]
      have hge : (FloatKind.f64.format.order (rung f) 4755801206503243776 == some .gt || FloatKind.f64.format.order (rung f) 4755801206503243776 == some .eq) = true := by
        have := hge
        rw [decide_eq_true hbig] at this
        exact this
      replace hn := Lib.hid hn
      replace ha := Lib.hid ha
      replace hbig := Lib.hid hbig
      replace hnan := Lib.hid hnan
      go_enter Try.func14, Try.ntmps14
      go_wp2_with fail
      refine hn.out.mono ?_; rintro e w' ⟨rfl, rfl⟩
      go_wp2_with fail
      refine ha.out.mono ?_; rintro e w' ⟨rfl, rfl⟩
      go_wp2_with fail
      go_ret2
      exact ⟨rfl, 0, rfl⟩
    · simp only [hbig, if_false]
      have hge : (FloatKind.f64.format.order (rung f) 4755801206503243776 == some .gt || FloatKind.f64.format.order (rung f) 4755801206503243776 == some .eq) = false := by
        have := hge
        rw [decide_eq_false hbig] at this
        exact this
      have hp := parts_any f hf w
      have hm := mul64_any (magN (rung f)) 1000000000 (by have := magN_lt (rung f); omega) (by omega) w
      have hsb := fun W => signbit_any f hf W
      have hle := fromN_le (r := rung f) (by omega)
      have hml := magN_lt (rung f)
      obtain ⟨N, hN⟩ : ∃ N, fromN (rung f) = N := ⟨_, rfl⟩
      have hbigN := fromN_big (rung f)
      have hsmallN := fromN_small (rung f)
      rw [hN] at hle hbigN hsmallN ⊢
      obtain ⟨A, hA⟩ : ∃ A, magN (rung f) * 1000000000 = A := ⟨_, rfl⟩
      rw [hA] at hm hbigN hsmallN
      obtain ⟨E, hE⟩ : ∃ E, expN (rung f) = E := ⟨_, rfl⟩
      rw [hE] at hp hbigN hsmallN
      obtain ⟨m, hmm⟩ : ∃ m, magN (rung f) = m := ⟨_, rfl⟩
      rw [hmm] at hp hm hA hml
      have hA84 : A < 9007199254740992000000000 := by omega
      have hhi : A / 18446744073709551616 < 18446744073709551615 := by clear hm hbigN hsmallN hp; omega
      have hlo : A % 18446744073709551616 < 18446744073709551616 := by clear hm hbigN hsmallN hp; omega
      obtain ⟨sg, hsg⟩ : ∃ sg, negB f = sg := ⟨_, rfl⟩
      rw [hsg] at hsb ⊢
      have hx0 := ex0_eq
      rcases Nat.lt_or_ge E 948 with h1 | h1
      · have hN0 : N = 0 := by
          rw [hsmallN (1074 - E) (by omega)]
          apply rq_small
          have := two_pow_le (show 127 ≤ 1074 - E by omega)
          have h127 : 2 ^ 127 = 170141183460469231731687303715884105728 := by decide
          omega
        subst hN0
        have b1 : (E : Int) - 1074 < 0 := by omega
        have b2 : (E : Int) - 1074 ≤ -127 := by omega
        have b3 : -1074 ≤ (E : Int) - 1074 := by omega
        generalize (E : Int) - 1074 = X at *
        replace hn := Lib.hid hn
        replace ha := Lib.hid ha
        replace hp := Lib.hid hp
        replace hm := Lib.hid hm
        replace hsb := Lib.hid hsb
        replace hN := Lib.hid hN
        clear hbigN hsmallN hA hE hmm hsg hx0 hnan hbig hle hml hA84 h1
        go_enter Try.func14, Try.ntmps14
        go_wp2_with fail
        refine hn.out.mono ?_; rintro e w' ⟨rfl, rfl⟩
        go_wp2_with fail
        refine ha.out.mono ?_; rintro e w' ⟨rfl, rfl⟩
        go_wp2_with fail
        refine hp.out.mono ?_; rintro e w' ⟨rfl, rfl⟩
        go_wp2_with fail
        refine hm.out.mono ?_; rintro e w' ⟨rfl, rfl⟩
        go_wp2_with fail
        refine (hsb.out _).mono ?_; rintro e w' ⟨rfl, rfl⟩
        cases sg
        · go_wp2_with fail
          go_ret2
          exact ⟨rfl, 0, rfl⟩
        · go_wp2_with fail
          go_ret2
          exact ⟨rfl, 0, rfl⟩
      · rcases Nat.lt_or_ge E 1074 with h2 | h2
        · obtain ⟨n, hn'⟩ : ∃ n, E + n = 1074 := ⟨1074 - E, by omega⟩
          have hNr := hsmallN n (by omega)
          have hsp := rq_spec A (2 ^ n) (Nat.two_pow_pos _)
          have hAn : A / 2 ^ n ≤ N := by rw [hNr]; unfold rq; omega
          have hdiv : A / 18446744073709551616 * 18446744073709551616 + A % 18446744073709551616 = A := Nat.div_add_mod' A 18446744073709551616
          have hnear := near_any (A / 18446744073709551616) (A % 18446744073709551616) n hhi hlo (by omega) (by omega) (fun _ => by
            rw [Nat.div_lt_iff_lt_mul (by omega)]
            have h3 : A < (N + 1) * 2 ^ n := by
              rw [← Nat.div_lt_iff_lt_mul (Nat.two_pow_pos _)]; omega
            have h4 : (N + 1) * 2 ^ n ≤ 18446744073709551616 * 2 ^ n := Nat.mul_le_mul_right _ (by omega)
            rw [Nat.mul_comm (2 ^ n)]
            omega) (by rw [hdiv]; omega) w
          rw [hdiv, ← hNr] at hnear
          have b1 : (E : Int) - 1074 < 0 := by omega
          have b2 : -127 < (E : Int) - 1074 := by omega
          have b4 : -((E : Int) - 1074) = (n : Int) := by omega
          have b5 : (N : Int) ≤ 8589934592000000000 := by omega
          have b6 : (0 : Int) ≤ (N : Int) := by omega
          generalize (E : Int) - 1074 = X at *
          generalize ((A / 18446744073709551616 : Nat) : Int) = HI at *
          generalize ((A % 18446744073709551616 : Nat) : Int) = LO at *
          replace hn := Lib.hid hn
          replace ha := Lib.hid ha
          replace hp := Lib.hid hp
          replace hm := Lib.hid hm
          replace hsb := Lib.hid hsb
          replace hN := Lib.hid hN
          replace hnear := Lib.hid hnear
          clear hbigN hsmallN hA hE hmm hsg hx0 hnan hbig hle hml hA84 h1 h2 hNr hsp hAn hdiv hn'
          go_enter Try.func14, Try.ntmps14
          go_wp2_with fail
          refine hn.out.mono ?_; rintro e w' ⟨rfl, rfl⟩
          go_wp2_with fail
          refine ha.out.mono ?_; rintro e w' ⟨rfl, rfl⟩
          go_wp2_with fail
          refine hp.out.mono ?_; rintro e w' ⟨rfl, rfl⟩
          go_wp2_with fail
          refine hm.out.mono ?_; rintro e w' ⟨rfl, rfl⟩
          go_wp2_with fail
          refine hnear.out.mono ?_; rintro e w2 ⟨rfl, m2, hm2⟩
          replace hm2 := Lib.hid hm2
          go_wp2_with fail
          refine (hsb.out _).mono ?_; rintro e w3 ⟨rfl, rfl⟩
          cases sg
          · go_wp2_with fail
            go_ret2
            exact ⟨rfl, m2, hm2.out⟩
          · go_wp2_with fail
            go_ret2
            exact ⟨rfl, m2, hm2.out⟩
        · obtain ⟨d, hd⟩ : ∃ d, E = 1074 + d := ⟨E - 1074, by omega⟩
          have hNb := hbigN d (by omega)
          have hAN : A ≤ N := by rw [hNb]; exact Nat.le_mul_of_pos_right _ (Nat.two_pow_pos _)
          have e1 : A / 18446744073709551616 = 0 := by omega
          have e2 : A % 18446744073709551616 = A := Nat.mod_eq_of_lt (by omega)
          rw [e1, e2] at hm
          have hA0 : A ≠ 0 := by
            have hm0 : m ≠ 0 := by
              rw [← hmm]
              unfold expN at hE
              unfold magN
              split at hE
              · omega
              · split <;> omega
            omega
          have hd63 : d ≤ 63 := by
            rcases Nat.lt_or_ge d 64 with h3 | h3
            · omega
            · have h4 := two_pow_le h3
              have h5 : 1 * 2 ^ d ≤ A * 2 ^ d := Nat.mul_le_mul_right _ (by omega)
              have h6 : (2 : Nat) ^ 64 = 18446744073709551616 := by decide
              omega
          have f1 : (E : Int) - 1074 = (d : Int) := by omega
          have f2 : IntKind.u64.wrap ((A : Int) * 2 ^ d) = (N : Int) := by
            rw [← castmul, ← hNb, wrapU_nat, Nat.mod_eq_of_lt (by omega)]
          have b1 : (0 : Int) ≤ (d : Int) := by omega
          have b2 : (d : Int) ≤ 63 := by omega
          have b5 : (N : Int) ≤ 8589934592000000000 := by omega
          have b6 : (0 : Int) ≤ (N : Int) := by omega
          rw [f1] at hp
          replace hn := Lib.hid hn
          replace ha := Lib.hid ha
          replace hp := Lib.hid hp
          replace hm := Lib.hid hm
          replace hsb := Lib.hid hsb
          replace hN := Lib.hid hN
          clear hbigN hsmallN hA hE hmm hsg hx0 hnan hbig hle hml hA84 h1 h2 hNb hAN e1 e2 hA0 hd63 hd f1
          generalize ((0 : Nat) : Int) = Z at *
          go_enter Try.func14, Try.ntmps14
          go_wp2_with fail
          refine hn.out.mono ?_; rintro e w' ⟨rfl, rfl⟩
          go_wp2_with fail
          refine ha.out.mono ?_; rintro e w' ⟨rfl, rfl⟩
          go_wp2_with fail
          refine hp.out.mono ?_; rintro e w' ⟨rfl, rfl⟩
          go_wp2_with fail
          refine hm.out.mono ?_; rintro e w' ⟨rfl, rfl⟩
          go_wp2_with fail
          refine (hsb.out _).mono ?_; rintro e w3 ⟨rfl, rfl⟩
          cases sg
          · go_wp2_with fail
            go_ret2
            exact ⟨rfl, 0, rfl⟩
          · go_wp2_with fail
            go_ret2
            exact ⟨rfl, 0, rfl⟩
  · rw [hnan] at hn
    simp only [if_true]
    replace hn := Lib.hid hn
    replace hnan := Lib.hid hnan
    go_enter Try.func14, Try.ntmps14
    go_wp2_with fail
    refine hn.out.mono ?_; rintro e w' ⟨rfl, rfl⟩
    go_wp2_with fail
    go_ret2
    exact ⟨rfl, 0, rfl⟩
end Go.Proofs.Ytkbpjegmfhmhbaa
