/- The reference's From and Resolve. -/
import Derived.Test.YtkbpjegmfhmhbaaMul
import Derived.Test.YtkbpjegmfhmhbaaOrderWalk
import Derived.Test.YtkbpjegmfhmhbaaMeansWalk
namespace Go.Proofs.Ytkbpjegmfhmhbaa
open Go.RowKit Go.Shelf
attribute [local go_sem] Oper.semAt_some

theorem refparts_any (f : Nat) (hf : f < 18446744073709551616) (w : World) :
    Calls Try.prog 35 #[.float .f64 f] w fun e w' => e = .returned (.tuple #[.int .u64 (magN (rung f)), .int .i64 ((expN (rung f) : Int) - 1074), .bool (negB f)]) ∧ w' = w := by
  have h1 := fun w => run_bits f w
  have hng := neg_iff f hf
  have hr : rung f = f / 4503599627370496 % 2048 * 4503599627370496 + f % 4503599627370496 := by unfold rung; omega
  rw [hr]
  have ht : f % 4503599627370496 < 4503599627370496 := Nat.mod_lt _ (by omega)
  have hq : f / 4503599627370496 % 2048 < 2048 := Nat.mod_lt _ (by omega)
  have p1 : (f : Int) % 4503599627370496 = ((f % 4503599627370496 : Nat) : Int) := by omega
  obtain ⟨D, hD⟩ : ∃ D, f / 4503599627370496 = D := ⟨_, rfl⟩
  have p2 : IntKind.u64.wrap ((f : Int) / 4503599627370496) = (D : Int) := by rw [IntKind.wrap_u64]; omega
  have p2b : (D : Int).tmod 2048 = ((f / 4503599627370496 % 2048 : Nat) : Int) := by
    rw [Int.tmod_eq_emod_of_nonneg (by omega)]; omega
  have p3 : decide ((9223372036854775808 : Int) ≤ (f : Int)) = negB f := by
    rw [hng]
    by_cases c : 9223372036854775808 ≤ f
    · rw [decide_eq_true c, decide_eq_true (by omega)]
    · rw [decide_eq_false c, decide_eq_false (by omega)]
  clear hr hf hng hD
  generalize f / 4503599627370496 % 2048 = q at *
  generalize f % 4503599627370496 = t at *
  have p2c : wrap64 (q : Int) = (q : Int) := by unfold wrap64; omega
  replace p1 := Lib.hid p1
  obtain ⟨m1, m2⟩ := mag_exp q t ht
  rw [m1, m2]
  clear m1 m2
  generalize negB f = sg at *
  by_cases h0 : q = 0
  · subst h0
    simp only [if_true]
    have h2 : (((0 : Nat) : Int) == 0) = true := rfl
    go_enter Try.func35, Try.ntmps35
    go_wp2_with fail
    go_ret3
    refine ⟨?_, rfl⟩
    show Ending.returned (Value.tuple #[Value.int .u64 ((f : Int) % 4503599627370496), Value.int .i64 (-1074), Value.bool sg]) = _
    rw [p1.out]; rfl
  · simp only [h0, if_false]
    have h2 : ((q : Int) == 0) = false := by simp; omega
    have h4 : ((q - 1 : Nat) : Int) - 1074 = (q : Int) - 1075 := by omega
    rw [h4]
    have b1 : (0 : Int) ≤ (q : Int) := by omega
    have b2 : (q : Int) ≤ 2047 := by omega
    obtain ⟨M, hM⟩ : ∃ M : Int, (t : Int) + 4503599627370496 = M := ⟨_, rfl⟩
    have hM2 : ((4503599627370496 + t : Nat) : Int) = (t : Int) + 4503599627370496 := by omega
    rw [hM2]
    have hw : IntKind.u64.wrap ((t : Int) + 4503599627370496) = (t : Int) + 4503599627370496 := by rw [IntKind.wrap_u64]; omega
    clear h4 ht hM2 hM hq
    replace hw := Lib.hid hw
    replace h0 := Lib.hid h0
    go_enter Try.func35, Try.ntmps35
    go_wp2_with fail
    go_ret3
    refine ⟨?_, rfl⟩
    show Ending.returned (Value.tuple #[Value.int .u64 ((f : Int) % 4503599627370496 + 4503599627370496), Value.int .i64 ((q : Int) - 1075), Value.bool sg]) = _
    rw [p1.out]

/-- -8589934592. -/
def botF : Nat := 13979173243358019584
theorem top_bot (f : Nat) (hf : f < 18446744073709551616) (hn : nanB f = false) : (leF topR f || leF f botF) = decide (topR ≤ rung f) := by
  have h1 : nanB topR = false := by decide
  have h2 : nanB botF = false := by decide
  have h3 : sv topR = (topR : Int) := by decide
  have h4 : sv botF = -(topR : Int) := by decide
  unfold leF
  rw [h1, h2, hn, h3, h4]
  unfold sv
  have ht : topR = 4755801206503243776 := rfl
  rw [ht]
  generalize rung f = r
  cases negB f
  · by_cases c : 4755801206503243776 ≤ r
    · simp [c]; omega
    · simp [c]; omega
  · by_cases c : 4755801206503243776 ≤ r
    · simp [c]; omega
    · simp [c]; omega

theorem row_zero (w : World) : Calls Try.prog 38 #[.int .u64 0] w fun e w' => e = .returned (.slice none 0 0) ∧ w' = w := by
  go_enter Try.func38, Try.ntmps38
  go_wp2_with fail
  go_loopw [0, 3] (fun i v wr => i = .int .u64 0 ∧ v = .slice none 0 0 ∧ wr = w) (fun _ _ _ => 0)
  case atStart => exact ⟨rfl, rfl, rfl⟩
  case round =>
    obtain ⟨rfl, rfl, rfl⟩ := hrel
    go_wp2_with fail
    go_ret
    exact ⟨rfl, rfl⟩
theorem row_all (x : Nat) (hx : x < 18446744073709551616) (w : World) :
    Calls Try.prog 38 #[.int .u64 x] w fun e w' => ∃ v bs, e = .returned v ∧ Row w.heap.size w' v bs ∧ bn bs = x ∧ bs.length ≤ 64 ∧ (bs.length = 0 → v = .slice none 0 0) ∧ Below w.heap.size w w' := by
  by_cases h0 : x = 0
  · subst h0
    exact (row_zero w).mono fun e w' ⟨he, hw⟩ => ⟨_, [], he, by rw [hw]; exact Row.nil _ _, rfl, by simp, fun _ => rfl, by rw [hw]; exact Below.refl _ _⟩
  · refine (row_any x hx w).mono ?_
    rintro e w' ⟨v, bs, he, h1, h2, h3, h4⟩
    refine ⟨v, bs, he, h1, h2, h3, fun h => ?_, h4⟩
    obtain rfl : bs = [] := List.length_eq_zero_iff.1 h
    exact absurd h2.symm h0

/-- row, times and half together: the time of a small float. -/
theorem fromN_rq (f : Nat) (h : rung f < topR) : ∃ n : Nat, ((expN (rung f) : Int) - 1074) = -(n : Int) ∧ 1 ≤ n ∧ n ≤ 1074 ∧ fromN (rung f) = rq (magN (rung f) * 1000000000) (2 ^ n) ∧ magN (rung f) * 1000000000 < 2 ^ n * 9223372036854775808 := by
  have hE : expN (rung f) ≤ 1055 := by
    have ht : topR = 4755801206503243776 := rfl
    rw [ht] at h
    unfold expN
    split <;> omega
  obtain ⟨E, hEe⟩ : ∃ E, expN (rung f) = E := ⟨_, rfl⟩
  rw [hEe] at hE
  have hs := fromN_small (rung f) (1074 - E) (by rw [hEe, ex0_eq]; omega)
  have hle := fromN_le h
  refine ⟨1074 - E, by rw [hEe]; omega, by omega, by omega, hs, ?_⟩
  obtain ⟨n, hn⟩ : ∃ n, 1074 - E = n := ⟨_, rfl⟩
  rw [hn] at hs ⊢
  rw [hs] at hle
  obtain ⟨A, hA⟩ : ∃ A, magN (rung f) * 1000000000 = A := ⟨_, rfl⟩
  rw [hA] at hle ⊢
  have h1 : A / 2 ^ n ≤ rq A (2 ^ n) := by unfold rq; omega
  have h2 : A / 2 ^ n < 9223372036854775808 := by omega
  rw [Nat.mul_comm]
  exact (Nat.div_lt_iff_lt_mul (Nat.two_pow_pos _)).1 h2

set_option maxRecDepth 100000 in
set_option maxHeartbeats 8000000 in
theorem reffrom_any (f : Nat) (hf : f < 18446744073709551616) (w : World) :
    Calls Try.prog 15 #[.float .f64 f] w fun e w' => e = .returned (.tuple #[.int .i64 (fromT f), .int .i64 (fromE f)]) ∧ Below w.heap.size w w' := by
  have hn := fun W => none_any f W
  have g1 : (FloatKind.f64.format.order f 4755801206503243776 == some .gt || FloatKind.f64.format.order f 4755801206503243776 == some .eq) = leF topR f := geq_f f topR
  have g2 : (FloatKind.f64.format.order f 13979173243358019584 == some .lt || FloatKind.f64.format.order f 13979173243358019584 == some .eq) = leF f botF := leq_f f botF
  have htb := top_bot f hf
  have hpt := fun W => refparts_any f hf W
  have hrq := fromN_rq f
  have hle := fun h => fromN_le (r := rung f) h
  have hm := magN_lt (rung f)
  unfold fromT fromE
  generalize leF topR f = L1 at *
  generalize leF f botF = L2 at *
  cases hnan : nanB f
  · rw [hnan] at hn
    have htb := htb hnan
    simp only [Bool.false_eq_true, if_false]
    by_cases hbig : topR ≤ rung f
    · rw [decide_eq_true hbig] at htb
      simp only [hbig, if_true]
      clear hrq hle hm hpt
      replace hn := Lib.hid hn
      replace hnan := Lib.hid hnan
      replace hbig := Lib.hid hbig
      cases L1
      · obtain rfl : L2 = true := by simpa using htb
        clear htb
        go_enter Try.func15, Try.ntmps15
        go_wp2_with fail
        refine (hn.out _).mono ?_; rintro e w' ⟨rfl, rfl⟩
        go_wp2_with fail
        go_ret2
        exact ⟨rfl, Below.refl _ _⟩
      · clear htb
        go_enter Try.func15, Try.ntmps15
        go_wp2_with fail
        refine (hn.out _).mono ?_; rintro e w' ⟨rfl, rfl⟩
        go_wp2_with fail
        go_ret2
        exact ⟨rfl, Below.refl _ _⟩
    · rw [decide_eq_false hbig] at htb
      simp only [hbig, if_false]
      obtain ⟨n, e1, n1, n2, e2, e3⟩ := hrq (by omega)
      have hle := hle (by omega)
      rw [e1] at hpt
      rw [e2] at hle ⊢
      obtain ⟨m, hmm⟩ : ∃ m, magN (rung f) = m := ⟨_, rfl⟩
      rw [hmm] at hpt hm e3 hle ⊢
      have hrow := fun W => row_all m (by omega) W
      obtain ⟨N, hN⟩ : ∃ N, rq (m * 1000000000) (2 ^ n) = N := ⟨_, rfl⟩
      have b5 : (N : Int) ≤ 8589934592000000000 := by rw [hN] at hle; omega
      have b6 : (0 : Int) ≤ (N : Int) := by omega
      rw [hN]
      obtain ⟨sg, hsg⟩ : ∃ sg, negB f = sg := ⟨_, rfl⟩
      rw [hsg] at hpt ⊢
      obtain ⟨rfl, rfl⟩ : L1 = false ∧ L2 = false := by cases L1 <;> cases L2 <;> simp at htb ⊢
      clear htb hle e1 hmm hsg e2 hm
      replace hn := Lib.hid hn
      replace hnan := Lib.hid hnan
      replace hbig := Lib.hid hbig
      replace hpt := Lib.hid hpt
      replace hrow := Lib.hid hrow
      replace hN := Lib.hid hN
      replace e3 := Lib.hid e3
      go_enter Try.func15, Try.ntmps15
      go_wp2_with fail
      refine (hn.out _).mono ?_; rintro e w' ⟨rfl, rfl⟩
      go_wp2_with fail
      refine (hpt.out _).mono ?_; rintro e w' ⟨rfl, rfl⟩
      go_wp2_with fail
      refine (hrow.out _).mono ?_; rintro e w1 ⟨v1, bs, rfl, r1, s1, l1, z1, k1⟩
      have ht := times_any r1 l1 z1
      rw [s1] at ht
      replace ht := Lib.hid ht
      replace k1 := Lib.hid k1
      replace r1 := Lib.hid r1
      replace s1 := Lib.hid s1
      replace z1 := Lib.hid z1
      clear l1
      go_wp2_with fail
      refine ht.out.mono ?_; rintro e w2 ⟨v2, cs, rfl, r2, s2, k2⟩
      have hh := half_any r2.bts n n1 (by omega) (by rw [s2]; exact e3.out)
      rw [s2, hN.out] at hh
      replace hh := Lib.hid hh
      replace k2 := Lib.hid k2
      replace r2 := Lib.hid r2
      replace s2 := Lib.hid s2
      go_wp2_with fail
      refine hh.out.mono ?_; rintro e w3 ⟨rfl, k3⟩
      replace k3 := Lib.hid k3
      cases sg
      · go_wp2_with fail
        go_ret2
        refine ⟨rfl, ?_⟩
        have k := k1.out
        replace k := k.trans (k2.out.mono k.size)
        exact k.trans (k3.out.mono k.size)
      · go_wp2_with fail
        go_ret2
        refine ⟨rfl, ?_⟩
        have k := k1.out
        replace k := k.trans (k2.out.mono k.size)
        exact k.trans (k3.out.mono k.size)
  · rw [hnan] at hn
    simp only [if_true]
    clear hrq hle hm hpt htb
    replace hn := Lib.hid hn
    replace hnan := Lib.hid hnan
    go_enter Try.func15, Try.ntmps15
    go_wp2_with fail
    refine (hn.out _).mono ?_; rintro e w' ⟨rfl, rfl⟩
    go_wp2_with fail
    go_ret2
    exact ⟨rfl, Below.refl _ _⟩
end Go.Proofs.Ytkbpjegmfhmhbaa
