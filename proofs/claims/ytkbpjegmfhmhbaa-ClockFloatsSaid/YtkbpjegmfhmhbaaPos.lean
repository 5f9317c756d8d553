/- To, Resolve and Compare: what they answer. -/
import Derived.Test.YtkbpjegmfhmhbaaToNum
namespace Go.Proofs.Ytkbpjegmfhmhbaa
open Go.RowKit Go.Shelf
attribute [local go_sem] Oper.semAt_some

theorem negF_xor (F : Nat) : negF F = F ^^^ 2 ^ 63 := rfl
theorem negF_dm (F : Nat) : negF F % 2 ^ 63 = F % 2 ^ 63 ∧ negF F / 2 ^ 63 = F / 2 ^ 63 ^^^ 1 := by
  rw [negF_xor]
  constructor
  · rw [Nat.xor_mod_two_pow, Nat.mod_self, Nat.xor_zero]
  · rw [Nat.xor_div_two_pow, Nat.div_self (Nat.two_pow_pos _)]
theorem negF_eq (F : Nat) (h : F < 18446744073709551616) : negF F = if F < 9223372036854775808 then 9223372036854775808 + F else F - 9223372036854775808 := by
  obtain ⟨h1, h2⟩ := negF_dm F
  have e : (2 : Nat) ^ 63 = 9223372036854775808 := rfl
  rw [e] at h1 h2
  generalize negF F = G at *
  clear e
  by_cases hF : F < 9223372036854775808
  · rw [if_pos hF]
    rw [show F / 9223372036854775808 = 0 by omega] at h2
    have h3 : G / 9223372036854775808 = 1 := h2
    omega
  · rw [if_neg hF]
    rw [show F / 9223372036854775808 = 1 by omega] at h2
    have h3 : G / 9223372036854775808 = 0 := h2
    omega
theorem negF_small (F : Nat) (h : F < 9223372036854775808) : negF F = 9223372036854775808 + F := by
  rw [negF_eq F (by omega), if_pos h]

theorem to_any (ns : Int) (h1 : -9223372036854775808 ≤ ns) (h2 : ns ≤ 9223372036854775807) (w : World) :
    Calls Try.prog 19 #[.int .i64 ns] w fun e w' => e = .returned (.float .f64 (toF ns)) ∧ ∃ m, w' = w.drewN m := by
  by_cases h0 : ns = 0
  · subst h0
    have e : toF 0 = 0 := rfl
    rw [e]
    go_enter Try.func19, Try.ntmps19
    go_wp2_with fail
    go_ret
    exact ⟨rfl, 0, rfl⟩
  · have hn0 : ns.natAbs ≠ 0 := by omega
    have hnl : ns.natAbs < 18446744073709551616 := by omega
    obtain ⟨hi, lo, pt, x, F0, hf⟩ := to_facts ns ns.natAbs (by simpa using h0) hn0 hnl
    obtain ⟨hc, _⟩ := toC_bd hn0 hnl
    obtain ⟨hr, _⟩ := toR_eq hn0 hnl
    obtain ⟨n, hn⟩ : ∃ n : Nat, IntKind.u64.wrap ns = (n : Int) := ⟨(ns % 18446744073709551616).toNat, by rw [IntKind.wrap_u64]; omega⟩
    have hn' := hn
    rw [IntKind.wrap_u64] at hn'
    refine (to_walk ns n ns.natAbs (toK ns.natAbs) hi lo (toQ ns.natAbs) _ pt x (toM ns.natAbs) F0 (toR ns.natAbs) (toC ns.natAbs) hf hc hn ?_ w).mono ?_
    · clear hf hr hc
      split
      · rw [IntKind.wrap_u64]; omega
      · omega
    · rintro e w' ⟨rfl, hm⟩
      refine ⟨?_, hm⟩
      unfold toF
      rw [if_neg h0]
      split
      · rw [negF_small _ (by unfold infR at hr; omega)]
      · rfl

theorem nan_any (w : World) : Calls Try.prog 25 #[] w fun e w' => e = .returned (.float .f64 9221120237041090561) ∧ w' = w := by
  have h2 := run_frombits
  go_enter Try.func25, Try.ntmps25
  go_wp2_with fail
  go_ret
  exact ⟨rfl, rfl⟩
theorem inf1_any (w : World) : Calls Try.prog 27 #[.int .i64 1] w fun e w' => e = .returned (.float .f64 9218868437227405312) ∧ w' = w := by
  have h2 := run_frombits
  go_enter Try.func27, Try.ntmps27
  go_wp2_with fail
  go_ret
  exact ⟨rfl, rfl⟩
theorem minus_any (w : World) : Calls Try.prog 24 #[.float .f64 0, .float .f64 13830554455654793216] w fun e w' => e = .returned (.float .f64 9223372036854775808) ∧ w' = w := by
  have h1 := run_bits
  have h2 := run_frombits
  go_enter Try.func24, Try.ntmps24
  go_wp2_with fail
  go_ret
  exact ⟨rfl, rfl⟩

/-- What a time means. -/
def resE (f : Nat) : Int := if nanB f then 0 else if ltF maxF f then 0 else if ltF f 0 then 22 else fromE f
def resT (f : Nat) (old now : Int) : Int := if nanB f then old else if ltF maxF f then now else if ltF f 0 then 0 else fromT f
set_option maxHeartbeats 4000000 in
theorem resolve_any (f : Nat) (hf : f < 18446744073709551616) (old now : Int) (w : World) :
    Calls Try.prog 16 #[.float .f64 f, .int .i64 old, .int .i64 now] w fun e w' => e = .returned (.tuple #[.int .i64 (resT f old now), .int .i64 (resE f)]) ∧ ∃ m, w' = w.drewN m := by
  have hn := fun W => isnan_any f W
  have hi := fun W => isinf1 f W
  have hz : (FloatKind.f64.format.order f 0 == some .lt) = ltF f 0 := lss_f f 0
  have hfr := fun W => from_any f hf W
  unfold resE resT
  generalize nanB f = A at *
  generalize ltF maxF f = B at *
  generalize ltF f 0 = C at *
  generalize fromT f = T at *
  generalize fromE f = E at *
  clear hf
  replace hn := Lib.hid hn
  replace hi := Lib.hid hi
  replace hfr := Lib.hid hfr
  cases A
  · cases B
    · cases C
      · go_enter Try.func16, Try.ntmps16
        go_wp2_with fail
        refine (hn.out _).mono ?_; rintro e w' ⟨rfl, rfl⟩
        go_wp2_with fail
        refine (hi.out _).mono ?_; rintro e w' ⟨rfl, rfl⟩
        go_wp2_with fail
        refine (hfr.out _).mono ?_; rintro e w' ⟨rfl, m, hm⟩
        replace hm := Lib.hid hm
        go_wp2_with fail
        go_ret2
        exact ⟨rfl, m, hm.out⟩
      · go_enter Try.func16, Try.ntmps16
        go_wp2_with fail
        refine (hn.out _).mono ?_; rintro e w' ⟨rfl, rfl⟩
        go_wp2_with fail
        refine (hi.out _).mono ?_; rintro e w' ⟨rfl, rfl⟩
        go_wp2_with fail
        go_ret2
        exact ⟨rfl, 0, rfl⟩
    · go_enter Try.func16, Try.ntmps16
      go_wp2_with fail
      refine (hn.out _).mono ?_; rintro e w' ⟨rfl, rfl⟩
      go_wp2_with fail
      refine (hi.out _).mono ?_; rintro e w' ⟨rfl, rfl⟩
      go_wp2_with fail
      go_ret2
      exact ⟨rfl, 0, rfl⟩
  · go_enter Try.func16, Try.ntmps16
    go_wp2_with fail
    refine (hn.out _).mono ?_; rintro e w' ⟨rfl, rfl⟩
    go_wp2_with fail
    go_ret2
    exact ⟨rfl, 0, rfl⟩

/-! Compare's small functions. -/
theorem cl45 (f : Nat) (w : World) : Calls Try.prog 45 #[.float .f64 f] w fun e w' => e = .returned (.int .i64 (if nanB f then 1 else 0)) ∧ w' = w := by
  have hn := fun W => isnan_any f W
  generalize nanB f = A at *
  cases A
  · go_enter Try.func45, Try.ntmps45
    go_wp2_with fail
    refine (hn _).mono ?_; rintro e w' ⟨rfl, rfl⟩
    go_wp2_with fail
    go_ret
    exact ⟨rfl, rfl⟩
  · go_enter Try.func45, Try.ntmps45
    go_wp2_with fail
    refine (hn _).mono ?_; rintro e w' ⟨rfl, rfl⟩
    go_wp2_with fail
    go_ret
    exact ⟨rfl, rfl⟩
theorem cl46 (f : Nat) (hf : f < 18446744073709551616) (w : World) : Calls Try.prog 46 #[.float .f64 f] w fun e w' => e = .returned (.int .i64 (if negB f then 0 else 1)) ∧ w' = w := by
  have hn := fun W => signbit_any f hf W
  clear hf
  generalize negB f = A at *
  cases A
  · go_enter Try.func46, Try.ntmps46
    go_wp2_with fail
    refine (hn _).mono ?_; rintro e w' ⟨rfl, rfl⟩
    go_wp2_with fail
    go_ret
    exact ⟨rfl, rfl⟩
  · go_enter Try.func46, Try.ntmps46
    go_wp2_with fail
    refine (hn _).mono ?_; rintro e w' ⟨rfl, rfl⟩
    go_wp2_with fail
    go_ret
    exact ⟨rfl, rfl⟩
theorem cmpf_any (x y : Nat) (hx : nanB x = false) (hy : nanB y = false) (w : World) : Calls Try.prog 48 #[.float .f64 x, .float .f64 y] w fun e w' => e = .returned (.int .i64 (if sv x < sv y then -1 else if sv y < sv x then 1 else 0)) ∧ w' = w := by
  have hn1 := fun W => isnan2_any x W
  have hn2 := fun W => isnan2_any y W
  rw [hx] at hn1
  rw [hy] at hn2
  have h1 : (FloatKind.f64.format.order x y == some .lt) = ltF x y := lss_f x y
  have h2 : (FloatKind.f64.format.order x y == some .gt) = ltF y x := gtr_f x y
  have e1 : ltF x y = decide (sv x < sv y) := by unfold ltF; rw [hx, hy]; simp
  have e2 : ltF y x = decide (sv y < sv x) := by unfold ltF; rw [hx, hy]; simp
  rw [e1] at h1
  rw [e2] at h2
  clear e1 e2 hx hy
  by_cases c1 : sv x < sv y
  · rw [decide_eq_true c1] at h1
    rw [if_pos c1]
    rw [decide_eq_false (by omega)] at h2
    clear c1
    go_enter Try.func48, Try.ntmps48
    go_wp2_with fail
    refine (hn1 _).mono ?_; rintro e w' ⟨rfl, rfl⟩
    go_wp2_with fail
    refine (hn2 _).mono ?_; rintro e w' ⟨rfl, rfl⟩
    go_wp2_with fail
    go_ret
    exact ⟨rfl, rfl⟩
  · rw [decide_eq_false c1] at h1
    rw [if_neg c1]
    by_cases c2 : sv y < sv x
    · rw [decide_eq_true c2] at h2
      rw [if_pos c2]
      clear c1 c2
      go_enter Try.func48, Try.ntmps48
      go_wp2_with fail
      refine (hn1 _).mono ?_; rintro e w' ⟨rfl, rfl⟩
      go_wp2_with fail
      refine (hn2 _).mono ?_; rintro e w' ⟨rfl, rfl⟩
      go_wp2_with fail
      go_ret
      exact ⟨rfl, rfl⟩
    · rw [decide_eq_false c2] at h2
      rw [if_neg c2]
      clear c1 c2
      go_enter Try.func48, Try.ntmps48
      go_wp2_with fail
      refine (hn1 _).mono ?_; rintro e w' ⟨rfl, rfl⟩
      go_wp2_with fail
      refine (hn2 _).mono ?_; rintro e w' ⟨rfl, rfl⟩
      go_wp2_with fail
      go_ret
      exact ⟨rfl, rfl⟩
end Go.Proofs.Ytkbpjegmfhmhbaa
