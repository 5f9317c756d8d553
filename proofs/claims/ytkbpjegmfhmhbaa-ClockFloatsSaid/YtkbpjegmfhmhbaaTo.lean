/- To: the float of a time. -/
import Derived.Test.YtkbpjegmfhmhbaaLdexp
namespace Go.Proofs.Ytkbpjegmfhmhbaa
open Go.RowKit Go.Shelf
attribute [local go_sem] Oper.semAt_some

/-- The facts of one call of To: each step's word has a name. -/
structure ToF (ns : Int) (n1 k hi lo q rest pt x m F0 F : Nat) (c : Nat) : Prop where
  ne : (ns == 0) = false
  len : ∀ W, Calls Try.prog 39 #[.int .u64 n1] W fun e w' => e = .returned (.int .i64 (85 - (k : Int))) ∧ w' = W
  k21 : 21 ≤ k
  k84 : k ≤ 84
  hlo : k < 64 → ((n1 : Int) / 2 ^ (64 - min (k : Int) 64).toNat = (hi : Int) ∧ IntKind.u64.wrap ((n1 : Int) * 2 ^ k) = (lo : Int))
  hhi : 64 ≤ k → (IntKind.u64.wrap ((n1 : Int) * 2 ^ (k - 64)) = (hi : Int) ∧ lo = 0)
  div : ∀ W, Calls Try.prog 40 #[.int .u64 hi, .int .u64 lo, .int .u64 1000000000] W fun e w' => e = .returned (.tuple #[.int .u64 (q : Int), .int .u64 (rest : Int)]) ∧ w' = W
  lenq : ∀ W, Calls Try.prog 39 #[.int .u64 q] W fun e w' => e = .returned (.int .i64 ((c : Int) + 53)) ∧ w' = W
  part : IntKind.u64.wrap ((q : Int) * 2 ^ (64 - c)) = (pt : Int)
  part1 : bits .or .u64 (pt : Int) 1 = ((pt + 1 : Nat) : Int)
  xq : (q : Int) / 2 ^ c = (x : Int)
  ev : ∀ W, Calls Try.prog 41 #[.int .u64 x, .int .u64 ((if rest = 0 then pt else pt + 1 : Nat) : Int)] W fun e w' => e = .returned (.int .u64 (m : Int)) ∧ w' = W
  fl : floatOfInt .f64 (m : Int) = F0
  ld : ∀ W, Calls Try.prog 26 #[.float .f64 F0, .int .i64 ((c : Int) - (k : Int))] W fun e w' => e = .returned (.float .f64 F) ∧ w' = W

def negF (F : Nat) : Nat := Op.negFloat .f64 F
theorem run_negf (F : Nat) (w : World) : (Op.unary .neg (.float .f64 F)).run Try.prog w = .ok (.float .f64 (negF F)) w := rfl

set_option maxRecDepth 100000 in
set_option maxHeartbeats 8000000 in
theorem to_walk (ns : Int) (n n1 k hi lo q rest pt x m F0 F c : Nat) (h : ToF ns n1 k hi lo q rest pt x m F0 F c) (hc : c = 2 ∨ c = 3) (f1 : IntKind.u64.wrap ns = (n : Int)) (hn : if ns < 0 then IntKind.u64.wrap (-(n : Int)) = (n1 : Int) else n = n1) (w : World) :
    Calls Try.prog 19 #[.int .i64 ns] w fun e w' => e = .returned (.float .f64 (if ns < 0 then negF F else F)) ∧ ∃ m, w' = w.drewN m := by
  obtain ⟨ne, len, k21, k84, hlo, hhi, div, lenq, part, part1, xq, ev, fl, ld⟩ := h
  replace len := Lib.hid len
  replace div := Lib.hid div
  replace ev := Lib.hid ev
  have hng := run_negf F
  have b1 : (21 : Int) ≤ (k : Int) := by omega
  have b2 : (k : Int) ≤ 84 := by omega
  have f3 : (85 : Int) - (85 - (k : Int)) = (k : Int) := by omega
  rcases hc with rfl | rfl
  · rw [show (((2 : Nat) : Int) + 53) = 55 from rfl] at lenq
    replace lenq := Lib.hid lenq
    replace part : IntKind.u64.wrap ((q : Int) * 4611686018427387904) = (pt : Int) := part
    replace xq : (q : Int) / 4 = (x : Int) := xq
    replace ld : ∀ W, Calls Try.prog 26 #[.float .f64 F0, .int .i64 (2 - (k : Int))] W fun e w' => e = .returned (.float .f64 F) ∧ w' = W := ld
    replace ld := Lib.hid ld
    by_cases hns : ns < 0
    all_goals
      by_cases hk : k < 64
    all_goals
      by_cases hrest : rest = 0
    · rw [if_pos hns] at hn ⊢
      have hd : decide (ns < 0) = true := decide_eq_true hns
      replace hns := Lib.hid hns
      obtain ⟨g1, g2⟩ := hlo hk
      have b3 : (k : Int) < 64 := by omega
      clear hhi hlo
      replace ev := ev.out
      rw [if_pos hrest] at ev
      replace ev := Lib.hid ev
      subst hrest
      clear hk
      go_enter Try.func19, Try.ntmps19
      go_wp2_with fail
      refine (len.out _).mono ?_; rintro e w' ⟨rfl, rfl⟩
      go_wp2_with fail
      go_quiet (fail)
      go_wp2_with fail
      refine (div.out _).mono ?_; rintro e w' ⟨rfl, rfl⟩
      go_wp2_with fail
      refine (lenq.out _).mono ?_; rintro e w' ⟨rfl, rfl⟩
      go_wp2_with fail
      refine (ev.out _).mono ?_; rintro e w' ⟨rfl, rfl⟩
      go_wp2_with fail
      refine (ld.out _).mono ?_; rintro e w' ⟨rfl, rfl⟩
      go_wp2_with fail
      go_ret
      exact ⟨rfl, _, rfl⟩
    · rw [if_pos hns] at hn ⊢
      have hd : decide (ns < 0) = true := decide_eq_true hns
      replace hns := Lib.hid hns
      obtain ⟨g1, g2⟩ := hlo hk
      have b3 : (k : Int) < 64 := by omega
      clear hhi hlo
      replace ev := ev.out
      rw [if_neg hrest] at ev
      replace ev := Lib.hid ev
      have hr : (0 : Int) < (rest : Int) := by omega
      have hr2 : 0 < rest := by omega
      generalize ((pt + 1 : Nat) : Int) = PT1 at *
      replace hrest := Lib.hid hrest
      clear hk
      go_enter Try.func19, Try.ntmps19
      go_wp2_with fail
      refine (len.out _).mono ?_; rintro e w' ⟨rfl, rfl⟩
      go_wp2_with fail
      go_quiet (fail)
      go_wp2_with fail
      refine (div.out _).mono ?_; rintro e w' ⟨rfl, rfl⟩
      go_wp2_with fail
      refine (lenq.out _).mono ?_; rintro e w' ⟨rfl, rfl⟩
      go_wp2_with fail
      refine (ev.out _).mono ?_; rintro e w' ⟨rfl, rfl⟩
      go_wp2_with fail
      refine (ld.out _).mono ?_; rintro e w' ⟨rfl, rfl⟩
      go_wp2_with fail
      go_ret
      exact ⟨rfl, _, rfl⟩
    · rw [if_pos hns] at hn ⊢
      have hd : decide (ns < 0) = true := decide_eq_true hns
      replace hns := Lib.hid hns
      obtain ⟨g1, rfl⟩ := hhi (by omega)
      obtain ⟨j, hj⟩ : ∃ j, k - 64 = j := ⟨_, rfl⟩
      rw [hj] at g1
      have f4 : (k : Int) - 64 = (j : Int) := by omega
      have b3 : (64 : Int) ≤ (k : Int) := by omega
      have b4 : (0 : Int) ≤ (j : Int) := by omega
      have b5 : (j : Int) ≤ 20 := by omega
      replace hj := Lib.hid hj
      clear hhi hlo
      replace ev := ev.out
      rw [if_pos hrest] at ev
      replace ev := Lib.hid ev
      subst hrest
      clear hk
      go_enter Try.func19, Try.ntmps19
      go_wp2_with fail
      refine (len.out _).mono ?_; rintro e w' ⟨rfl, rfl⟩
      go_wp2_with fail
      go_quiet (fail)
      go_wp2_with fail
      refine (div.out _).mono ?_; rintro e w' ⟨rfl, rfl⟩
      go_wp2_with fail
      refine (lenq.out _).mono ?_; rintro e w' ⟨rfl, rfl⟩
      go_wp2_with fail
      refine (ev.out _).mono ?_; rintro e w' ⟨rfl, rfl⟩
      go_wp2_with fail
      refine (ld.out _).mono ?_; rintro e w' ⟨rfl, rfl⟩
      go_wp2_with fail
      go_ret
      exact ⟨rfl, _, rfl⟩
    · rw [if_pos hns] at hn ⊢
      have hd : decide (ns < 0) = true := decide_eq_true hns
      replace hns := Lib.hid hns
      obtain ⟨g1, rfl⟩ := hhi (by omega)
      obtain ⟨j, hj⟩ : ∃ j, k - 64 = j := ⟨_, rfl⟩
      rw [hj] at g1
      have f4 : (k : Int) - 64 = (j : Int) := by omega
      have b3 : (64 : Int) ≤ (k : Int) := by omega
      have b4 : (0 : Int) ≤ (j : Int) := by omega
      have b5 : (j : Int) ≤ 20 := by omega
      replace hj := Lib.hid hj
      clear hhi hlo
      replace ev := ev.out
      rw [if_neg hrest] at ev
      replace ev := Lib.hid ev
      have hr : (0 : Int) < (rest : Int) := by omega
      have hr2 : 0 < rest := by omega
      generalize ((pt + 1 : Nat) : Int) = PT1 at *
      replace hrest := Lib.hid hrest
      clear hk
      go_enter Try.func19, Try.ntmps19
      go_wp2_with fail
      refine (len.out _).mono ?_; rintro e w' ⟨rfl, rfl⟩
      go_wp2_with fail
      go_quiet (fail)
      go_wp2_with fail
      refine (div.out _).mono ?_; rintro e w' ⟨rfl, rfl⟩
      go_wp2_with fail
      refine (lenq.out _).mono ?_; rintro e w' ⟨rfl, rfl⟩
      go_wp2_with fail
      refine (ev.out _).mono ?_; rintro e w' ⟨rfl, rfl⟩
      go_wp2_with fail
      refine (ld.out _).mono ?_; rintro e w' ⟨rfl, rfl⟩
      go_wp2_with fail
      go_ret
      exact ⟨rfl, _, rfl⟩
    · rw [if_neg hns] at hn ⊢
      subst hn
      have hd : decide (ns < 0) = false := decide_eq_false hns
      replace hns := Lib.hid hns
      obtain ⟨g1, g2⟩ := hlo hk
      have b3 : (k : Int) < 64 := by omega
      clear hhi hlo
      replace ev := ev.out
      rw [if_pos hrest] at ev
      replace ev := Lib.hid ev
      subst hrest
      clear hk
      go_enter Try.func19, Try.ntmps19
      go_wp2_with fail
      refine (len.out _).mono ?_; rintro e w' ⟨rfl, rfl⟩
      go_wp2_with fail
      go_quiet (fail)
      go_wp2_with fail
      refine (div.out _).mono ?_; rintro e w' ⟨rfl, rfl⟩
      go_wp2_with fail
      refine (lenq.out _).mono ?_; rintro e w' ⟨rfl, rfl⟩
      go_wp2_with fail
      refine (ev.out _).mono ?_; rintro e w' ⟨rfl, rfl⟩
      go_wp2_with fail
      refine (ld.out _).mono ?_; rintro e w' ⟨rfl, rfl⟩
      go_wp2_with fail
      go_ret
      exact ⟨rfl, _, rfl⟩
    · rw [if_neg hns] at hn ⊢
      subst hn
      have hd : decide (ns < 0) = false := decide_eq_false hns
      replace hns := Lib.hid hns
      obtain ⟨g1, g2⟩ := hlo hk
      have b3 : (k : Int) < 64 := by omega
      clear hhi hlo
      replace ev := ev.out
      rw [if_neg hrest] at ev
      replace ev := Lib.hid ev
      have hr : (0 : Int) < (rest : Int) := by omega
      have hr2 : 0 < rest := by omega
      generalize ((pt + 1 : Nat) : Int) = PT1 at *
      replace hrest := Lib.hid hrest
      clear hk
      go_enter Try.func19, Try.ntmps19
      go_wp2_with fail
      refine (len.out _).mono ?_; rintro e w' ⟨rfl, rfl⟩
      go_wp2_with fail
      go_quiet (fail)
      go_wp2_with fail
      refine (div.out _).mono ?_; rintro e w' ⟨rfl, rfl⟩
      go_wp2_with fail
      refine (lenq.out _).mono ?_; rintro e w' ⟨rfl, rfl⟩
      go_wp2_with fail
      refine (ev.out _).mono ?_; rintro e w' ⟨rfl, rfl⟩
      go_wp2_with fail
      refine (ld.out _).mono ?_; rintro e w' ⟨rfl, rfl⟩
      go_wp2_with fail
      go_ret
      exact ⟨rfl, _, rfl⟩
    · rw [if_neg hns] at hn ⊢
      subst hn
      have hd : decide (ns < 0) = false := decide_eq_false hns
      replace hns := Lib.hid hns
      obtain ⟨g1, rfl⟩ := hhi (by omega)
      obtain ⟨j, hj⟩ : ∃ j, k - 64 = j := ⟨_, rfl⟩
      rw [hj] at g1
      have f4 : (k : Int) - 64 = (j : Int) := by omega
      have b3 : (64 : Int) ≤ (k : Int) := by omega
      have b4 : (0 : Int) ≤ (j : Int) := by omega
      have b5 : (j : Int) ≤ 20 := by omega
      replace hj := Lib.hid hj
      clear hhi hlo
      replace ev := ev.out
      rw [if_pos hrest] at ev
      replace ev := Lib.hid ev
      subst hrest
      clear hk
      go_enter Try.func19, Try.ntmps19
      go_wp2_with fail
      refine (len.out _).mono ?_; rintro e w' ⟨rfl, rfl⟩
      go_wp2_with fail
      go_quiet (fail)
      go_wp2_with fail
      refine (div.out _).mono ?_; rintro e w' ⟨rfl, rfl⟩
      go_wp2_with fail
      refine (lenq.out _).mono ?_; rintro e w' ⟨rfl, rfl⟩
      go_wp2_with fail
      refine (ev.out _).mono ?_; rintro e w' ⟨rfl, rfl⟩
      go_wp2_with fail
      refine (ld.out _).mono ?_; rintro e w' ⟨rfl, rfl⟩
      go_wp2_with fail
      go_ret
      exact ⟨rfl, _, rfl⟩
    · rw [if_neg hns] at hn ⊢
      subst hn
      have hd : decide (ns < 0) = false := decide_eq_false hns
      replace hns := Lib.hid hns
      obtain ⟨g1, rfl⟩ := hhi (by omega)
      obtain ⟨j, hj⟩ : ∃ j, k - 64 = j := ⟨_, rfl⟩
      rw [hj] at g1
      have f4 : (k : Int) - 64 = (j : Int) := by omega
      have b3 : (64 : Int) ≤ (k : Int) := by omega
      have b4 : (0 : Int) ≤ (j : Int) := by omega
      have b5 : (j : Int) ≤ 20 := by omega
      replace hj := Lib.hid hj
      clear hhi hlo
      replace ev := ev.out
      rw [if_neg hrest] at ev
      replace ev := Lib.hid ev
      have hr : (0 : Int) < (rest : Int) := by omega
      have hr2 : 0 < rest := by omega
      generalize ((pt + 1 : Nat) : Int) = PT1 at *
      replace hrest := Lib.hid hrest
      clear hk
      go_enter Try.func19, Try.ntmps19
      go_wp2_with fail
      refine (len.out _).mono ?_; rintro e w' ⟨rfl, rfl⟩
      go_wp2_with fail
      go_quiet (fail)
      go_wp2_with fail
      refine (div.out _).mono ?_; rintro e w' ⟨rfl, rfl⟩
      go_wp2_with fail
      refine (lenq.out _).mono ?_; rintro e w' ⟨rfl, rfl⟩
      go_wp2_with fail
      refine (ev.out _).mono ?_; rintro e w' ⟨rfl, rfl⟩
      go_wp2_with fail
      refine (ld.out _).mono ?_; rintro e w' ⟨rfl, rfl⟩
      go_wp2_with fail
      go_ret
      exact ⟨rfl, _, rfl⟩
  · rw [show (((3 : Nat) : Int) + 53) = 56 from rfl] at lenq
    replace lenq := Lib.hid lenq
    replace part : IntKind.u64.wrap ((q : Int) * 2305843009213693952) = (pt : Int) := part
    replace xq : (q : Int) / 8 = (x : Int) := xq
    replace ld : ∀ W, Calls Try.prog 26 #[.float .f64 F0, .int .i64 (3 - (k : Int))] W fun e w' => e = .returned (.float .f64 F) ∧ w' = W := ld
    replace ld := Lib.hid ld
    by_cases hns : ns < 0
    all_goals
      by_cases hk : k < 64
    all_goals
      by_cases hrest : rest = 0
    · rw [if_pos hns] at hn ⊢
      have hd : decide (ns < 0) = true := decide_eq_true hns
      replace hns := Lib.hid hns
      obtain ⟨g1, g2⟩ := hlo hk
      have b3 : (k : Int) < 64 := by omega
      clear hhi hlo
      replace ev := ev.out
      rw [if_pos hrest] at ev
      replace ev := Lib.hid ev
      subst hrest
      clear hk
      go_enter Try.func19, Try.ntmps19
      go_wp2_with fail
      refine (len.out _).mono ?_; rintro e w' ⟨rfl, rfl⟩
      go_wp2_with fail
      go_quiet (fail)
      go_wp2_with fail
      refine (div.out _).mono ?_; rintro e w' ⟨rfl, rfl⟩
      go_wp2_with fail
      refine (lenq.out _).mono ?_; rintro e w' ⟨rfl, rfl⟩
      go_wp2_with fail
      refine (ev.out _).mono ?_; rintro e w' ⟨rfl, rfl⟩
      go_wp2_with fail
      refine (ld.out _).mono ?_; rintro e w' ⟨rfl, rfl⟩
      go_wp2_with fail
      go_ret
      exact ⟨rfl, _, rfl⟩
    · rw [if_pos hns] at hn ⊢
      have hd : decide (ns < 0) = true := decide_eq_true hns
      replace hns := Lib.hid hns
      obtain ⟨g1, g2⟩ := hlo hk
      have b3 : (k : Int) < 64 := by omega
      clear hhi hlo
      replace ev := ev.out
      rw [if_neg hrest] at ev
      replace ev := Lib.hid ev
      have hr : (0 : Int) < (rest : Int) := by omega
      have hr2 : 0 < rest := by omega
      generalize ((pt + 1 : Nat) : Int) = PT1 at *
      replace hrest := Lib.hid hrest
      clear hk
      go_enter Try.func19, Try.ntmps19
      go_wp2_with fail
      refine (len.out _).mono ?_; rintro e w' ⟨rfl, rfl⟩
      go_wp2_with fail
      go_quiet (fail)
      go_wp2_with fail
      refine (div.out _).mono ?_; rintro e w' ⟨rfl, rfl⟩
      go_wp2_with fail
      refine (lenq.out _).mono ?_; rintro e w' ⟨rfl, rfl⟩
      go_wp2_with fail
      refine (ev.out _).mono ?_; rintro e w' ⟨rfl, rfl⟩
      go_wp2_with fail
      refine (ld.out _).mono ?_; rintro e w' ⟨rfl, rfl⟩
      go_wp2_with fail
      go_ret
      exact ⟨rfl, _, rfl⟩
    · rw [if_pos hns] at hn ⊢
      have hd : decide (ns < 0) = true := decide_eq_true hns
      replace hns := Lib.hid hns
      obtain ⟨g1, rfl⟩ := hhi (by omega)
      obtain ⟨j, hj⟩ : ∃ j, k - 64 = j := ⟨_, rfl⟩
      rw [hj] at g1
      have f4 : (k : Int) - 64 = (j : Int) := by omega
      have b3 : (64 : Int) ≤ (k : Int) := by omega
      have b4 : (0 : Int) ≤ (j : Int) := by omega
      have b5 : (j : Int) ≤ 20 := by omega
      replace hj := Lib.hid hj
      clear hhi hlo
      replace ev := ev.out
      rw [if_pos hrest] at ev
      replace ev := Lib.hid ev
      subst hrest
      clear hk
      go_enter Try.func19, Try.ntmps19
      go_wp2_with fail
      refine (len.out _).mono ?_; rintro e w' ⟨rfl, rfl⟩
      go_wp2_with fail
      go_quiet (fail)
      go_wp2_with fail
      refine (div.out _).mono ?_; rintro e w' ⟨rfl, rfl⟩
      go_wp2_with fail
      refine (lenq.out _).mono ?_; rintro e w' ⟨rfl, rfl⟩
      go_wp2_with fail
      refine (ev.out _).mono ?_; rintro e w' ⟨rfl, rfl⟩
      go_wp2_with fail
      refine (ld.out _).mono ?_; rintro e w' ⟨rfl, rfl⟩
      go_wp2_with fail
      go_ret
      exact ⟨rfl, _, rfl⟩
    · rw [if_pos hns] at hn ⊢
      have hd : decide (ns < 0) = true := decide_eq_true hns
      replace hns := Lib.hid hns
      obtain ⟨g1, rfl⟩ := hhi (by omega)
      obtain ⟨j, hj⟩ : ∃ j, k - 64 = j := ⟨_, rfl⟩
      rw [hj] at g1
      have f4 : (k : Int) - 64 = (j : Int) := by omega
      have b3 : (64 : Int) ≤ (k : Int) := by omega
      have b4 : (0 : Int) ≤ (j : Int) := by omega
      have b5 : (j : Int) ≤ 20 := by omega
      replace hj := Lib.hid hj
      clear hhi hlo
      replace ev := ev.out
      rw [if_neg hrest] at ev
      replace ev := Lib.hid ev
      have hr : (0 : Int) < (rest : Int) := by omega
      have hr2 : 0 < rest := by omega
      generalize ((pt + 1 : Nat) : Int) = PT1 at *
      replace hrest := Lib.hid hrest
      clear hk
      go_enter Try.func19, Try.ntmps19
      go_wp2_with fail
      refine (len.out _).mono ?_; rintro e w' ⟨rfl, rfl⟩
      go_wp2_with fail
      go_quiet (fail)
      go_wp2_with fail
      refine (div.out _).mono ?_; rintro e w' ⟨rfl, rfl⟩
      go_wp2_with fail
      refine (lenq.out _).mono ?_; rintro e w' ⟨rfl, rfl⟩
      go_wp2_with fail
      refine (ev.out _).mono ?_; rintro e w' ⟨rfl, rfl⟩
      go_wp2_with fail
      refine (ld.out _).mono ?_; rintro e w' ⟨rfl, rfl⟩
      go_wp2_with fail
      go_ret
      exact ⟨rfl, _, rfl⟩
    · rw [if_neg hns] at hn ⊢
      subst hn
      have hd : decide (ns < 0) = false := decide_eq_false hns
      replace hns := Lib.hid hns
      obtain ⟨g1, g2⟩ := hlo hk
      have b3 : (k : Int) < 64 := by omega
      clear hhi hlo
      replace ev := ev.out
      rw [if_pos hrest] at ev
      replace ev := Lib.hid ev
      subst hrest
      clear hk
      go_enter Try.func19, Try.ntmps19
      go_wp2_with fail
      refine (len.out _).mono ?_; rintro e w' ⟨rfl, rfl⟩
      go_wp2_with fail
      go_quiet (fail)
      go_wp2_with fail
      refine (div.out _).mono ?_; rintro e w' ⟨rfl, rfl⟩
      go_wp2_with fail
      refine (lenq.out _).mono ?_; rintro e w' ⟨rfl, rfl⟩
      go_wp2_with fail
      refine (ev.out _).mono ?_; rintro e w' ⟨rfl, rfl⟩
      go_wp2_with fail
      refine (ld.out _).mono ?_; rintro e w' ⟨rfl, rfl⟩
      go_wp2_with fail
      go_ret
      exact ⟨rfl, _, rfl⟩
    · rw [if_neg hns] at hn ⊢
      subst hn
      have hd : decide (ns < 0) = false := decide_eq_false hns
      replace hns := Lib.hid hns
      obtain ⟨g1, g2⟩ := hlo hk
      have b3 : (k : Int) < 64 := by omega
      clear hhi hlo
      replace ev := ev.out
      rw [if_neg hrest] at ev
      replace ev := Lib.hid ev
      have hr : (0 : Int) < (rest : Int) := by omega
      have hr2 : 0 < rest := by omega
      generalize ((pt + 1 : Nat) : Int) = PT1 at *
      replace hrest := Lib.hid hrest
      clear hk
      go_enter Try.func19, Try.ntmps19
      go_wp2_with fail
      refine (len.out _).mono ?_; rintro e w' ⟨rfl, rfl⟩
      go_wp2_with fail
      go_quiet (fail)
      go_wp2_with fail
      refine (div.out _).mono ?_; rintro e w' ⟨rfl, rfl⟩
      go_wp2_with fail
      refine (lenq.out _).mono ?_; rintro e w' ⟨rfl, rfl⟩
      go_wp2_with fail
      refine (ev.out _).mono ?_; rintro e w' ⟨rfl, rfl⟩
      go_wp2_with fail
      refine (ld.out _).mono ?_; rintro e w' ⟨rfl, rfl⟩
      go_wp2_with fail
      go_ret
      exact ⟨rfl, _, rfl⟩
    · rw [if_neg hns] at hn ⊢
      subst hn
      have hd : decide (ns < 0) = false := decide_eq_false hns
      replace hns := Lib.hid hns
      obtain ⟨g1, rfl⟩ := hhi (by omega)
      obtain ⟨j, hj⟩ : ∃ j, k - 64 = j := ⟨_, rfl⟩
      rw [hj] at g1
      have f4 : (k : Int) - 64 = (j : Int) := by omega
      have b3 : (64 : Int) ≤ (k : Int) := by omega
      have b4 : (0 : Int) ≤ (j : Int) := by omega
      have b5 : (j : Int) ≤ 20 := by omega
      replace hj := Lib.hid hj
      clear hhi hlo
      replace ev := ev.out
      rw [if_pos hrest] at ev
      replace ev := Lib.hid ev
      subst hrest
      clear hk
      go_enter Try.func19, Try.ntmps19
      go_wp2_with fail
      refine (len.out _).mono ?_; rintro e w' ⟨rfl, rfl⟩
      go_wp2_with fail
      go_quiet (fail)
      go_wp2_with fail
      refine (div.out _).mono ?_; rintro e w' ⟨rfl, rfl⟩
      go_wp2_with fail
      refine (lenq.out _).mono ?_; rintro e w' ⟨rfl, rfl⟩
      go_wp2_with fail
      refine (ev.out _).mono ?_; rintro e w' ⟨rfl, rfl⟩
      go_wp2_with fail
      refine (ld.out _).mono ?_; rintro e w' ⟨rfl, rfl⟩
      go_wp2_with fail
      go_ret
      exact ⟨rfl, _, rfl⟩
    · rw [if_neg hns] at hn ⊢
      subst hn
      have hd : decide (ns < 0) = false := decide_eq_false hns
      replace hns := Lib.hid hns
      obtain ⟨g1, rfl⟩ := hhi (by omega)
      obtain ⟨j, hj⟩ : ∃ j, k - 64 = j := ⟨_, rfl⟩
      rw [hj] at g1
      have f4 : (k : Int) - 64 = (j : Int) := by omega
      have b3 : (64 : Int) ≤ (k : Int) := by omega
      have b4 : (0 : Int) ≤ (j : Int) := by omega
      have b5 : (j : Int) ≤ 20 := by omega
      replace hj := Lib.hid hj
      clear hhi hlo
      replace ev := ev.out
      rw [if_neg hrest] at ev
      replace ev := Lib.hid ev
      have hr : (0 : Int) < (rest : Int) := by omega
      have hr2 : 0 < rest := by omega
      generalize ((pt + 1 : Nat) : Int) = PT1 at *
      replace hrest := Lib.hid hrest
      clear hk
      go_enter Try.func19, Try.ntmps19
      go_wp2_with fail
      refine (len.out _).mono ?_; rintro e w' ⟨rfl, rfl⟩
      go_wp2_with fail
      go_quiet (fail)
      go_wp2_with fail
      refine (div.out _).mono ?_; rintro e w' ⟨rfl, rfl⟩
      go_wp2_with fail
      refine (lenq.out _).mono ?_; rintro e w' ⟨rfl, rfl⟩
      go_wp2_with fail
      refine (ev.out _).mono ?_; rintro e w' ⟨rfl, rfl⟩
      go_wp2_with fail
      refine (ld.out _).mono ?_; rintro e w' ⟨rfl, rfl⟩
      go_wp2_with fail
      go_ret
      exact ⟨rfl, _, rfl⟩
end Go.Proofs.Ytkbpjegmfhmhbaa
