/- ClockSign: the walk. -/
import Derived.Test.YtkbpjegmfhmhbaaAwake
namespace Go.Proofs.Ytkbpjegmfhmhbaa
open Go.RowKit Go.Shelf
attribute [local go_sem] Oper.semAt_some

theorem negF_rung (f : Nat) : rung (negF f) = rung f := (negF_dm f).1
theorem negF_neg (f : Nat) (hf : f < 18446744073709551616) : negB (negF f) = !negB f := by
  have h := negF_eq f hf
  have hl : negF f < 18446744073709551616 := by rw [h]; split <;> omega
  rw [neg_iff _ hl, neg_iff _ hf]
  split at h
  · rename_i c
    rw [decide_eq_false (by omega : ¬ 9223372036854775808 ≤ f), decide_eq_true (by omega : 9223372036854775808 ≤ negF f)]; rfl
  · rename_i c
    rw [decide_eq_true (by omega : 9223372036854775808 ≤ f), decide_eq_false (by omega : ¬ 9223372036854775808 ≤ negF f)]; rfl
theorem negF_lt (f : Nat) (hf : f < 18446744073709551616) : negF f < 18446744073709551616 := by
  rw [negF_eq f hf]; split <;> omega
theorem fromE_neg (f : Nat) : fromE (negF f) = fromE f := by
  unfold fromE nanB; rw [negF_rung]
theorem fromT_neg (f : Nat) (hf : f < 18446744073709551616) : fromT (negF f) = -fromT f := by
  unfold fromT nanB; rw [negF_rung, negF_neg f hf]
  generalize (fromN (rung f) : Int) = N
  generalize decide (infR < rung f) = A
  generalize decide (topR ≤ rung f) = B
  cases negB f <;> cases A <;> simp <;> split <;> simp
theorem fromT_bd (f : Nat) : -8589934592000000000 ≤ fromT f ∧ fromT f ≤ 8589934592000000000 := by
  unfold fromT
  split
  · omega
  · split
    · omega
    · have := fromN_le (r := rung f) (by omega)
      split <;> omega

theorem fb (f : Nat) (hf : f < 18446744073709551616) (w : World) :
    Calls Try.prog 14 #[.float .f64 f] w fun x w' => x = .returned (.tuple #[.int .i64 (fromT f), .int .i64 (fromE f)]) ∧ Below w.heap.size w w' := fromV f hf _ _ rfl rfl w

set_option maxHeartbeats 4000000 in
theorem sign_walk (x : Int) (h0 : 0 ≤ x) (h1 : x < 18446744073709551616) (w : World) : Calls Try.prog 8 #[.int .u64 x] w fun e w' => e = .returned (.bool true) ∧ Below w.heap.size w w' := by
  obtain ⟨f, hf⟩ : ∃ f, x.toNat = f := ⟨_, rfl⟩
  have hlt : f < 18446744073709551616 := by omega
  have hfb : ∀ W, (callFunc 13 #[.int .u64 x]).run Try.prog W = .ok (.value (.float .f64 f)) W := fun W => by rw [run_frombits, hf]
  have hng := run_negf f
  have ha := fun W => fb f hlt W
  have hb := fun W => fb (negF f) (negF_lt f hlt) W
  rw [fromE_neg, fromT_neg f hlt] at hb
  obtain ⟨bd1, bd2⟩ := fromT_bd f
  generalize negF f = g at *
  generalize fromT f = T at *
  generalize fromE f = E at *
  clear hf hlt h0 h1
  replace ha := Lib.hid ha
  replace hb := Lib.hid hb
  go_enter Try.func8, Try.ntmps8
  go_wp2_with fail
  refine (awake_any _).mono ?_; rintro e w1 ⟨rfl, k1⟩
  replace k1 := Lib.hid k1
  go_wp2_with fail
  refine (ha.out _).mono ?_; rintro e w2 ⟨rfl, k2⟩
  replace k2 := Lib.hid k2
  go_wp2_with fail
  refine (hb.out _).mono ?_; rintro e w3 ⟨rfl, k3⟩
  replace k3 := Lib.hid k3
  go_wp2_with fail
  go_ret
  refine ⟨?_, ?_⟩
  · first | rfl | simp
  · have k := k1.out
    replace k := k.trans (k2.out.mono k.size)
    exact k.trans (k3.out.mono k.size)

theorem wf_u64' {n : Int} (h : (Lit.int .u64 n).wf = true) : 0 ≤ n ∧ n < 18446744073709551616 := by
  have hh : (decide (IntKind.u64.min ≤ n) && decide (n ≤ IntKind.u64.max)) = true := h
  rw [Bool.and_eq_true, decide_eq_true_iff, decide_eq_true_iff] at hh
  obtain ⟨h1, h2⟩ := hh
  clear h
  have e1 : IntKind.u64.min = 0 := rfl
  have e2 : IntKind.u64.max = 18446744073709551615 := rfl
  rw [e1] at h1
  rw [e2] at h2
  omega
theorem wf_i64' {n : Int} (h : (Lit.int .i64 n).wf = true) : -9223372036854775808 ≤ n ∧ n ≤ 9223372036854775807 := by
  have hh : (decide (IntKind.i64.min ≤ n) && decide (n ≤ IntKind.i64.max)) = true := h
  rw [Bool.and_eq_true, decide_eq_true_iff, decide_eq_true_iff] at hh
  obtain ⟨h1, h2⟩ := hh
  clear h
  have e1 : IntKind.i64.min = -9223372036854775808 := rfl
  have e2 : IntKind.i64.max = 9223372036854775807 := rfl
  rw [e1] at h1
  rw [e2] at h2
  omega
theorem sign_row (x : Int) (h : (Lit.int .u64 x).wf = true) (w : World) : Calls Try.prog 8 #[.int .u64 x] w fun e w' => e = .returned (.bool true) ∧ Below w.heap.size w w' :=
  sign_walk x (wf_u64' h).1 (wf_u64' h).2 w
end Go.Proofs.Ytkbpjegmfhmhbaa
