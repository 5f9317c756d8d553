/- ClockRises: the walk. -/
import Derived.Test.YtkbpjegmfhmhbaaSecWalk
namespace Go.Proofs.Ytkbpjegmfhmhbaa
open Go.RowKit Go.Shelf
attribute [local go_sem] Oper.semAt_some

set_option maxRecDepth 100000 in
set_option maxHeartbeats 16000000 in
theorem rise_walk (a b x y : Int) (ha1 : -9223372036854775808 ≤ a) (ha2 : a ≤ 9223372036854775807) (hb1 : -9223372036854775808 ≤ b) (hb2 : b ≤ 9223372036854775807)
    (h0 : 0 ≤ x) (h1 : x < 18446744073709551616) (h2 : 0 ≤ y) (h3 : y < 18446744073709551616) (w : World) :
    Calls Try.prog 6 #[.int .i64 a, .int .i64 b, .int .u64 x, .int .u64 y] w fun e w' => e = .returned (.bool true) ∧ Below w.heap.size w w' := by
  obtain ⟨f, hf⟩ : ∃ f, x.toNat = f := ⟨_, rfl⟩
  obtain ⟨g, hg⟩ : ∃ g, y.toNat = g := ⟨_, rfl⟩
  have hlf : f < 18446744073709551616 := by omega
  have hlg : g < 18446744073709551616 := by omega
  have hfb : ∀ W, (callFunc 13 #[.int .u64 x]).run Try.prog W = .ok (.value (.float .f64 f)) W := fun W => by rw [run_frombits, hf]
  have hgb : ∀ W, (callFunc 13 #[.int .u64 y]).run Try.prog W = .ok (.value (.float .f64 g)) W := fun W => by rw [run_frombits, hg]
  have hF := fun W => fb f hlf W
  have hG := fun W => fb g hlg W
  have l1 : (FloatKind.f64.format.order f g == some .lt || FloatKind.f64.format.order f g == some .eq) = leF f g := leq_f f g
  have l2 : (FloatKind.f64.format.order f g == some .gt || FloatKind.f64.format.order f g == some .eq) = leF g f := geq_f f g
  have m1 : fromE f = 0 → fromE g = 0 → leF f g = true → fromT f ≤ fromT g := fun p q r => fromT_rises f g p q r
  have m2 : fromE g = 0 → fromE f = 0 → leF g f = true → fromT g ≤ fromT f := fun p q r => fromT_rises g f p q r
  obtain ⟨A, B, hA, hB, hAB⟩ : ∃ A B, (∀ W, Calls Try.prog 19 #[.int .i64 (if b < a then b else a)] W fun x w' => x = .returned (.float .f64 A) ∧ Below W.heap.size W w') ∧
      (∀ W, Calls Try.prog 19 #[.int .i64 (if b < a then a else b)] W fun x w' => x = .returned (.float .f64 B) ∧ Below W.heap.size W w') ∧ leF A B = true := by
    by_cases c : b < a
    · rw [if_pos c, if_pos c]
      exact ⟨_, _, fun W => toV b hb1 hb2 _ rfl W, fun W => toV a ha1 ha2 _ rfl W, toF_rises b a (by omega) hb1 ha2⟩
    · rw [if_neg c, if_neg c]
      exact ⟨_, _, fun W => toV a ha1 ha2 _ rfl W, fun W => toV b hb1 hb2 _ rfl W, toF_rises a b (by omega) ha1 hb2⟩
  have l3 : (FloatKind.f64.format.order A B == some .lt || FloatKind.f64.format.order A B == some .eq) = true := (leq_f A B).trans hAB
  clear hAB
  generalize fromT f = T at *
  generalize fromE f = E at *
  generalize fromT g = S at *
  generalize fromE g = D at *
  generalize leF f g = L1 at *
  generalize leF g f = L2 at *
  clear hf hg hlf hlg h0 h1 h2 h3 ha1 ha2 hb1 hb2
  have hawk := fun W => awake_any W
  obtain ⟨C, hC⟩ : ∃ C, decide (b < a) = C := ⟨_, rfl⟩
  cases C
  · have hc : ¬ b < a := of_decide_eq_false hC
    rw [if_neg hc] at hA hB
    clear hc
    replace hawk := Lib.hid hawk
    replace hA := Lib.hid hA
    replace hB := Lib.hid hB
    replace hF := Lib.hid hF
    replace hG := Lib.hid hG
    by_cases cE : E = 0
    · subst cE
      by_cases cD : D = 0
      · subst cD
        cases L1
        · cases L2
          · clear m1 m2
            go_enter Try.func6, Try.ntmps6
            go_wp2_with fail
            refine (hawk.out _).mono ?_; rintro e w1 ⟨rfl, k1⟩
            replace k1 := Lib.hid k1
            go_wp2_with fail
            refine (hF.out _).mono ?_; rintro e w2 ⟨rfl, k2⟩
            replace k2 := Lib.hid k2
            go_wp2_with fail
            refine (hG.out _).mono ?_; rintro e w3 ⟨rfl, k3⟩
            replace k3 := Lib.hid k3
            go_wp2_with fail
            refine (hA.out _).mono ?_; rintro e w4 ⟨rfl, k4⟩
            replace k4 := Lib.hid k4
            go_wp2_with fail
            refine (hB.out _).mono ?_; rintro e w5 ⟨rfl, k5⟩
            replace k5 := Lib.hid k5
            go_wp2_with fail
            go_ret
            refine ⟨by first | rfl | simp, ?_⟩
            have k := k1.out
            replace k := k.trans (k2.out.mono k.size)
            replace k := k.trans (k3.out.mono k.size)
            replace k := k.trans (k4.out.mono k.size)
            exact k.trans (k5.out.mono k.size)
          · have h5 := m2 rfl rfl rfl
            have h6 : decide (T < S) = false := decide_eq_false (by omega)
            clear m1 m2
            go_enter Try.func6, Try.ntmps6
            go_wp2_with fail
            refine (hawk.out _).mono ?_; rintro e w1 ⟨rfl, k1⟩
            replace k1 := Lib.hid k1
            go_wp2_with fail
            refine (hF.out _).mono ?_; rintro e w2 ⟨rfl, k2⟩
            replace k2 := Lib.hid k2
            go_wp2_with fail
            refine (hG.out _).mono ?_; rintro e w3 ⟨rfl, k3⟩
            replace k3 := Lib.hid k3
            go_wp2_with fail
            refine (hA.out _).mono ?_; rintro e w4 ⟨rfl, k4⟩
            replace k4 := Lib.hid k4
            go_wp2_with fail
            refine (hB.out _).mono ?_; rintro e w5 ⟨rfl, k5⟩
            replace k5 := Lib.hid k5
            go_wp2_with fail
            go_ret
            refine ⟨by first | rfl | simp, ?_⟩
            have k := k1.out
            replace k := k.trans (k2.out.mono k.size)
            replace k := k.trans (k3.out.mono k.size)
            replace k := k.trans (k4.out.mono k.size)
            exact k.trans (k5.out.mono k.size)
        · cases L2
          · have h5 := m1 rfl rfl rfl
            have h6 : decide (S < T) = false := decide_eq_false (by omega)
            clear m1 m2
            go_enter Try.func6, Try.ntmps6
            go_wp2_with fail
            refine (hawk.out _).mono ?_; rintro e w1 ⟨rfl, k1⟩
            replace k1 := Lib.hid k1
            go_wp2_with fail
            refine (hF.out _).mono ?_; rintro e w2 ⟨rfl, k2⟩
            replace k2 := Lib.hid k2
            go_wp2_with fail
            refine (hG.out _).mono ?_; rintro e w3 ⟨rfl, k3⟩
            replace k3 := Lib.hid k3
            go_wp2_with fail
            refine (hA.out _).mono ?_; rintro e w4 ⟨rfl, k4⟩
            replace k4 := Lib.hid k4
            go_wp2_with fail
            refine (hB.out _).mono ?_; rintro e w5 ⟨rfl, k5⟩
            replace k5 := Lib.hid k5
            go_wp2_with fail
            go_ret
            refine ⟨by first | rfl | simp, ?_⟩
            have k := k1.out
            replace k := k.trans (k2.out.mono k.size)
            replace k := k.trans (k3.out.mono k.size)
            replace k := k.trans (k4.out.mono k.size)
            exact k.trans (k5.out.mono k.size)
          · have h5 := m1 rfl rfl rfl
            have h6 := m2 rfl rfl rfl
            obtain rfl : T = S := by omega
            clear m1 m2 h5 h6
            go_enter Try.func6, Try.ntmps6
            go_wp2_with fail
            refine (hawk.out _).mono ?_; rintro e w1 ⟨rfl, k1⟩
            replace k1 := Lib.hid k1
            go_wp2_with fail
            refine (hF.out _).mono ?_; rintro e w2 ⟨rfl, k2⟩
            replace k2 := Lib.hid k2
            go_wp2_with fail
            refine (hG.out _).mono ?_; rintro e w3 ⟨rfl, k3⟩
            replace k3 := Lib.hid k3
            go_wp2_with fail
            refine (hA.out _).mono ?_; rintro e w4 ⟨rfl, k4⟩
            replace k4 := Lib.hid k4
            go_wp2_with fail
            refine (hB.out _).mono ?_; rintro e w5 ⟨rfl, k5⟩
            replace k5 := Lib.hid k5
            go_wp2_with fail
            go_ret
            refine ⟨by first | rfl | simp, ?_⟩
            have k := k1.out
            replace k := k.trans (k2.out.mono k.size)
            replace k := k.trans (k3.out.mono k.size)
            replace k := k.trans (k4.out.mono k.size)
            exact k.trans (k5.out.mono k.size)
      · have hD : (D == 0) = false := by simpa using cD
        replace cD := Lib.hid cD
        clear m1 m2
        go_enter Try.func6, Try.ntmps6
        go_wp2_with fail
        refine (hawk.out _).mono ?_; rintro e w1 ⟨rfl, k1⟩
        replace k1 := Lib.hid k1
        go_wp2_with fail
        refine (hF.out _).mono ?_; rintro e w2 ⟨rfl, k2⟩
        replace k2 := Lib.hid k2
        go_wp2_with fail
        refine (hG.out _).mono ?_; rintro e w3 ⟨rfl, k3⟩
        replace k3 := Lib.hid k3
        go_wp2_with fail
        refine (hA.out _).mono ?_; rintro e w4 ⟨rfl, k4⟩
        replace k4 := Lib.hid k4
        go_wp2_with fail
        refine (hB.out _).mono ?_; rintro e w5 ⟨rfl, k5⟩
        replace k5 := Lib.hid k5
        go_wp2_with fail
        go_ret
        refine ⟨by first | rfl | simp, ?_⟩
        have k := k1.out
        replace k := k.trans (k2.out.mono k.size)
        replace k := k.trans (k3.out.mono k.size)
        replace k := k.trans (k4.out.mono k.size)
        exact k.trans (k5.out.mono k.size)
    · have hE : (E == 0) = false := by simpa using cE
      replace cE := Lib.hid cE
      clear m1 m2
      go_enter Try.func6, Try.ntmps6
      go_wp2_with fail
      refine (hawk.out _).mono ?_; rintro e w1 ⟨rfl, k1⟩
      replace k1 := Lib.hid k1
      go_wp2_with fail
      refine (hF.out _).mono ?_; rintro e w2 ⟨rfl, k2⟩
      replace k2 := Lib.hid k2
      go_wp2_with fail
      refine (hG.out _).mono ?_; rintro e w3 ⟨rfl, k3⟩
      replace k3 := Lib.hid k3
      go_wp2_with fail
      refine (hA.out _).mono ?_; rintro e w4 ⟨rfl, k4⟩
      replace k4 := Lib.hid k4
      go_wp2_with fail
      refine (hB.out _).mono ?_; rintro e w5 ⟨rfl, k5⟩
      replace k5 := Lib.hid k5
      go_wp2_with fail
      go_ret
      refine ⟨by first | rfl | simp, ?_⟩
      have k := k1.out
      replace k := k.trans (k2.out.mono k.size)
      replace k := k.trans (k3.out.mono k.size)
      replace k := k.trans (k4.out.mono k.size)
      exact k.trans (k5.out.mono k.size)
  · have hc : b < a := of_decide_eq_true hC
    rw [if_pos hc] at hA hB
    clear hc
    replace hawk := Lib.hid hawk
    replace hA := Lib.hid hA
    replace hB := Lib.hid hB
    replace hF := Lib.hid hF
    replace hG := Lib.hid hG
    by_cases cE : E = 0
    · subst cE
      by_cases cD : D = 0
      · subst cD
        cases L1
        · cases L2
          · clear m1 m2
            go_enter Try.func6, Try.ntmps6
            go_wp2_with fail
            refine (hawk.out _).mono ?_; rintro e w1 ⟨rfl, k1⟩
            replace k1 := Lib.hid k1
            go_wp2_with fail
            refine (hF.out _).mono ?_; rintro e w2 ⟨rfl, k2⟩
            replace k2 := Lib.hid k2
            go_wp2_with fail
            refine (hG.out _).mono ?_; rintro e w3 ⟨rfl, k3⟩
            replace k3 := Lib.hid k3
            go_wp2_with fail
            refine (hA.out _).mono ?_; rintro e w4 ⟨rfl, k4⟩
            replace k4 := Lib.hid k4
            go_wp2_with fail
            refine (hB.out _).mono ?_; rintro e w5 ⟨rfl, k5⟩
            replace k5 := Lib.hid k5
            go_wp2_with fail
            go_ret
            refine ⟨by first | rfl | simp, ?_⟩
            have k := k1.out
            replace k := k.trans (k2.out.mono k.size)
            replace k := k.trans (k3.out.mono k.size)
            replace k := k.trans (k4.out.mono k.size)
            exact k.trans (k5.out.mono k.size)
          · have h5 := m2 rfl rfl rfl
            have h6 : decide (T < S) = false := decide_eq_false (by omega)
            clear m1 m2
            go_enter Try.func6, Try.ntmps6
            go_wp2_with fail
            refine (hawk.out _).mono ?_; rintro e w1 ⟨rfl, k1⟩
            replace k1 := Lib.hid k1
            go_wp2_with fail
            refine (hF.out _).mono ?_; rintro e w2 ⟨rfl, k2⟩
            replace k2 := Lib.hid k2
            go_wp2_with fail
            refine (hG.out _).mono ?_; rintro e w3 ⟨rfl, k3⟩
            replace k3 := Lib.hid k3
            go_wp2_with fail
            refine (hA.out _).mono ?_; rintro e w4 ⟨rfl, k4⟩
            replace k4 := Lib.hid k4
            go_wp2_with fail
            refine (hB.out _).mono ?_; rintro e w5 ⟨rfl, k5⟩
            replace k5 := Lib.hid k5
            go_wp2_with fail
            go_ret
            refine ⟨by first | rfl | simp, ?_⟩
            have k := k1.out
            replace k := k.trans (k2.out.mono k.size)
            replace k := k.trans (k3.out.mono k.size)
            replace k := k.trans (k4.out.mono k.size)
            exact k.trans (k5.out.mono k.size)
        · cases L2
          · have h5 := m1 rfl rfl rfl
            have h6 : decide (S < T) = false := decide_eq_false (by omega)
            clear m1 m2
            go_enter Try.func6, Try.ntmps6
            go_wp2_with fail
            refine (hawk.out _).mono ?_; rintro e w1 ⟨rfl, k1⟩
            replace k1 := Lib.hid k1
            go_wp2_with fail
            refine (hF.out _).mono ?_; rintro e w2 ⟨rfl, k2⟩
            replace k2 := Lib.hid k2
            go_wp2_with fail
            refine (hG.out _).mono ?_; rintro e w3 ⟨rfl, k3⟩
            replace k3 := Lib.hid k3
            go_wp2_with fail
            refine (hA.out _).mono ?_; rintro e w4 ⟨rfl, k4⟩
            replace k4 := Lib.hid k4
            go_wp2_with fail
            refine (hB.out _).mono ?_; rintro e w5 ⟨rfl, k5⟩
            replace k5 := Lib.hid k5
            go_wp2_with fail
            go_ret
            refine ⟨by first | rfl | simp, ?_⟩
            have k := k1.out
            replace k := k.trans (k2.out.mono k.size)
            replace k := k.trans (k3.out.mono k.size)
            replace k := k.trans (k4.out.mono k.size)
            exact k.trans (k5.out.mono k.size)
          · have h5 := m1 rfl rfl rfl
            have h6 := m2 rfl rfl rfl
            obtain rfl : T = S := by omega
            clear m1 m2 h5 h6
            go_enter Try.func6, Try.ntmps6
            go_wp2_with fail
            refine (hawk.out _).mono ?_; rintro e w1 ⟨rfl, k1⟩
            replace k1 := Lib.hid k1
            go_wp2_with fail
            refine (hF.out _).mono ?_; rintro e w2 ⟨rfl, k2⟩
            replace k2 := Lib.hid k2
            go_wp2_with fail
            refine (hG.out _).mono ?_; rintro e w3 ⟨rfl, k3⟩
            replace k3 := Lib.hid k3
            go_wp2_with fail
            refine (hA.out _).mono ?_; rintro e w4 ⟨rfl, k4⟩
            replace k4 := Lib.hid k4
            go_wp2_with fail
            refine (hB.out _).mono ?_; rintro e w5 ⟨rfl, k5⟩
            replace k5 := Lib.hid k5
            go_wp2_with fail
            go_ret
            refine ⟨by first | rfl | simp, ?_⟩
            have k := k1.out
            replace k := k.trans (k2.out.mono k.size)
            replace k := k.trans (k3.out.mono k.size)
            replace k := k.trans (k4.out.mono k.size)
            exact k.trans (k5.out.mono k.size)
      · have hD : (D == 0) = false := by simpa using cD
        replace cD := Lib.hid cD
        clear m1 m2
        go_enter Try.func6, Try.ntmps6
        go_wp2_with fail
        refine (hawk.out _).mono ?_; rintro e w1 ⟨rfl, k1⟩
        replace k1 := Lib.hid k1
        go_wp2_with fail
        refine (hF.out _).mono ?_; rintro e w2 ⟨rfl, k2⟩
        replace k2 := Lib.hid k2
        go_wp2_with fail
        refine (hG.out _).mono ?_; rintro e w3 ⟨rfl, k3⟩
        replace k3 := Lib.hid k3
        go_wp2_with fail
        refine (hA.out _).mono ?_; rintro e w4 ⟨rfl, k4⟩
        replace k4 := Lib.hid k4
        go_wp2_with fail
        refine (hB.out _).mono ?_; rintro e w5 ⟨rfl, k5⟩
        replace k5 := Lib.hid k5
        go_wp2_with fail
        go_ret
        refine ⟨by first | rfl | simp, ?_⟩
        have k := k1.out
        replace k := k.trans (k2.out.mono k.size)
        replace k := k.trans (k3.out.mono k.size)
        replace k := k.trans (k4.out.mono k.size)
        exact k.trans (k5.out.mono k.size)
    · have hE : (E == 0) = false := by simpa using cE
      replace cE := Lib.hid cE
      clear m1 m2
      go_enter Try.func6, Try.ntmps6
      go_wp2_with fail
      refine (hawk.out _).mono ?_; rintro e w1 ⟨rfl, k1⟩
      replace k1 := Lib.hid k1
      go_wp2_with fail
      refine (hF.out _).mono ?_; rintro e w2 ⟨rfl, k2⟩
      replace k2 := Lib.hid k2
      go_wp2_with fail
      refine (hG.out _).mono ?_; rintro e w3 ⟨rfl, k3⟩
      replace k3 := Lib.hid k3
      go_wp2_with fail
      refine (hA.out _).mono ?_; rintro e w4 ⟨rfl, k4⟩
      replace k4 := Lib.hid k4
      go_wp2_with fail
      refine (hB.out _).mono ?_; rintro e w5 ⟨rfl, k5⟩
      replace k5 := Lib.hid k5
      go_wp2_with fail
      go_ret
      refine ⟨by first | rfl | simp, ?_⟩
      have k := k1.out
      replace k := k.trans (k2.out.mono k.size)
      replace k := k.trans (k3.out.mono k.size)
      replace k := k.trans (k4.out.mono k.size)
      exact k.trans (k5.out.mono k.size)
theorem rise_row (a b x y : Int) (h1 : (Lit.int .i64 a).wf = true) (h2 : (Lit.int .i64 b).wf = true) (h3 : (Lit.int .u64 x).wf = true) (h4 : (Lit.int .u64 y).wf = true) (w : World) :
    Calls Try.prog 6 #[.int .i64 a, .int .i64 b, .int .u64 x, .int .u64 y] w fun e w' => e = .returned (.bool true) ∧ Below w.heap.size w w' :=
  rise_walk a b x y (wf_i64' h1).1 (wf_i64' h1).2 (wf_i64' h2).1 (wf_i64' h2).2 (wf_u64' h3).1 (wf_u64' h3).2 (wf_u64' h4).1 (wf_u64' h4).2 w
end Go.Proofs.Ytkbpjegmfhmhbaa
