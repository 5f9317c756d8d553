/- ClockBack and ClockNear: the walks, over the plain law. -/
import Derived.Test.YtkbpjegmfhmhbaaSignWalk
namespace Go.Proofs.Ytkbpjegmfhmhbaa
open Go.RowKit Go.Shelf
attribute [local go_sem] Oper.semAt_some

theorem two_pow_split {a b c : Nat} (h : a = b + c) : 2 ^ a = 2 ^ b * 2 ^ c := by rw [h, Nat.pow_add]

theorem valN_toR {n : Nat} (h0 : n ≠ 0) (h : n < 18446744073709551616) : valN (toR n) = toM n * 2 ^ (1074 + toC n - toK n) := by
  obtain ⟨a1, a2⟩ := toK_bd h0 h
  obtain ⟨b1, b2⟩ := toM_bd h0 h
  unfold toR
  obtain ⟨P, hP⟩ : ∃ P, 1074 + toC n - toK n = P := ⟨_, rfl⟩
  rw [hP]
  clear hP
  obtain ⟨m, hm⟩ : ∃ m, toM n = m := ⟨_, rfl⟩
  rw [hm] at b1 b2 ⊢
  unfold valN
  by_cases h3 : m < 9007199254740992
  · obtain ⟨e1, e2⟩ := mag_exp (P + 1) (m - 4503599627370496) (by omega)
    rw [show (P + 1) * 4503599627370496 + (m - 4503599627370496) = P * 4503599627370496 + m by omega] at e1 e2
    rw [if_neg (by omega)] at e1
    rw [e1, e2, show 4503599627370496 + (m - 4503599627370496) = m by omega]
    rfl
  · obtain ⟨e1, e2⟩ := mag_exp (P + 2) 0 (by omega)
    rw [show (P + 2) * 4503599627370496 + 0 = P * 4503599627370496 + m by omega] at e1 e2
    rw [if_neg (by omega)] at e1
    rw [e1, e2, show m = 4503599627370496 * 2 by omega, show P + 2 - 1 = P + 1 from rfl, Nat.pow_succ, Nat.add_zero]
    rw [Nat.mul_assoc, Nat.mul_comm 2 (2 ^ P)]

/-- The error of To, at most half of a last place: then From is whole again. -/
theorem back_num {n : Nat} (h0 : n ≠ 0) (h : n < 4503599627370496) : fromN (toR n) = n := by
  have hl : n < 18446744073709551616 := by omega
  obtain ⟨a1, a2⟩ := toK_bd h0 hl
  obtain ⟨c1, c2, c3, c4⟩ := toC_bd h0 hl
  obtain ⟨b1, b2⟩ := toA_bd h0 hl
  have hlog : n.log2 ≤ 51 := by
    have := (Nat.log2_lt h0 (k := 52)).2 h
    omega
  have hk : 33 ≤ toK n := by unfold toK; omega
  obtain ⟨P, hP⟩ : ∃ P, 1074 + toC n - toK n = P := ⟨_, rfl⟩
  obtain ⟨j, hj⟩ : ∃ j, toK n - toC n = j := ⟨_, rfl⟩
  have hPj : P + j = ex0 := by rw [ex0_eq]; omega
  have hj30 : 30 ≤ j := by omega
  have hA : toA n = n * 2 ^ j * 2 ^ toC n := by
    unfold toA
    rw [Nat.mul_assoc, ← Nat.pow_add, show j + toC n = toK n by omega]
  have hM : toM n = rq (n * 2 ^ j) 1000000000 := by
    unfold toM
    rw [hA]
    exact rq_scale _ _ _ (Nat.two_pow_pos _)
  obtain ⟨s1, s2⟩ := rq_spec (n * 2 ^ j) 1000000000 (by decide)
  rw [← hM] at s1 s2
  unfold fromN
  rw [valN_toR h0 hl, hP, ← hPj, Nat.pow_add, Nat.mul_right_comm, Nat.mul_comm (2 ^ P) (2 ^ j)]
  rw [rq_scale _ _ _ (Nat.two_pow_pos _)]
  have hp : 1073741824 ≤ 2 ^ j := by
    have := two_pow_le hj30
    exact this
  generalize toM n = m at *
  clear hM hA hPj hP hj hj30 b1 b2 c1 c2 c3 c4 a1 a2 hlog hk h hl h0
  generalize 2 ^ j = J at *
  apply rq_near
  · omega
  · omega
  · omega

theorem toF_zero : toF 0 = 0 := rfl
/-- The parts of a time's float. -/
theorem toF_parts (ns : Int) (h0 : ns ≠ 0) (hl : ns.natAbs < 18446744073709551616) : toF ns < 18446744073709551616 ∧ rung (toF ns) = toR ns.natAbs ∧ negB (toF ns) = decide (ns < 0) ∧ nanB (toF ns) = false := by
  obtain ⟨hr, _⟩ := toR_eq (n := ns.natAbs) (by omega) hl
  unfold toF
  rw [if_neg h0]
  generalize toR ns.natAbs = r at *
  have hr2 : r < 9218868437227405312 := hr
  have hrr : ∀ g : Nat, (g = r ∨ g = 9223372036854775808 + r) → rung g = r := fun g hg => by unfold rung; omega
  have hx : (if ns < 0 then 9223372036854775808 + r else r) = r ∨ (if ns < 0 then 9223372036854775808 + r else r) = 9223372036854775808 + r := by split <;> omega
  have hlt : (if ns < 0 then 9223372036854775808 + r else r) < 18446744073709551616 := by split <;> omega
  refine ⟨hlt, hrr _ hx, ?_, ?_⟩
  · rw [neg_iff _ hlt]
    split
    · rename_i c; rw [decide_eq_true c, decide_eq_true (by omega)]
    · rename_i c; rw [decide_eq_false c, decide_eq_false (by omega)]
  · unfold nanB; rw [hrr _ hx]
    exact decide_eq_false (by omega)

theorem from_of (ns : Int) (n : Nat) (hn : ns.natAbs = n) (hl : n < 8589934592000000000) (hb : n ≠ 0 → fromN (toR n) = n) : toF ns < 18446744073709551616 ∧ fromT (toF ns) = ns ∧ fromE (toF ns) = 0 := by
  by_cases h0 : ns = 0
  · subst h0
    rw [toF_zero]
    refine ⟨by decide, ?_, rfl⟩
    have h : fromT 0 = (fromN 0 : Int) := rfl
    rw [h, n0]; rfl
  · obtain ⟨q1, q2, q3, q4⟩ := toF_parts ns h0 (by omega)
    have hb := hb (by omega)
    rw [hn] at q2
    have ht : ¬ topR ≤ rung (toF ns) := fun c => by
      have h1 := fromN_mono c
      rw [fromN_top, q2, hb] at h1
      omega
    refine ⟨q1, ?_, ?_⟩
    · unfold fromT
      rw [q4, q3, if_neg Bool.false_ne_true, if_neg ht, q2, hb]
      by_cases c : ns < 0
      · rw [decide_eq_true c, if_pos rfl]; omega
      · rw [decide_eq_false c, if_neg Bool.false_ne_true]; omega
    · unfold fromE
      rw [q4, if_neg Bool.false_ne_true, if_neg ht]
theorem back_law (ns : Int) (h1 : -4503599627370496 < ns) (h2 : ns < 4503599627370496) : toF ns < 18446744073709551616 ∧ fromT (toF ns) = ns ∧ fromE (toF ns) = 0 :=
  from_of ns ns.natAbs rfl (by omega) fun h0 => back_num h0 (by omega)

set_option maxHeartbeats 8000000 in
theorem back_walk (ns : Int) (w : World) : Calls Try.prog 7 #[.int .i64 ns] w fun e w' => e = .returned (.bool true) ∧ Below w.heap.size w w' := by
  have hawk := fun W => awake_any W
  replace hawk := Lib.hid hawk
  by_cases c1 : ns ≤ -4503599627370496
  · go_enter Try.func7, Try.ntmps7
    go_wp2_with fail
    refine (hawk.out _).mono ?_; rintro e w1 ⟨rfl, k1⟩
    replace k1 := Lib.hid k1
    go_wp2_with fail
    go_ret
    exact ⟨rfl, k1.out⟩
  · by_cases c2 : 4503599627370496 ≤ ns
    · go_enter Try.func7, Try.ntmps7
      go_wp2_with fail
      refine (hawk.out _).mono ?_; rintro e w1 ⟨rfl, k1⟩
      replace k1 := Lib.hid k1
      go_wp2_with fail
      go_ret
      exact ⟨rfl, k1.out⟩
    · obtain ⟨b0, b1, b2⟩ := back_law ns (by omega) (by omega)
      have ht := fun W => toV ns (by omega) (by omega) _ rfl W
      have hf := fun W => fb (toF ns) b0 W
      rw [b1, b2] at hf
      generalize toF ns = F at *
      clear b0 b1 b2
      replace ht := Lib.hid ht
      replace hf := Lib.hid hf
      have d1 : -4503599627370496 < ns := by omega
      have d2 : ns < 4503599627370496 := by omega
      go_enter Try.func7, Try.ntmps7
      go_wp2_with fail
      refine (hawk.out _).mono ?_; rintro e w1 ⟨rfl, k1⟩
      replace k1 := Lib.hid k1
      go_wp2_with fail
      refine (ht.out _).mono ?_; rintro e w2 ⟨rfl, k2⟩
      replace k2 := Lib.hid k2
      go_wp2_with fail
      refine (hf.out _).mono ?_; rintro e w3 ⟨rfl, k3⟩
      replace k3 := Lib.hid k3
      go_wp2_with fail
      go_ret
      refine ⟨by simp, ?_⟩
      have k := k1.out
      replace k := k.trans (k2.out.mono k.size)
      exact k.trans (k3.out.mono k.size)

set_option maxHeartbeats 8000000 in
theorem near_walk (x : Int) (h0 : 0 ≤ x) (h1 : x < 18446744073709551616) (w : World) : Calls Try.prog 10 #[.int .u64 x] w fun e w' => e = .returned (.bool true) ∧ Below w.heap.size w w' := by
  obtain ⟨f, hf⟩ : ∃ f, x.toNat = f := ⟨_, rfl⟩
  have hlt : f < 18446744073709551616 := by omega
  have hfb : ∀ W, (callFunc 13 #[.int .u64 x]).run Try.prog W = .ok (.value (.float .f64 f)) W := fun W => by rw [run_frombits, hf]
  have ha := fun W => fb f hlt W
  obtain ⟨bd1, bd2⟩ := fromT_bd f
  generalize fromT f = T at *
  generalize fromE f = E at *
  clear hf hlt h0 h1
  have hawk := fun W => awake_any W
  replace hawk := Lib.hid hawk
  replace ha := Lib.hid ha
  by_cases cE : E = 0
  · subst cE
    by_cases c1 : 4503599627370496 ≤ T
    · go_enter Try.func10, Try.ntmps10
      go_wp2_with fail
      refine (hawk.out _).mono ?_; rintro e w1 ⟨rfl, k1⟩
      replace k1 := Lib.hid k1
      go_wp2_with fail
      refine (ha.out _).mono ?_; rintro e w2 ⟨rfl, k2⟩
      replace k2 := Lib.hid k2
      go_wp2_with fail
      go_ret
      exact ⟨rfl, k1.out.trans (k2.out.mono k1.out.size)⟩
    · by_cases c2 : T ≤ -4503599627370496
      · go_enter Try.func10, Try.ntmps10
        go_wp2_with fail
        refine (hawk.out _).mono ?_; rintro e w1 ⟨rfl, k1⟩
        replace k1 := Lib.hid k1
        go_wp2_with fail
        refine (ha.out _).mono ?_; rintro e w2 ⟨rfl, k2⟩
        replace k2 := Lib.hid k2
        go_wp2_with fail
        go_ret
        exact ⟨rfl, k1.out.trans (k2.out.mono k1.out.size)⟩
      · obtain ⟨b0, b1, b2⟩ := back_law T (by omega) (by omega)
        have ht := fun W => toV T (by omega) (by omega) _ rfl W
        have hg := fun W => fb (toF T) b0 W
        rw [b1, b2] at hg
        generalize toF T = F at *
        clear b0 b1 b2
        replace ht := Lib.hid ht
        replace hg := Lib.hid hg
        have d1 : -4503599627370496 < T := by omega
        have d2 : T < 4503599627370496 := by omega
        go_enter Try.func10, Try.ntmps10
        go_wp2_with fail
        refine (hawk.out _).mono ?_; rintro e w1 ⟨rfl, k1⟩
        replace k1 := Lib.hid k1
        go_wp2_with fail
        refine (ha.out _).mono ?_; rintro e w2 ⟨rfl, k2⟩
        replace k2 := Lib.hid k2
        go_wp2_with fail
        refine (ht.out _).mono ?_; rintro e w3 ⟨rfl, k3⟩
        replace k3 := Lib.hid k3
        go_wp2_with fail
        refine (hg.out _).mono ?_; rintro e w4 ⟨rfl, k4⟩
        replace k4 := Lib.hid k4
        go_wp2_with fail
        go_ret
        refine ⟨by simp, ?_⟩
        have k := k1.out
        replace k := k.trans (k2.out.mono k.size)
        replace k := k.trans (k3.out.mono k.size)
        exact k.trans (k4.out.mono k.size)
  · have hE : (E != 0) = true := by simpa using cE
    replace cE := Lib.hid cE
    go_enter Try.func10, Try.ntmps10
    go_wp2_with fail
    refine (hawk.out _).mono ?_; rintro e w1 ⟨rfl, k1⟩
    replace k1 := Lib.hid k1
    go_wp2_with fail
    refine (ha.out _).mono ?_; rintro e w2 ⟨rfl, k2⟩
    replace k2 := Lib.hid k2
    go_wp2_with fail
    go_ret
    exact ⟨rfl, k1.out.trans (k2.out.mono k1.out.size)⟩
theorem near_row (x : Int) (h : (Lit.int .u64 x).wf = true) (w : World) : Calls Try.prog 10 #[.int .u64 x] w fun e w' => e = .returned (.bool true) ∧ Below w.heap.size w w' :=
  near_walk x (wf_u64' h).1 (wf_u64' h).2 w
end Go.Proofs.Ytkbpjegmfhmhbaa
