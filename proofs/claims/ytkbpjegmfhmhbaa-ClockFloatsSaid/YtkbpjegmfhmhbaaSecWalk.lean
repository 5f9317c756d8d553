/- ClockSeconds and ClockRises: the walks, over the plain law. -/
import Derived.Test.YtkbpjegmfhmhbaaBackWalk
namespace Go.Proofs.Ytkbpjegmfhmhbaa
open Go.RowKit Go.Shelf
attribute [local go_sem] Oper.semAt_some

/-- To by one power alone: 2 to the power of j is what the time is times. -/
def toJ (n : Nat) : Nat := toK n - toC n
theorem toJ_facts {n : Nat} (h0 : n ≠ 0) (h : n < 18446744073709551616) :
    18 ≤ toJ n ∧ toJ n ≤ 82 ∧ toR n = (1074 - toJ n) * 4503599627370496 + toM n ∧ toM n = rq (n * 2 ^ toJ n) 1000000000 ∧ 4503599627370496000000000 ≤ n * 2 ^ toJ n ∧ n * 2 ^ toJ n < 9007199254740992000000000 := by
  obtain ⟨a1, a2⟩ := toK_bd h0 h
  obtain ⟨c1, c2, c3, c4⟩ := toC_bd h0 h
  have hj1 : toJ n + toC n = toK n := by unfold toJ; omega
  have hA : toA n = n * 2 ^ toJ n * 2 ^ toC n := by
    unfold toA
    rw [Nat.mul_assoc, ← Nat.pow_add, hj1]
  have hM : toM n = rq (n * 2 ^ toJ n) 1000000000 := by
    unfold toM
    rw [hA]
    exact rq_scale _ _ _ (Nat.two_pow_pos _)
  have hp := Nat.two_pow_pos (toC n)
  have d3 : 4503599627370496 * 2 ^ toC n * 1000000000 ≤ n * 2 ^ toJ n * 2 ^ toC n := by
    rw [← hA]
    rw [Nat.pow_add, Nat.mul_comm] at c3
    have c3' : 4503599627370496 * 2 ^ toC n ≤ toA n / 1000000000 := c3
    exact (Nat.le_div_iff_mul_le (by decide)).1 c3'
  have d4 : n * 2 ^ toJ n * 2 ^ toC n < 9007199254740992 * 2 ^ toC n * 1000000000 := by
    rw [← hA]
    rw [Nat.pow_add, Nat.mul_comm] at c4
    have c4' : toA n / 1000000000 < 9007199254740992 * 2 ^ toC n := c4
    exact (Nat.div_lt_iff_lt_mul (by decide)).1 c4'
  rw [Nat.mul_right_comm 4503599627370496] at d3
  rw [Nat.mul_right_comm 9007199254740992] at d4
  refine ⟨by omega, by omega, ?_, hM, Nat.le_of_mul_le_mul_right d3 hp, Nat.lt_of_mul_lt_mul_right d4⟩
  unfold toR
  rw [show 1074 + toC n - toK n = 1074 - toJ n by omega]

theorem toR_mono {n n' : Nat} (h0 : n ≠ 0) (h : n ≤ n') (hl : n' < 18446744073709551616) : toR n ≤ toR n' := by
  obtain ⟨a1, a2, a3, a4, a5, a6⟩ := toJ_facts h0 (by omega)
  obtain ⟨b1, b2, b3, b4, b5, b6⟩ := toJ_facts (n := n') (by omega) hl
  obtain ⟨m1, m2⟩ := toM_bd h0 (by omega)
  obtain ⟨m3, m4⟩ := toM_bd (n := n') (by omega) hl
  rw [a3, b3]
  rcases Nat.lt_trichotomy (toJ n) (toJ n') with hj | hj | hj
  · exfalso
    have h2 : 2 ^ (toJ n + 1) ≤ 2 ^ toJ n' := two_pow_le hj
    have h3 : n * 2 ^ (toJ n + 1) ≤ n' * 2 ^ toJ n' := Nat.mul_le_mul h h2
    rw [Nat.pow_succ, ← Nat.mul_assoc] at h3
    clear a3 a4 b3 b4 m1 m2 m3 m4 hl h h2
    obtain ⟨x, hx⟩ : ∃ x, n * 2 ^ toJ n = x := ⟨_, rfl⟩
    obtain ⟨y, hy⟩ : ∃ y, n' * 2 ^ toJ n' = y := ⟨_, rfl⟩
    rw [hx] at a5 h3
    rw [hy] at b6 h3
    clear hx hy
    omega
  · rw [a4, b4, hj]
    exact Nat.add_le_add_left (rq_mono _ _ _ (by decide) (Nat.mul_le_mul_right _ h)) _
  · clear a3 a4 a5 a6 b3 b4 b5 b6 hl h
    generalize toM n = m at *
    generalize toM n' = m' at *
    have h4 : 1074 - toJ n + 1 ≤ 1074 - toJ n' := by omega
    have h5 := Nat.mul_le_mul_right 4503599627370496 h4
    rw [Nat.add_mul] at h5
    obtain ⟨x, hx⟩ : ∃ x, (1074 - toJ n) * 4503599627370496 = x := ⟨_, rfl⟩
    obtain ⟨y, hy⟩ : ∃ y, (1074 - toJ n') * 4503599627370496 = y := ⟨_, rfl⟩
    rw [hx, hy] at h5 ⊢
    clear hx hy h4
    omega

theorem sv_toF (ns : Int) (hl : ns.natAbs < 18446744073709551616) : nanB (toF ns) = false ∧ sv (toF ns) = if ns = 0 then 0 else if ns < 0 then -(toR ns.natAbs : Int) else (toR ns.natAbs : Int) := by
  by_cases h0 : ns = 0
  · subst h0
    rw [toF_zero]
    exact ⟨by decide, by decide⟩
  · obtain ⟨q1, q2, q3, q4⟩ := toF_parts ns h0 hl
    refine ⟨q4, ?_⟩
    unfold sv
    rw [q3, q2, if_neg h0]
    by_cases c : ns < 0
    · rw [decide_eq_true c, if_pos rfl, if_pos c]
    · rw [decide_eq_false c, if_neg Bool.false_ne_true, if_neg c]

theorem toF_rises (a b : Int) (h : a ≤ b) (h1 : -9223372036854775808 ≤ a) (h2 : b ≤ 9223372036854775807) : leF (toF a) (toF b) = true := by
  obtain ⟨p1, p2⟩ := sv_toF a (by omega)
  obtain ⟨q1, q2⟩ := sv_toF b (by omega)
  unfold leF
  rw [p1, q1, p2, q2]
  have key : (if a = 0 then (0 : Int) else if a < 0 then -(toR a.natAbs : Int) else (toR a.natAbs : Int)) ≤ (if b = 0 then 0 else if b < 0 then -(toR b.natAbs : Int) else (toR b.natAbs : Int)) := by
    by_cases ca : a < 0
    · by_cases cb : b < 0
      · have hm := toR_mono (n := b.natAbs) (n' := a.natAbs) (by omega) (by omega) (by omega)
        rw [if_neg (by omega), if_pos ca, if_neg (by omega), if_pos cb]
        generalize toR b.natAbs = y at *
        generalize toR a.natAbs = x at *
        clear h1 h2 p2 q2 ca cb
        omega
      · rw [if_neg (by omega), if_pos ca]
        generalize toR b.natAbs = y at *
        generalize toR a.natAbs = x at *
        clear h1 h2 p2 q2
        split
        · omega
        · first | omega | (split <;> omega)
    · by_cases ca0 : a = 0
      · rw [if_pos ca0]
        generalize toR b.natAbs = y at *
        clear h1 h2 p2 q2
        split
        · omega
        · first | omega | (split <;> omega)
      · have hm := toR_mono (n := a.natAbs) (n' := b.natAbs) (by omega) (by omega) (by omega)
        rw [if_neg ca0, if_neg ca, if_neg (by omega), if_neg (by omega)]
        generalize toR b.natAbs = y at *
        generalize toR a.natAbs = x at *
        clear h1 h2 p2 q2
        omega
  rw [decide_eq_true key]
  rfl

theorem fromT_rises (f g : Nat) (hf : fromE f = 0) (hg : fromE g = 0) (h : leF f g = true) : fromT f ≤ fromT g := by
  unfold leF at h
  cases h1 : nanB f
  · cases h2 : nanB g
    · rw [h1, h2] at h
      have hs : sv f ≤ sv g := by simpa using h
      clear h
      unfold fromE at hf hg
      rw [h1, if_neg Bool.false_ne_true] at hf
      rw [h2, if_neg Bool.false_ne_true] at hg
      have t1 : ¬ topR ≤ rung f := fun c => by rw [if_pos c] at hf; omega
      have t2 : ¬ topR ≤ rung g := fun c => by rw [if_pos c] at hg; omega
      unfold fromT
      rw [h1, h2, if_neg Bool.false_ne_true, if_neg Bool.false_ne_true, if_neg t1, if_neg t2]
      clear hf hg t1 t2 h1 h2
      unfold sv at hs
      generalize rung f = r at *
      generalize rung g = s at *
      have hz := n0
      cases hnf : negB f <;> cases hng : negB g <;> rw [hnf, hng] at hs <;> simp only [Bool.false_eq_true, if_false, if_true] at hs ⊢
      · have := fromN_mono (show r ≤ s by omega)
        omega
      · have e1 : r = 0 := by omega
        have e2 : s = 0 := by omega
        rw [e1, e2, hz]; omega
      · omega
      · have := fromN_mono (show s ≤ r by omega)
        omega
    · rw [h2] at h; simp at h
  · rw [h1] at h; simp at h

theorem sec_num (n : Nat) (h0 : n ≠ 0) (h : n < 8589934592) :
    toR (n * 1000000000) = (1022 + n.log2) * 4503599627370496 + n * 2 ^ (52 - n.log2) ∧ fromN (toR (n * 1000000000)) = n * 1000000000 ∧ n.log2 ≤ 52 := by
  have hN0 : n * 1000000000 ≠ 0 := by omega
  have hNl : n * 1000000000 < 18446744073709551616 := by omega
  obtain ⟨a1, a2, a3, a4, a5, a6⟩ := toJ_facts hN0 hNl
  have hv := valN_toR hN0 hNl
  obtain ⟨k1, k2⟩ := toK_bd hN0 hNl
  obtain ⟨cc, _⟩ := toC_bd hN0 hNl
  have hPe : 1074 + toC (n * 1000000000) - toK (n * 1000000000) = 1074 - toJ (n * 1000000000) := by unfold toJ; omega
  rw [hPe] at hv
  clear hPe k1 k2 cc hNl hN0
  obtain ⟨j, hj⟩ : ∃ j, toJ (n * 1000000000) = j := ⟨_, rfl⟩
  rw [hj] at a1 a2 a3 a4 a5 a6 hv
  rw [Nat.mul_right_comm] at a4 a5 a6
  rw [rq_exact _ _ (by decide)] at a4
  have l1 : 2 ^ n.log2 ≤ n := Nat.log2_self_le h0
  have l2 : n < 2 ^ (n.log2 + 1) := Nat.lt_log2_self
  have lb : n.log2 < 33 := (Nat.log2_lt h0 (k := 33)).2 h
  obtain ⟨b, hb⟩ : ∃ b, n.log2 = b := ⟨_, rfl⟩
  rw [hb] at l1 l2 lb ⊢
  have e1 : 2 ^ b * 2 ^ j ≤ n * 2 ^ j := Nat.mul_le_mul_right _ l1
  have e2 : n * 2 ^ j < 2 ^ (b + 1) * 2 ^ j := Nat.mul_lt_mul_of_pos_right l2 (Nat.two_pow_pos _)
  rw [← Nat.pow_add] at e1 e2
  have hjb : j = 52 - b := by
    rcases Nat.lt_trichotomy (b + j) 52 with c | c | c
    · have h5 := two_pow_le (show b + 1 + j ≤ 52 by omega)
      have h6 : (2 : Nat) ^ 52 = 4503599627370496 := rfl
      rw [h6] at h5
      generalize 2 ^ (b + 1 + j) = X at *
      generalize n * 2 ^ j = Y at *
      clear a3 a4 hv h6 h l1 l2
      omega
    · omega
    · have h5 := two_pow_le (show 53 ≤ b + j by omega)
      have h6 : (2 : Nat) ^ 53 = 9007199254740992 := rfl
      rw [h6] at h5
      generalize 2 ^ (b + j) = X at *
      generalize n * 2 ^ j = Y at *
      clear a3 a4 hv h6 h l1 l2
      omega
  refine ⟨?_, ?_, by omega⟩
  · rw [a3, a4, hjb, show 1074 - (52 - b) = 1022 + b by omega]
  · unfold fromN
    rw [hv, a4, Nat.mul_assoc n, ← Nat.pow_add, show j + (1074 - j) = ex0 by rw [ex0_eq]; omega, Nat.mul_right_comm]
    exact rq_exact _ _ (Nat.two_pow_pos _)

theorem sec_law (n : Int) (h1 : -8589934592 < n) (h2 : n < 8589934592) :
    floatOfInt .f64 n = toF (n * 1000000000) ∧ toF (n * 1000000000) < 18446744073709551616 ∧ fromT (toF (n * 1000000000)) = n * 1000000000 ∧ fromE (toF (n * 1000000000)) = 0 := by
  have hna : (n * 1000000000).natAbs = n.natAbs * 1000000000 := by omega
  refine ⟨?_, from_of (n * 1000000000) _ hna (by omega) fun h0 => (sec_num n.natAbs (by omega) (by omega)).2.1⟩
  by_cases h0 : n = 0
  · subst h0; rfl
  · obtain ⟨s1, s2, s3⟩ := sec_num n.natAbs (by omega) (by omega)
    have e : floatOfInt .f64 n = Ieee.double.nearest (decide (n < 0)) n.natAbs 0 := rfl
    have hh := nearest_small (decide (n < 0)) n.natAbs n.natAbs.log2 (toR (n.natAbs * 1000000000)) (by omega) (Nat.log2_self_le (by omega)) Nat.lt_log2_self s3 s1
    have hT : toF (n * 1000000000) = if n < 0 then 9223372036854775808 + toR (n.natAbs * 1000000000) else toR (n.natAbs * 1000000000) := by
      unfold toF
      rw [if_neg (by omega), hna]
      clear s1 s2 s3 e hh
      generalize toR (n.natAbs * 1000000000) = r
      by_cases c : n < 0
      · rw [if_pos (by omega), if_pos c]
      · rw [if_neg (by omega), if_neg c]
    rw [e, hh, hT]
    by_cases c : n < 0
    · rw [decide_eq_true c, if_pos rfl, if_pos c]
    · rw [decide_eq_false c, if_neg Bool.false_ne_true, if_neg c]

set_option maxHeartbeats 8000000 in
theorem sec_walk (n : Int) (w : World) : Calls Try.prog 9 #[.int .i64 n] w fun e w' => e = .returned (.bool true) ∧ Below w.heap.size w w' := by
  have hawk := fun W => awake_any W
  replace hawk := Lib.hid hawk
  by_cases c1 : n ≤ -8589934592
  · go_enter Try.func9, Try.ntmps9
    go_wp2_with fail
    refine (hawk.out _).mono ?_; rintro e w1 ⟨rfl, k1⟩
    replace k1 := Lib.hid k1
    go_wp2_with fail
    go_ret
    exact ⟨rfl, k1.out⟩
  · by_cases c2 : 8589934592 ≤ n
    · go_enter Try.func9, Try.ntmps9
      go_wp2_with fail
      refine (hawk.out _).mono ?_; rintro e w1 ⟨rfl, k1⟩
      replace k1 := Lib.hid k1
      go_wp2_with fail
      go_ret
      exact ⟨rfl, k1.out⟩
    · have d1 : -8589934592 < n := by omega
      have d2 : n < 8589934592 := by omega
      obtain ⟨fl, b0, b1, b2⟩ := sec_law n d1 d2
      obtain ⟨p1, _⟩ := sv_toF (n * 1000000000) (by omega)
      have ht := fun W => toV (n * 1000000000) (by omega) (by omega) _ rfl W
      have hf := fun W => fb (toF (n * 1000000000)) b0 W
      rw [b1, b2] at hf
      obtain ⟨F, hF⟩ : ∃ F, toF (n * 1000000000) = F := ⟨_, rfl⟩
      rw [hF] at p1 ht hf fl
      have heq : (FloatKind.f64.format.order F F == some .eq) = true := by
        have h := order_eq F F
        rw [p1, cmp_def] at h
        show (Ieee.double.order F F == some .eq) = true
        rw [h]
        simp
      clear b0 b1 b2 p1 hF c1 c2
      replace ht := Lib.hid ht
      replace hf := Lib.hid hf
      go_enter Try.func9, Try.ntmps9
      go_wp2_with fail
      refine (hawk.out _).mono ?_; rintro e w1 ⟨rfl, k1⟩
      replace k1 := Lib.hid k1
      go_wp2_with fail
      refine (hf.out _).mono ?_; rintro e w2 ⟨rfl, k2⟩
      replace k2 := Lib.hid k2
      go_wp2_with fail
      refine (ht.out _).mono ?_; rintro e w3 ⟨rfl, k3⟩
      replace k3 := Lib.hid k3
      go_wp2_with fail
      go_ret
      refine ⟨by simp, ?_⟩
      have k := k1.out
      replace k := k.trans (k2.out.mono k.size)
      exact k.trans (k3.out.mono k.size)
end Go.Proofs.Ytkbpjegmfhmhbaa
