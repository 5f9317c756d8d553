/- ClockOrders: the walk. -/
import Derived.Test.YtkbpjegmfhmhbaaSignWalk
namespace Go.Proofs.Ytkbpjegmfhmhbaa
open Go.RowKit Go.Shelf
attribute [local go_sem] Oper.semAt_some

/-- A number whose order is Compare's. -/
def kV (f : Nat) : Int := if nanB f then 18446744073709551615 else if negB f then 18446744073709551615 - (f : Int) else (f : Int) + 9223372036854775808

theorem neg_lt (f : Nat) (hf : f < 18446744073709551616) (c : ¬ negB f = true) : f < 9223372036854775808 := by
  rw [neg_iff f hf, decide_eq_true_iff] at c
  omega
theorem neg_ge (f : Nat) (hf : f < 18446744073709551616) (c : negB f = true) : 9223372036854775808 ≤ f := by
  rw [neg_iff f hf, decide_eq_true_iff] at c
  exact c
theorem kV_bd (f : Nat) (hf : f < 18446744073709551616) : 0 ≤ kV f ∧ kV f ≤ 18446744073709551615 := by
  unfold kV
  have h := neg_iff f hf
  split
  · omega
  · split
    · rename_i c; have c := neg_ge f hf c; omega
    · rename_i c; have c := neg_lt f hf c; omega
theorem none_any (f : Nat) (w : World) : Calls Try.prog 34 #[.float .f64 f] w fun e w' => e = .returned (.bool (nanB f)) ∧ w' = w := by
  have h : (FloatKind.f64.format.order f f != some .eq) = nanB f := eq_self f
  go_enter Try.func34, Try.ntmps34
  go_wp2_with fail
  go_ret
  exact ⟨rfl, rfl⟩
theorem run_not (f : Nat) (hf : f < 18446744073709551616) : bits .xor .u64 IntKind.u64.max (f : Int) = 18446744073709551615 - (f : Int) := by
  have h := u64_xor_nat 18446744073709551615 f (by decide) hf
  have e : (18446744073709551615 ^^^ f : Nat) = 18446744073709551615 - f := by
    have h1 : (BitVec.allOnes 64 ^^^ BitVec.ofNat 64 f).toNat = 18446744073709551615 ^^^ f := by
      rw [BitVec.toNat_xor, BitVec.toNat_allOnes, BitVec.toNat_ofNat, Nat.mod_eq_of_lt hf]
    rw [← h1, BitVec.allOnes_xor, BitVec.toNat_not, BitVec.toNat_ofNat, Nat.mod_eq_of_lt hf]
  rw [e] at h
  have m : IntKind.u64.max = ((18446744073709551615 : Nat) : Int) := rfl
  rw [m, h]
  omega
theorem key_any (f : Nat) (hf : f < 18446744073709551616) (w : World) : Calls Try.prog 49 #[.float .f64 f] w fun e w' => e = .returned (.int .u64 (kV f)) ∧ w' = w := by
  have h1 := fun w => run_bits f w
  have hn := fun W => none_any f W
  have hng := neg_iff f hf
  unfold kV
  generalize nanB f = A at *
  cases A
  · by_cases c : 9223372036854775808 ≤ f
    · rw [hng, decide_eq_true c, if_neg Bool.false_ne_true, if_pos rfl]
      have c2 : decide ((9223372036854775808 : Int) ≤ (f : Int)) = true := decide_eq_true (by omega)
      obtain ⟨Y, hY⟩ : ∃ Y, 18446744073709551615 - (f : Int) = Y := ⟨_, rfl⟩
      have hx := run_not f hf
      rw [hY] at hx ⊢
      clear hng c hf hY
      generalize (f : Int) = X at *
      replace hx := Lib.hid hx
      go_enter Try.func49, Try.ntmps49
      go_wp2_with fail
      refine (hn _).mono ?_; rintro e w' ⟨rfl, rfl⟩
      go_wp2_with fail
      go_ret
      exact ⟨by rw [← hx.out]; rfl, rfl⟩
    · rw [hng, decide_eq_false c, if_neg Bool.false_ne_true, if_neg Bool.false_ne_true]
      have c2 : decide ((9223372036854775808 : Int) ≤ (f : Int)) = false := decide_eq_false (by omega)
      have c3 : IntKind.u64.wrap ((f : Int) + 9223372036854775808) = (f : Int) + 9223372036854775808 := by rw [IntKind.wrap_u64]; omega
      clear hng c hf
      generalize (f : Int) = X at *
      replace c3 := Lib.hid c3
      go_enter Try.func49, Try.ntmps49
      go_wp2_with fail
      refine (hn _).mono ?_; rintro e w' ⟨rfl, rfl⟩
      go_wp2_with fail
      go_ret
      refine ⟨?_, rfl⟩
      show Ending.returned (Value.int IntKind.u64 (IntKind.u64.wrap (X + 9223372036854775808))) = _
      rw [c3.out]
  · clear hng
    go_enter Try.func49, Try.ntmps49
    go_wp2_with fail
    refine (hn _).mono ?_; rintro e w' ⟨rfl, rfl⟩
    go_wp2_with fail
    go_ret
    exact ⟨rfl, rfl⟩

def kC (x y : Nat) : Int := if kV x < kV y then -1 else if kV y < kV x then 1 else 0
theorem refcmp_any (x y : Nat) (hx : x < 18446744073709551616) (hy : y < 18446744073709551616) (w : World) : Calls Try.prog 22 #[.float .f64 x, .float .f64 y] w fun e w' => e = .returned (.int .i64 (kC x y)) ∧ w' = w := by
  have h1 := fun W => key_any x hx W
  have h2 := fun W => key_any y hy W
  unfold kC
  generalize kV x = a at *
  generalize kV y = b at *
  clear hx hy
  rcases Int.lt_trichotomy a b with c | c | c
  · rw [if_pos c]
    have c2 : decide (a < b) = true := decide_eq_true c
    go_enter Try.func22, Try.ntmps22
    go_wp2_with fail
    refine (h1 _).mono ?_; rintro e w' ⟨rfl, rfl⟩
    go_wp2_with fail
    refine (h2 _).mono ?_; rintro e w' ⟨rfl, rfl⟩
    go_wp2_with fail
    go_ret
    exact ⟨rfl, rfl⟩
  · subst c
    rw [if_neg (by omega), if_neg (by omega)]
    go_enter Try.func22, Try.ntmps22
    go_wp2_with fail
    refine (h1 _).mono ?_; rintro e w' ⟨rfl, rfl⟩
    go_wp2_with fail
    refine (h2 _).mono ?_; rintro e w' ⟨rfl, rfl⟩
    go_wp2_with fail
    go_ret
    exact ⟨rfl, rfl⟩
  · rw [if_neg (by omega), if_pos c]
    have c2 : decide (a < b) = false := decide_eq_false (by omega)
    have c3 : decide (b < a) = true := decide_eq_true c
    go_enter Try.func22, Try.ntmps22
    go_wp2_with fail
    refine (h1 _).mono ?_; rintro e w' ⟨rfl, rfl⟩
    go_wp2_with fail
    refine (h2 _).mono ?_; rintro e w' ⟨rfl, rfl⟩
    go_wp2_with fail
    go_ret
    exact ⟨rfl, rfl⟩

/-- Compare is the order of the keys. -/
theorem sv_key (f : Nat) (hf : f < 18446744073709551616) (hn : nanB f = false) : kV f = if negB f then 9223372036854775807 - (rung f : Int) else 9223372036854775808 + (rung f : Int) := by
  unfold kV
  rw [hn, if_neg Bool.false_ne_true]
  have h := neg_iff f hf
  have hr : rung f = f % 9223372036854775808 := rfl
  split
  · rename_i c; have c := neg_ge f hf c; omega
  · rename_i c; have c := neg_lt f hf c; omega
theorem cmp_key (x y : Nat) (hx : x < 18446744073709551616) (hy : y < 18446744073709551616) : cmpV x y = kC x y := by
  unfold cmpV kC
  have rx : ∀ f, nanB f = false → (rung f : Int) < 9223372036854775807 := fun f h => by
    have := of_decide_eq_false h
    unfold infR at this
    omega
  cases h1 : nanB x
  · cases h2 : nanB y
    · have k1 := sv_key x hx h1
      have k2 := sv_key y hy h2
      rw [k1, k2]
      have r1 := rx x h1
      have r2 := rx y h2
      simp only [Bool.or_self, Bool.false_eq_true, if_false]
      unfold sv
      generalize rung x = p at *
      generalize rung y = q at *
      clear k1 k2 rx h1 h2 hx hy
      cases negB x <;> cases negB y <;> simp only [Bool.false_eq_true, if_false, if_true] <;> (repeat' split) <;> omega
    · have k1 := sv_key x hx h1
      have r1 := rx x h1
      have e : kV y = 18446744073709551615 := by unfold kV; rw [h2, if_pos rfl]
      have l : kV x < 18446744073709551615 := by rw [k1]; split <;> omega
      rw [e, if_pos l]
      rfl
  · have e : kV x = 18446744073709551615 := by unfold kV; rw [h1, if_pos rfl]
    cases h2 : nanB y
    · have k1 := sv_key y hy h2
      have r1 := rx y h2
      have l : kV y < 18446744073709551615 := by rw [k1]; split <;> omega
      rw [e, if_neg (show ¬ (18446744073709551615 : Int) < kV y by omega), if_pos l]
      rfl
    · have e2 : kV y = 18446744073709551615 := by unfold kV; rw [h2, if_pos rfl]
      rw [e, e2]
      rfl
theorem kV_inj (x y : Nat) (hx : x < 18446744073709551616) (hy : y < 18446744073709551616) (h : kV x = kV y) : x = y ∨ nanB x = true ∧ nanB y = true := by
  have rx : ∀ f, nanB f = false → (rung f : Int) < 9223372036854775807 := fun f h => by
    have := of_decide_eq_false h
    unfold infR at this
    omega
  cases h1 : nanB x
  · cases h2 : nanB y
    · left
      unfold kV at h
      rw [h1, h2, if_neg Bool.false_ne_true, if_neg Bool.false_ne_true, neg_iff x hx, neg_iff y hy] at h
      clear rx h1 h2
      by_cases c1 : 9223372036854775808 ≤ x <;> by_cases c2 : 9223372036854775808 ≤ y <;> simp only [c1, c2, decide_true, decide_false, Bool.false_eq_true, if_true, if_false] at h <;> omega
    · have k1 := sv_key x hx h1
      have r1 := rx x h1
      have e : kV y = 18446744073709551615 := by unfold kV; rw [h2, if_pos rfl]
      have l : kV x < 18446744073709551615 := by rw [k1]; split <;> omega
      omega
  · cases h2 : nanB y
    · have e : kV x = 18446744073709551615 := by unfold kV; rw [h1, if_pos rfl]
      have k1 := sv_key y hy h2
      have r1 := rx y h2
      have l : kV y < 18446744073709551615 := by rw [k1]; split <;> omega
      omega
    · exact Or.inr ⟨rfl, rfl⟩
theorem kC_cases (x y : Nat) : (kC x y = -1 ∧ kV x < kV y) ∨ (kC x y = 0 ∧ kV x = kV y) ∨ (kC x y = 1 ∧ kV y < kV x) := by
  unfold kC
  generalize kV x = a
  generalize kV y = b
  split
  · rename_i c; exact Or.inl ⟨rfl, c⟩
  · split
    · rename_i c; exact Or.inr (Or.inr ⟨rfl, c⟩)
    · exact Or.inr (Or.inl ⟨rfl, by omega⟩)

theorem cb (x y : Nat) (hx : x < 18446744073709551616) (hy : y < 18446744073709551616) (k : Int) (hk : kC x y = k) (w : World) :
    Calls Try.prog 21 #[.float .f64 x, .float .f64 y] w fun e w' => e = .returned (.int .i64 k) ∧ Below w.heap.size w w' :=
  (compare_any x y hx hy w).mono fun e w' ⟨he, hb⟩ => ⟨by rw [he, cmp_key x y hx hy, hk], hb⟩

set_option maxRecDepth 100000 in
set_option maxHeartbeats 16000000 in
theorem order_walk (x y z : Int) (h0 : 0 ≤ x) (h1 : x < 18446744073709551616) (h2 : 0 ≤ y) (h3 : y < 18446744073709551616) (h4 : 0 ≤ z) (h5 : z < 18446744073709551616) (w : World) :
    Calls Try.prog 5 #[.int .u64 x, .int .u64 y, .int .u64 z] w fun e w' => e = .returned (.bool true) ∧ Below w.heap.size w w' := by
  obtain ⟨a, ha⟩ : ∃ a, x.toNat = a := ⟨_, rfl⟩
  obtain ⟨b, hb⟩ : ∃ b, y.toNat = b := ⟨_, rfl⟩
  obtain ⟨c, hc⟩ : ∃ c, z.toNat = c := ⟨_, rfl⟩
  have la : a < 18446744073709551616 := by omega
  have lb : b < 18446744073709551616 := by omega
  have lc : c < 18446744073709551616 := by omega
  have fa : ∀ W, (callFunc 13 #[.int .u64 x]).run Try.prog W = .ok (.value (.float .f64 a)) W := fun W => by rw [run_frombits, ha]
  have fbb : ∀ W, (callFunc 13 #[.int .u64 y]).run Try.prog W = .ok (.value (.float .f64 b)) W := fun W => by rw [run_frombits, hb]
  have fc : ∀ W, (callFunc 13 #[.int .u64 z]).run Try.prog W = .ok (.value (.float .f64 c)) W := fun W => by rw [run_frombits, hc]
  obtain ⟨k12, e12⟩ : ∃ k, kC a b = k := ⟨_, rfl⟩
  obtain ⟨k21, e21⟩ : ∃ k, kC b a = k := ⟨_, rfl⟩
  obtain ⟨k23, e23⟩ : ∃ k, kC b c = k := ⟨_, rfl⟩
  obtain ⟨k13, e13⟩ : ∃ k, kC a c = k := ⟨_, rfl⟩
  have e11 : kC a a = 0 := by unfold kC; rw [if_neg (by omega), if_neg (by omega)]
  have c12 := fun W => cb a b la lb k12 e12 W
  have c21 := fun W => cb b a lb la k21 e21 W
  have c23 := fun W => cb b c lb lc k23 e23 W
  have c13 := fun W => cb a c la lc k13 e13 W
  have c11 := fun W => cb a a la la 0 e11 W
  have r12 := fun W => refcmp_any a b la lb W
  rw [e12] at r12
  have q1 := kC_cases a b
  have q2 := kC_cases b a
  have q3 := kC_cases b c
  have q4 := kC_cases a c
  have inj := kV_inj a b la lb
  rw [e12] at q1
  rw [e21] at q2
  rw [e23] at q3
  rw [e13] at q4
  have na : (FloatKind.f64.format.order a a != some .eq) = nanB a := eq_self a
  have nb : (FloatKind.f64.format.order b b != some .eq) = nanB b := eq_self b
  have tr : k12 ≤ 0 → k23 ≤ 0 → k13 ≤ 0 := by
    clear inj q2 na nb
    generalize kV a = A at *
    generalize kV b = B at *
    generalize kV c = C at *
    omega
  have neg : k21 = -k12 := by
    clear inj q3 q4 na nb tr
    generalize kV a = A at *
    generalize kV b = B at *
    omega
  have val : k12 = -1 ∨ k12 = 0 ∨ k12 = 1 := by omega
  have same : k12 = 0 → (x == y) = true ∨ (x == y) = false ∧ nanB a = true ∧ nanB b = true := fun h => by
    have hk : kV a = kV b := by
      clear inj q2 q3 q4 na nb tr
      generalize kV a = A at *
      generalize kV b = B at *
      omega
    rcases inj hk with h6 | h6
    · left; simp; omega
    · by_cases hxy : x = y
      · left; simpa using hxy
      · right; exact ⟨by simpa using hxy, h6⟩
  clear q1 q2 q3 q4 inj e12 e21 e23 e13 e11 ha hb hc la lb lc h0 h1 h2 h3 h4 h5
  subst neg
  generalize nanB a = NA at *
  generalize nanB b = NB at *
  have hawk := fun W => awake_any W
  replace hawk := Lib.hid hawk
  replace c12 := Lib.hid c12
  replace c21 := Lib.hid c21
  replace c23 := Lib.hid c23
  replace c13 := Lib.hid c13
  replace c11 := Lib.hid c11
  replace r12 := Lib.hid r12
  rcases val with rfl | rfl | rfl
  · clear same
    by_cases g : k23 ≤ 0
    · have d23 : decide (k23 ≤ 0) = true := decide_eq_true g
      have d13 : decide (0 < k13) = false := decide_eq_false (by have := tr (by omega) g; omega)
      clear tr
      replace g := Lib.hid g
      go_enter Try.func5, Try.ntmps5
      go_wp2_with fail
      refine (hawk.out _).mono ?_; rintro e w1 ⟨rfl, k1⟩
      replace k1 := Lib.hid k1
      go_wp2_with fail
      refine (c12.out _).mono ?_; rintro e w2 ⟨rfl, k2⟩
      replace k2 := Lib.hid k2
      go_wp2_with fail
      refine (c12.out _).mono ?_; rintro e w3 ⟨rfl, k3⟩
      replace k3 := Lib.hid k3
      go_wp2_with fail
      refine (c23.out _).mono ?_; rintro e w4 ⟨rfl, k4⟩
      replace k4 := Lib.hid k4
      go_wp2_with fail
      refine (c13.out _).mono ?_; rintro e w5 ⟨rfl, k5⟩
      replace k5 := Lib.hid k5
      go_wp2_with fail
      refine (r12.out _).mono ?_; rintro e wz ⟨rfl, rfl⟩
      go_wp2_with fail
      refine (c21.out _).mono ?_; rintro e w6 ⟨rfl, k6⟩
      replace k6 := Lib.hid k6
      go_wp2_with fail
      refine (c11.out _).mono ?_; rintro e w7 ⟨rfl, k7⟩
      replace k7 := Lib.hid k7
      go_wp2_with fail
      go_ret
      refine ⟨by first | rfl | simp, ?_⟩
      have k := k1.out
      replace k := k.trans (k2.out.mono k.size)
      replace k := k.trans (k3.out.mono k.size)
      replace k := k.trans (k4.out.mono k.size)
      replace k := k.trans (k5.out.mono k.size)
      replace k := k.trans (k6.out.mono k.size)
      replace k := k.trans (k7.out.mono k.size)
      exact k
    · have d23 : decide (k23 ≤ 0) = false := decide_eq_false g
      clear tr
      replace g := Lib.hid g
      go_enter Try.func5, Try.ntmps5
      go_wp2_with fail
      refine (hawk.out _).mono ?_; rintro e w1 ⟨rfl, k1⟩
      replace k1 := Lib.hid k1
      go_wp2_with fail
      refine (c12.out _).mono ?_; rintro e w2 ⟨rfl, k2⟩
      replace k2 := Lib.hid k2
      go_wp2_with fail
      refine (c12.out _).mono ?_; rintro e w3 ⟨rfl, k3⟩
      replace k3 := Lib.hid k3
      go_wp2_with fail
      refine (c23.out _).mono ?_; rintro e w4 ⟨rfl, k4⟩
      replace k4 := Lib.hid k4
      go_wp2_with fail
      refine (r12.out _).mono ?_; rintro e wz ⟨rfl, rfl⟩
      go_wp2_with fail
      refine (c21.out _).mono ?_; rintro e w6 ⟨rfl, k6⟩
      replace k6 := Lib.hid k6
      go_wp2_with fail
      refine (c11.out _).mono ?_; rintro e w7 ⟨rfl, k7⟩
      replace k7 := Lib.hid k7
      go_wp2_with fail
      go_ret
      refine ⟨by first | rfl | simp, ?_⟩
      have k := k1.out
      replace k := k.trans (k2.out.mono k.size)
      replace k := k.trans (k3.out.mono k.size)
      replace k := k.trans (k4.out.mono k.size)
      replace k := k.trans (k6.out.mono k.size)
      replace k := k.trans (k7.out.mono k.size)
      exact k
  · rcases same rfl with hxy | ⟨hxy, rfl, rfl⟩
    · clear same
      by_cases g : k23 ≤ 0
      · have d23 : decide (k23 ≤ 0) = true := decide_eq_true g
        have d13 : decide (0 < k13) = false := decide_eq_false (by have := tr (by omega) g; omega)
        clear tr
        replace g := Lib.hid g
        go_enter Try.func5, Try.ntmps5
        go_wp2_with fail
        refine (hawk.out _).mono ?_; rintro e w1 ⟨rfl, k1⟩
        replace k1 := Lib.hid k1
        go_wp2_with fail
        refine (c12.out _).mono ?_; rintro e w2 ⟨rfl, k2⟩
        replace k2 := Lib.hid k2
        go_wp2_with fail
        refine (c12.out _).mono ?_; rintro e w3 ⟨rfl, k3⟩
        replace k3 := Lib.hid k3
        go_wp2_with fail
        refine (c23.out _).mono ?_; rintro e w4 ⟨rfl, k4⟩
        replace k4 := Lib.hid k4
        go_wp2_with fail
        refine (c13.out _).mono ?_; rintro e w5 ⟨rfl, k5⟩
        replace k5 := Lib.hid k5
        go_wp2_with fail
        refine (r12.out _).mono ?_; rintro e wz ⟨rfl, rfl⟩
        go_wp2_with fail
        refine (c21.out _).mono ?_; rintro e w6 ⟨rfl, k6⟩
        replace k6 := Lib.hid k6
        go_wp2_with fail
        refine (c11.out _).mono ?_; rintro e w7 ⟨rfl, k7⟩
        replace k7 := Lib.hid k7
        go_wp2_with fail
        go_ret
        refine ⟨by first | rfl | simp, ?_⟩
        have k := k1.out
        replace k := k.trans (k2.out.mono k.size)
        replace k := k.trans (k3.out.mono k.size)
        replace k := k.trans (k4.out.mono k.size)
        replace k := k.trans (k5.out.mono k.size)
        replace k := k.trans (k6.out.mono k.size)
        replace k := k.trans (k7.out.mono k.size)
        exact k
      · have d23 : decide (k23 ≤ 0) = false := decide_eq_false g
        clear tr
        replace g := Lib.hid g
        go_enter Try.func5, Try.ntmps5
        go_wp2_with fail
        refine (hawk.out _).mono ?_; rintro e w1 ⟨rfl, k1⟩
        replace k1 := Lib.hid k1
        go_wp2_with fail
        refine (c12.out _).mono ?_; rintro e w2 ⟨rfl, k2⟩
        replace k2 := Lib.hid k2
        go_wp2_with fail
        refine (c12.out _).mono ?_; rintro e w3 ⟨rfl, k3⟩
        replace k3 := Lib.hid k3
        go_wp2_with fail
        refine (c23.out _).mono ?_; rintro e w4 ⟨rfl, k4⟩
        replace k4 := Lib.hid k4
        go_wp2_with fail
        refine (r12.out _).mono ?_; rintro e wz ⟨rfl, rfl⟩
        go_wp2_with fail
        refine (c21.out _).mono ?_; rintro e w6 ⟨rfl, k6⟩
        replace k6 := Lib.hid k6
        go_wp2_with fail
        refine (c11.out _).mono ?_; rintro e w7 ⟨rfl, k7⟩
        replace k7 := Lib.hid k7
        go_wp2_with fail
        go_ret
        refine ⟨by first | rfl | simp, ?_⟩
        have k := k1.out
        replace k := k.trans (k2.out.mono k.size)
        replace k := k.trans (k3.out.mono k.size)
        replace k := k.trans (k4.out.mono k.size)
        replace k := k.trans (k6.out.mono k.size)
        replace k := k.trans (k7.out.mono k.size)
        exact k
    · clear same
      by_cases g : k23 ≤ 0
      · have d23 : decide (k23 ≤ 0) = true := decide_eq_true g
        have d13 : decide (0 < k13) = false := decide_eq_false (by have := tr (by omega) g; omega)
        clear tr
        replace g := Lib.hid g
        go_enter Try.func5, Try.ntmps5
        go_wp2_with fail
        refine (hawk.out _).mono ?_; rintro e w1 ⟨rfl, k1⟩
        replace k1 := Lib.hid k1
        go_wp2_with fail
        refine (c12.out _).mono ?_; rintro e w2 ⟨rfl, k2⟩
        replace k2 := Lib.hid k2
        go_wp2_with fail
        refine (c12.out _).mono ?_; rintro e w3 ⟨rfl, k3⟩
        replace k3 := Lib.hid k3
        go_wp2_with fail
        refine (c23.out _).mono ?_; rintro e w4 ⟨rfl, k4⟩
        replace k4 := Lib.hid k4
        go_wp2_with fail
        refine (c13.out _).mono ?_; rintro e w5 ⟨rfl, k5⟩
        replace k5 := Lib.hid k5
        go_wp2_with fail
        refine (r12.out _).mono ?_; rintro e wz ⟨rfl, rfl⟩
        go_wp2_with fail
        refine (c21.out _).mono ?_; rintro e w6 ⟨rfl, k6⟩
        replace k6 := Lib.hid k6
        go_wp2_with fail
        refine (c11.out _).mono ?_; rintro e w7 ⟨rfl, k7⟩
        replace k7 := Lib.hid k7
        go_wp2_with fail
        go_ret
        refine ⟨by first | rfl | simp, ?_⟩
        have k := k1.out
        replace k := k.trans (k2.out.mono k.size)
        replace k := k.trans (k3.out.mono k.size)
        replace k := k.trans (k4.out.mono k.size)
        replace k := k.trans (k5.out.mono k.size)
        replace k := k.trans (k6.out.mono k.size)
        replace k := k.trans (k7.out.mono k.size)
        exact k
      · have d23 : decide (k23 ≤ 0) = false := decide_eq_false g
        clear tr
        replace g := Lib.hid g
        go_enter Try.func5, Try.ntmps5
        go_wp2_with fail
        refine (hawk.out _).mono ?_; rintro e w1 ⟨rfl, k1⟩
        replace k1 := Lib.hid k1
        go_wp2_with fail
        refine (c12.out _).mono ?_; rintro e w2 ⟨rfl, k2⟩
        replace k2 := Lib.hid k2
        go_wp2_with fail
        refine (c12.out _).mono ?_; rintro e w3 ⟨rfl, k3⟩
        replace k3 := Lib.hid k3
        go_wp2_with fail
        refine (c23.out _).mono ?_; rintro e w4 ⟨rfl, k4⟩
        replace k4 := Lib.hid k4
        go_wp2_with fail
        refine (r12.out _).mono ?_; rintro e wz ⟨rfl, rfl⟩
        go_wp2_with fail
        refine (c21.out _).mono ?_; rintro e w6 ⟨rfl, k6⟩
        replace k6 := Lib.hid k6
        go_wp2_with fail
        refine (c11.out _).mono ?_; rintro e w7 ⟨rfl, k7⟩
        replace k7 := Lib.hid k7
        go_wp2_with fail
        go_ret
        refine ⟨by first | rfl | simp, ?_⟩
        have k := k1.out
        replace k := k.trans (k2.out.mono k.size)
        replace k := k.trans (k3.out.mono k.size)
        replace k := k.trans (k4.out.mono k.size)
        replace k := k.trans (k6.out.mono k.size)
        replace k := k.trans (k7.out.mono k.size)
        exact k
  · clear same tr
    go_enter Try.func5, Try.ntmps5
    go_wp2_with fail
    refine (hawk.out _).mono ?_; rintro e w1 ⟨rfl, k1⟩
    replace k1 := Lib.hid k1
    go_wp2_with fail
    refine (c12.out _).mono ?_; rintro e w2 ⟨rfl, k2⟩
    replace k2 := Lib.hid k2
    go_wp2_with fail
    refine (c12.out _).mono ?_; rintro e w3 ⟨rfl, k3⟩
    replace k3 := Lib.hid k3
    go_wp2_with fail
    refine (r12.out _).mono ?_; rintro e wz ⟨rfl, rfl⟩
    go_wp2_with fail
    refine (c21.out _).mono ?_; rintro e w6 ⟨rfl, k6⟩
    replace k6 := Lib.hid k6
    go_wp2_with fail
    refine (c11.out _).mono ?_; rintro e w7 ⟨rfl, k7⟩
    replace k7 := Lib.hid k7
    go_wp2_with fail
    go_ret
    refine ⟨by first | rfl | simp, ?_⟩
    have k := k1.out
    replace k := k.trans (k2.out.mono k.size)
    replace k := k.trans (k3.out.mono k.size)
    replace k := k.trans (k6.out.mono k.size)
    replace k := k.trans (k7.out.mono k.size)
    exact k
theorem order_row (x y z : Int) (h1 : (Lit.int .u64 x).wf = true) (h2 : (Lit.int .u64 y).wf = true) (h3 : (Lit.int .u64 z).wf = true) (w : World) :
    Calls Try.prog 5 #[.int .u64 x, .int .u64 y, .int .u64 z] w fun e w' => e = .returned (.bool true) ∧ Below w.heap.size w w' :=
  order_walk x y z (wf_u64' h1).1 (wf_u64' h1).2 (wf_u64' h2).1 (wf_u64' h2).2 (wf_u64' h3).1 (wf_u64' h3).2 w
end Go.Proofs.Ytkbpjegmfhmhbaa
