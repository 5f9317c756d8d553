/- Rounding a quotient to the nearest whole number, of two as near to the even one. Plain numbers. -/
import Ieee.Arith
namespace Go.Proofs.Ytkbpjegmfhmhbaa

/-- a by b, rounded to the nearest, of two as near the even one. -/
def rq (a b : Nat) : Nat := a / b + (if b < 2 * (a % b) ∨ (b = 2 * (a % b) ∧ a / b % 2 = 1) then 1 else 0)

theorem rq_scale (a b c : Nat) (hc : 0 < c) : rq (a * c) (b * c) = rq a b := by
  unfold rq
  rw [Nat.mul_div_mul_right _ _ hc, Nat.mul_mod_mul_right]
  have h1 : (b * c < 2 * (a % b * c)) ↔ b < 2 * (a % b) := by
    rw [← Nat.mul_assoc]
    exact Nat.mul_lt_mul_right hc
  have h2 : (b * c = 2 * (a % b * c)) ↔ b = 2 * (a % b) := by
    rw [← Nat.mul_assoc]
    exact ⟨fun h => Nat.eq_of_mul_eq_mul_right hc h, fun h => congrArg (· * c) h⟩
  simp only [h1, h2]

/-- How near: within half of b. -/
theorem rq_spec (a b : Nat) (hb : 0 < b) : 2 * (rq a b * b) ≤ 2 * a + b ∧ 2 * a ≤ 2 * (rq a b * b) + b := by
  have h := Nat.div_add_mod a b
  have hm := Nat.mod_lt a hb
  unfold rq
  generalize a / b = q at *
  generalize a % b = r at *
  have e1 : b * q = q * b := Nat.mul_comm _ _
  split
  · rename_i hc
    rw [Nat.add_mul]
    omega
  · rename_i hc
    rw [Nat.add_zero]
    omega

theorem rq_near (a b N : Nat) (hb : 0 < b) (h1 : 2 * (N * b) < 2 * a + b) (h2 : 2 * a < 2 * (N * b) + b) : rq a b = N := by
  obtain ⟨s1, s2⟩ := rq_spec a b hb
  rcases Nat.lt_trichotomy (rq a b) N with h | h | h
  · exfalso
    have : (rq a b + 1) * b ≤ N * b := Nat.mul_le_mul_right b h
    rw [Nat.add_mul] at this
    omega
  · exact h
  · exfalso
    have : (N + 1) * b ≤ rq a b * b := Nat.mul_le_mul_right b h
    rw [Nat.add_mul] at this
    omega

theorem rq_exact (N b : Nat) (hb : 0 < b) : rq (N * b) b = N := rq_near _ _ _ hb (by omega) (by omega)
theorem rq_zero (b : Nat) (hb : 0 < b) : rq 0 b = 0 := by
  have := rq_exact 0 b hb
  simpa using this
theorem rq_small (a b : Nat) (h : 2 * a < b) : rq a b = 0 := rq_near _ _ _ (by omega) (by omega) (by omega)

theorem rq_mono (a a' b : Nat) (hb : 0 < b) (h : a ≤ a') : rq a b ≤ rq a' b := by
  have hd := Nat.div_add_mod a b
  have hd' := Nat.div_add_mod a' b
  have hm := Nat.mod_lt a hb
  have hm' := Nat.mod_lt a' hb
  have hq : a / b ≤ a' / b := Nat.div_le_div_right h
  rcases Nat.lt_or_ge (a / b) (a' / b) with hlt | hge
  · unfold rq
    split <;> split <;> omega
  · have e : a / b = a' / b := Nat.le_antisymm hq hge
    have hr : a % b ≤ a' % b := by
      rw [e] at hd
      omega
    unfold rq
    rw [← e]
    split
    · split
      · exact Nat.le_refl _
      · rename_i hc hc'
        exfalso
        omega
    · omega

/-- The quotient alone, and whether something is left, tell the rounded quotient by d times a power of two. -/
theorem rq_sticky (A d c : Nat) (hd : 0 < d) (hc : 1 ≤ c) : rq A (d * 2 ^ c) = A / d / 2 ^ c + (if 2 ^ c < 2 * (A / d % 2 ^ c) ∨ (2 ^ c = 2 * (A / d % 2 ^ c) ∧ (0 < A % d ∨ A / d / 2 ^ c % 2 = 1)) then 1 else 0) := by
  unfold rq
  rw [Nat.div_div_eq_div_mul]
  congr 1
  have hmm : A % (d * 2 ^ c) = A % d + d * (A / d % 2 ^ c) := Nat.mod_mul
  rw [hmm]
  have hr := Nat.mod_lt A hd
  have ht := Nat.mod_lt (A / d) (Nat.two_pow_pos c)
  obtain ⟨p, hp⟩ : ∃ p, 2 ^ c = 2 * p := ⟨2 ^ (c - 1), by rw [← Nat.pow_succ', show (c - 1).succ = c by omega]⟩
  rw [hp]
  generalize A / d % (2 * p) = t at *
  generalize A % d = r at *
  generalize A / (d * (2 * p)) = x at *
  rcases Nat.lt_trichotomy t p with h | h | h
  · have h1 : d * (t + 1) ≤ d * p := Nat.mul_le_mul_left d h
    have e1 : d * (2 * p) = 2 * (d * p) := by rw [Nat.mul_left_comm]
    rw [Nat.mul_add] at h1
    rw [if_neg (by omega), if_neg (by omega)]
  · subst h
    have e1 : d * (2 * t) = 2 * (d * t) := by rw [Nat.mul_left_comm]
    by_cases h0 : 0 < r
    · rw [if_pos (by omega), if_pos (by omega)]
    · have h00 : r = 0 := by omega
      subst h00
      by_cases hx : x % 2 = 1
      · rw [if_pos (by omega), if_pos (by omega)]
      · rw [if_neg (by omega), if_neg (by omega)]
  · have h1 : d * (p + 1) ≤ d * t := Nat.mul_le_mul_left d h
    have e1 : d * (2 * p) = 2 * (d * p) := by rw [Nat.mul_left_comm]
    rw [Nat.mul_add] at h1
    rw [if_pos (by omega), if_pos (by omega)]

/-- The code's even: a whole number and a broken part of 64 bits. -/
def evenN (x part : Nat) : Nat := if 9223372036854775808 < part ∨ (part = 9223372036854775808 ∧ x % 2 = 1) then x + 1 else x

theorem evenN_rq (a b u s : Nat) (hb : 0 < b) (part : Nat) (h1 : 9223372036854775808 < part ↔ b < 2 * (a % b)) (h2 : part = 9223372036854775808 ↔ b = 2 * (a % b)) : evenN (a / b) part = rq a b := by
  unfold evenN rq
  simp only [h1, h2]
  split <;> omega
end Go.Proofs.Ytkbpjegmfhmhbaa
