/- Floats by their rungs: what they stand for rises with the rung; how two of them stand to one another. Plain numbers. -/
import Derived.Test.YtkbpjegmfhmhbaaNum
namespace Go.Proofs.Ytkbpjegmfhmhbaa

/-- The magnitude's whole number, the power of two that it is times (from the least one on), and both together. -/
def magN (r : Nat) : Nat := if r < 4503599627370496 then r else 4503599627370496 + r % 4503599627370496
def expN (r : Nat) : Nat := if r < 4503599627370496 then 0 else r / 4503599627370496 - 1
def valN (r : Nat) : Nat := magN r * 2 ^ expN r

theorem dm (q t b : Nat) (h : t < b) : (q * b + t) / b = q ∧ (q * b + t) % b = t := by
  constructor
  · rw [Nat.add_comm, Nat.add_mul_div_right _ _ (by omega), Nat.div_eq_of_lt h, Nat.zero_add]
  · rw [Nat.add_comm, Nat.add_mul_mod_self_right, Nat.mod_eq_of_lt h]
theorem valN_step (r : Nat) : valN r < valN (r + 1) := by
  unfold valN magN expN
  by_cases h1 : r + 1 < 4503599627370496
  · simp only [h1, show r < 4503599627370496 by omega, if_true]; omega
  · by_cases h2 : r < 4503599627370496
    · have : r = 4503599627370495 := by omega
      subst this
      decide
    · simp only [h1, h2, if_false]
      obtain ⟨q, t, hq, ht, rfl⟩ : ∃ q t, 1 ≤ q ∧ t < 4503599627370496 ∧ r = q * 4503599627370496 + t := ⟨r / 4503599627370496, r % 4503599627370496, by omega, by omega, by omega⟩
      have e1 := (dm q t 4503599627370496 ht).1
      have e2 := (dm q t 4503599627370496 ht).2
      rw [e1, e2]
      have hp : 0 < 2 ^ (q - 1) := Nat.two_pow_pos _
      by_cases h3 : t + 1 < 4503599627370496
      · have e3 := (dm q (t + 1) 4503599627370496 h3).1
        have e4 := (dm q (t + 1) 4503599627370496 h3).2
        rw [Nat.add_assoc, e3, e4]
        exact Nat.mul_lt_mul_of_pos_right (by omega) hp
      · have e3 := (dm (q + 1) 0 4503599627370496 (by omega)).1
        have e4 := (dm (q + 1) 0 4503599627370496 (by omega)).2
        rw [show q * 4503599627370496 + t + 1 = (q + 1) * 4503599627370496 + 0 by omega, e3, e4, show q + 1 - 1 = (q - 1) + 1 by omega, Nat.pow_succ]
        generalize 2 ^ (q - 1) = p at *
        have : t = 4503599627370495 := by omega
        subst this
        omega
theorem valN_lt {r r' : Nat} (h : r < r') : valN r < valN r' := by
  obtain ⟨d, rfl⟩ : ∃ d, r' = r + 1 + d := ⟨r' - (r + 1), by omega⟩
  clear h
  induction d with
  | zero => exact valN_step r
  | succ d ih => exact Nat.lt_trans ih (valN_step _)
theorem valN_le {r r' : Nat} (h : r ≤ r') : valN r ≤ valN r' := by
  rcases Nat.lt_or_eq_of_le h with h | rfl
  · exact Nat.le_of_lt (valN_lt h)
  · exact Nat.le_refl _
theorem valN_zero : valN 0 = 0 := by decide

def infR : Nat := 9218868437227405312
def rung (x : Nat) : Nat := x % 9223372036854775808
def negB (x : Nat) : Bool := x / 9223372036854775808 % 2 == 1
def nanB (x : Nat) : Bool := decide (infR < rung x)
/-- The rung with its sign. -/
def sv (x : Nat) : Int := if negB x then -(rung x : Int) else (rung x : Int)

theorem cmp_def (a b : Int) : compare a b = if a < b then .lt else if a = b then .eq else .gt := rfl
theorem cmpN_def (a b : Nat) : compare a b = if a < b then .lt else if a = b then .eq else .gt := rfl

theorem read_num {x : Nat} (h : rung x < infR) : Ieee.double.read x = .number (negB x) (magN (rung x)) (-1074 + (expN (rung x) : Nat)) := by
  have e1 : Ieee.double.signWeight = 9223372036854775808 := by decide
  have e2 : Ieee.double.binade = 4503599627370496 := by decide
  have e3 : Ieee.double.infRung = 9218868437227405312 := by decide
  have e4 : Ieee.double.leastPlace = -1074 := by decide
  unfold Ieee.Format.read
  rw [e1, e2, e3, e4]
  unfold rung infR at h
  unfold magN expN negB rung
  dsimp only
  by_cases h1 : x % 9223372036854775808 < 4503599627370496
  · simp only [h1, if_true]; rfl
  · simp only [h1, if_false, h, if_true]
theorem read_inf {x : Nat} (h : rung x = infR) : Ieee.double.read x = .infinity (negB x) := by
  have e1 : Ieee.double.signWeight = 9223372036854775808 := by decide
  have e2 : Ieee.double.binade = 4503599627370496 := by decide
  have e3 : Ieee.double.infRung = 9218868437227405312 := by decide
  unfold Ieee.Format.read
  rw [e1, e2, e3]
  unfold rung infR at h
  unfold negB
  dsimp only
  rw [h]
  simp
theorem read_nan {x : Nat} (h : infR < rung x) : ∃ s t, Ieee.double.read x = .nan s t := by
  have e1 : Ieee.double.signWeight = 9223372036854775808 := by decide
  have e2 : Ieee.double.binade = 4503599627370496 := by decide
  have e3 : Ieee.double.infRung = 9218868437227405312 := by decide
  unfold Ieee.Format.read
  rw [e1, e2, e3]
  unfold rung infR at h
  dsimp only
  rw [if_neg (by omega), if_neg (by omega), if_neg (by omega)]
  exact ⟨_, _, rfl⟩

def sgn (s : Bool) (n : Nat) : Int := if s then -(n : Int) else (n : Int)
theorem sgn_mul (s : Bool) (n c : Nat) : sgn s (n * c) = sgn s n * c := by
  unfold sgn
  split <;> simp [Int.neg_mul]
theorem cmp_scale (a b : Int) (c : Nat) (hc : 0 < c) : compare (a * c) (b * c) = compare a b := by
  have hc' : (0 : Int) < c := by omega
  rw [cmp_def, cmp_def]
  have h1 : (a * c < b * c) ↔ a < b := ⟨fun h => Int.lt_of_mul_lt_mul_right h (by omega), fun h => Int.mul_lt_mul_of_pos_right h hc'⟩
  have h2 : (a * c = b * c) ↔ a = b := ⟨fun h => Int.eq_of_mul_eq_mul_right (by omega) h, fun h => by rw [h]⟩
  simp only [h1, h2]
theorem cmp_sgn_mono (f : Nat → Nat) (hf : ∀ a b, a < b → f a < f b) (h0 : f 0 = 0) (s t : Bool) (a b : Nat) : compare (sgn s (f a)) (sgn t (f b)) = compare (sgn s a) (sgn t b) := by
  have ha : a = 0 ∧ f a = 0 ∨ 0 < a ∧ 0 < f a := by
    rcases Nat.eq_zero_or_pos a with h | h
    · exact .inl ⟨h, by rw [h, h0]⟩
    · exact .inr ⟨h, by have := hf 0 a h; omega⟩
  have hb : b = 0 ∧ f b = 0 ∨ 0 < b ∧ 0 < f b := by
    rcases Nat.eq_zero_or_pos b with h | h
    · exact .inl ⟨h, by rw [h, h0]⟩
    · exact .inr ⟨h, by have := hf 0 b h; omega⟩
  have hab : (a < b ∧ f a < f b) ∨ (a = b ∧ f a = f b) ∨ (b < a ∧ f b < f a) := by
    rcases Nat.lt_trichotomy a b with h | h | h
    · exact .inl ⟨h, hf _ _ h⟩
    · exact .inr (.inl ⟨h, by rw [h]⟩)
    · exact .inr (.inr ⟨h, hf _ _ h⟩)
  rw [cmp_def, cmp_def]
  unfold sgn
  have key : ∀ (p q p' q' : Int), ((p < q ↔ p' < q') ∧ (p = q ↔ p' = q')) → (if p < q then Ordering.lt else if p = q then .eq else .gt) = (if p' < q' then Ordering.lt else if p' = q' then .eq else .gt) := by
    intro p q p' q' ⟨h1, h2⟩
    simp only [h1, h2]
  apply key
  cases s <;> cases t <;> simp only [Bool.false_eq_true, if_true, if_false] <;> omega

theorem sv_sgn (x : Nat) : sv x = sgn (negB x) (rung x) := rfl

theorem signed_eq (s : Bool) (m u : Nat) : Ieee.signed s m u = sgn s (m * 2 ^ u) := by
  unfold Ieee.signed sgn
  rw [Nat.shiftLeft_eq]

theorem order_num {x y : Nat} (hx : rung x < infR) (hy : rung y < infR) : Ieee.double.order x y = some (compare (sv x) (sv y)) := by
  unfold Ieee.Format.order
  rw [read_num hx, read_num hy]
  simp only [Ieee.Datum.order]
  rw [signed_eq, signed_eq]
  have hb : ∀ a b : Nat, (-1074 + (a : Int) - min (-1074 + (a : Int)) (-1074 + (b : Int))).toNat = a - min a b := fun a b => by omega
  have hb' : ∀ a b : Nat, (-1074 + (b : Int) - min (-1074 + (a : Int)) (-1074 + (b : Int))).toNat = b - min a b := fun a b => by omega
  rw [hb, hb']
  congr 1
  have hc : 0 < 2 ^ min (expN (rung x)) (expN (rung y)) := Nat.two_pow_pos _
  rw [← cmp_scale _ _ _ hc, ← sgn_mul, ← sgn_mul, Nat.mul_assoc, Nat.mul_assoc, ← Nat.pow_add, ← Nat.pow_add,
    show expN (rung x) - min (expN (rung x)) (expN (rung y)) + min (expN (rung x)) (expN (rung y)) = expN (rung x) by omega,
    show expN (rung y) - min (expN (rung x)) (expN (rung y)) + min (expN (rung x)) (expN (rung y)) = expN (rung y) by omega]
  exact cmp_sgn_mono valN (fun _ _ => valN_lt) valN_zero _ _ _ _

theorem order_eq (x y : Nat) : Ieee.double.order x y = if nanB x || nanB y then none else some (compare (sv x) (sv y)) := by
  unfold nanB
  rcases Nat.lt_trichotomy (rung x) infR with hx | hx | hx
  · rcases Nat.lt_trichotomy (rung y) infR with hy | hy | hy
    · rw [order_num hx hy]; simp [show ¬ infR < rung x by omega, show ¬ infR < rung y by omega]
    · unfold Ieee.Format.order
      rw [read_num hx, read_inf hy]
      simp [Ieee.Datum.order, show ¬ infR < rung x by omega, show ¬ infR < rung y by omega, sv_sgn, hy]
      rw [cmp_def]
      unfold sgn
      cases negB x <;> cases negB y <;> simp <;> split <;> simp_all <;> omega
    · obtain ⟨s, t, h⟩ := read_nan hy
      unfold Ieee.Format.order
      rw [h]
      simp [hy, Ieee.Datum.order]
      split <;> simp_all
  · rcases Nat.lt_trichotomy (rung y) infR with hy | hy | hy
    · unfold Ieee.Format.order
      rw [read_inf hx, read_num hy]
      simp [Ieee.Datum.order, show ¬ infR < rung x by omega, show ¬ infR < rung y by omega, sv_sgn, hx]
      rw [cmp_def]
      unfold sgn
      cases negB x <;> cases negB y <;> simp <;> split <;> simp_all <;> omega
    · unfold Ieee.Format.order
      rw [read_inf hx, read_inf hy]
      simp [Ieee.Datum.order, show ¬ infR < rung x by omega, show ¬ infR < rung y by omega, sv_sgn, hx, hy]
      cases negB x <;> cases negB y <;> decide
    · obtain ⟨s, t, h⟩ := read_nan hy
      unfold Ieee.Format.order
      rw [h]
      simp [hy, Ieee.Datum.order]
      split <;> simp_all
  · obtain ⟨s, t, h⟩ := read_nan hx
    unfold Ieee.Format.order
    rw [h]
    simp [hx, Ieee.Datum.order]
end Go.Proofs.Ytkbpjegmfhmhbaa
