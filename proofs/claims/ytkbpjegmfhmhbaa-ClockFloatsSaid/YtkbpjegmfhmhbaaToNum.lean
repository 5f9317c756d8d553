/- To: what it computes. -/
import Derived.Test.YtkbpjegmfhmhbaaTo
namespace Go.Proofs.Ytkbpjegmfhmhbaa
open Go.RowKit Go.Shelf

theorem bitLen_log (x : Nat) (h0 : x ≠ 0) (h : x < 18446744073709551616) : Lib.bitLen x = x.log2 + 1 := by
  have h1 : 2 ^ x.log2 ≤ x := Nat.log2_self_le h0
  have h2 : x < 2 ^ (x.log2 + 1) := Nat.lt_log2_self
  rw [Lib.bitLen_shift x.log2 x h1 h]
  have h3 : x / 2 ^ x.log2 = 1 := by
    rw [Nat.pow_succ] at h2
    have hp : 0 < 2 ^ x.log2 := Nat.two_pow_pos _
    apply Nat.div_eq_of_lt_le
    · omega
    · omega
  rw [h3]
  rfl

def toK (n : Nat) : Nat := 84 - n.log2
def toA (n : Nat) : Nat := n * 2 ^ toK n
def toQ (n : Nat) : Nat := toA n / 1000000000
def toC (n : Nat) : Nat := (toQ n).log2 - 52
def toM (n : Nat) : Nat := rq (toA n) (1000000000 * 2 ^ toC n)
/-- The rung of a time's float, without its sign. -/
def toR (n : Nat) : Nat := (1074 + toC n - toK n) * 4503599627370496 + toM n
def toF (ns : Int) : Nat := if ns = 0 then 0 else if ns < 0 then 9223372036854775808 + toR ns.natAbs else toR ns.natAbs

theorem log_le {n : Nat} (h0 : n ≠ 0) (h : n < 18446744073709551616) : n.log2 ≤ 63 := by
  have := (Nat.log2_lt h0 (k := 64)).2 h
  omega
theorem toA_bd {n : Nat} (h0 : n ≠ 0) (h : n < 18446744073709551616) : 19342813113834066795298816 ≤ toA n ∧ toA n < 38685626227668133590597632 := by
  have hl := log_le h0 h
  have h1 : 2 ^ n.log2 ≤ n := Nat.log2_self_le h0
  have h2 : n < 2 ^ (n.log2 + 1) := Nat.lt_log2_self
  unfold toA toK
  constructor
  · have := Nat.mul_le_mul_right (2 ^ (84 - n.log2)) h1
    rw [← Nat.pow_add, show n.log2 + (84 - n.log2) = 84 by omega] at this
    exact this
  · have := Nat.mul_lt_mul_of_pos_right h2 (Nat.two_pow_pos (84 - n.log2))
    rw [← Nat.pow_add, show n.log2 + 1 + (84 - n.log2) = 85 by omega] at this
    exact this
theorem toQ_bd {n : Nat} (h0 : n ≠ 0) (h : n < 18446744073709551616) : 18014398509481984 ≤ toQ n ∧ toQ n < 72057594037927936 := by
  obtain ⟨h1, h2⟩ := toA_bd h0 h
  unfold toQ
  generalize toA n = A at *
  constructor
  · rw [Nat.le_div_iff_mul_le (by decide)]; omega
  · rw [Nat.div_lt_iff_lt_mul (by decide)]; omega
theorem toC_bd {n : Nat} (h0 : n ≠ 0) (h : n < 18446744073709551616) : (toC n = 2 ∨ toC n = 3) ∧ (toQ n).log2 = toC n + 52 ∧ 2 ^ (toC n + 52) ≤ toQ n ∧ toQ n < 2 ^ (toC n + 53) := by
  obtain ⟨h1, h2⟩ := toQ_bd h0 h
  have hq : toQ n ≠ 0 := by omega
  have a1 : 54 ≤ (toQ n).log2 := (Nat.le_log2 hq).2 h1
  have a2 : (toQ n).log2 < 56 := (Nat.log2_lt hq).2 h2
  have e : (toQ n).log2 = toC n + 52 := by unfold toC; omega
  have b1 : 2 ^ (toQ n).log2 ≤ toQ n := Nat.log2_self_le hq
  have b2 : toQ n < 2 ^ ((toQ n).log2 + 1) := Nat.lt_log2_self
  rw [e] at b1 b2
  exact ⟨by omega, e, b1, b2⟩

/-- The sticky bit. -/
theorem sticky_num (A c s : Nat) (hc : c = 2 ∨ c = 3) (hs : s = if A % 1000000000 = 0 then 0 else 1) :
    evenN (A / 1000000000 / 2 ^ c) (A / 1000000000 * 2 ^ (64 - c) % 18446744073709551616 + s) = rq A (1000000000 * 2 ^ c) := by
  rw [rq_sticky A 1000000000 c (by decide) (by omega)]
  generalize A / 1000000000 = q at *
  generalize A % 1000000000 = r at *
  have hpm : q * 2 ^ (64 - c) % 18446744073709551616 = q % 2 ^ c * 2 ^ (64 - c) := by
    rw [← Nat.mul_mod_mul_right, ← Nat.pow_add, show c + (64 - c) = 64 by omega]
  rw [hpm]
  generalize q / 2 ^ c = x at *
  have ht : q % 2 ^ c < 2 ^ c := Nat.mod_lt _ (Nat.two_pow_pos _)
  generalize q % 2 ^ c = t at *
  clear hpm
  unfold evenN
  rcases hc with rfl | rfl
  · rw [show (2 : Nat) ^ (64 - 2) = 4611686018427387904 from rfl, show (2 : Nat) ^ 2 = 4 from rfl] at *
    have : t = 0 ∨ t = 1 ∨ t = 2 ∨ t = 3 := by omega
    rcases this with rfl | rfl | rfl | rfl <;> split at hs <;> subst hs <;> split <;> split <;> omega
  · rw [show (2 : Nat) ^ (64 - 3) = 2305843009213693952 from rfl, show (2 : Nat) ^ 3 = 8 from rfl] at *
    have : t = 0 ∨ t = 1 ∨ t = 2 ∨ t = 3 ∨ t = 4 ∨ t = 5 ∨ t = 6 ∨ t = 7 := by omega
    rcases this with rfl | rfl | rfl | rfl | rfl | rfl | rfl | rfl <;> split at hs <;> subst hs <;> split <;> split <;> omega

theorem toM_bd {n : Nat} (h0 : n ≠ 0) (h : n < 18446744073709551616) : 4503599627370496 ≤ toM n ∧ toM n ≤ 9007199254740992 := by
  obtain ⟨hc, _, h1, h2⟩ := toC_bd h0 h
  unfold toM
  rw [rq_sticky (toA n) 1000000000 (toC n) (by decide) (by omega)]
  have e1 : toA n / 1000000000 = toQ n := rfl
  rw [e1]
  have hp : 0 < 2 ^ toC n := Nat.two_pow_pos _
  have a1 : 4503599627370496 ≤ toQ n / 2 ^ toC n := by
    rw [Nat.le_div_iff_mul_le hp]
    rw [Nat.pow_add, Nat.mul_comm] at h1
    exact h1
  have a2 : toQ n / 2 ^ toC n < 9007199254740992 := by
    rw [Nat.div_lt_iff_lt_mul hp]
    rw [Nat.pow_add, Nat.mul_comm] at h2
    exact h2
  split <;> omega

theorem toK_bd {n : Nat} (h0 : n ≠ 0) (h : n < 18446744073709551616) : 21 ≤ toK n ∧ toK n ≤ 84 := by
  have := log_le h0 h
  unfold toK
  omega

theorem floatOf_m (m : Nat) (h1 : 4503599627370496 ≤ m) (h2 : m ≤ 9007199254740992) : floatOfInt .f64 (m : Int) = 1074 * 4503599627370496 + m := by
  have e : floatOfInt .f64 (m : Int) = Ieee.double.nearest false m 0 := by
    show Ieee.double.nearest (decide ((m : Int) < 0)) (m : Int).natAbs 0 = _
    rw [show decide ((m : Int) < 0) = false by simp, Int.natAbs_natCast]
  rw [e]
  by_cases h3 : m < 9007199254740992
  · have h := nearest_exact false m 0 0 (1074 * 4503599627370496 + m) h1 h3 (by omega) (by omega) (by unfold infR; omega)
    rw [Nat.pow_zero, Nat.mul_one] at h
    exact h
  · have hm : m = 4503599627370496 * 2 ^ 1 := by omega
    have h := nearest_exact false 4503599627370496 1 0 (1074 * 4503599627370496 + m) (by omega) (by omega) (by omega) (by omega) (by unfold infR; omega)
    rw [← hm] at h
    exact h

theorem toR_eq {n : Nat} (h0 : n ≠ 0) (h : n < 18446744073709551616) : toR n < infR ∧ 4503599627370496 ≤ toR n := by
  obtain ⟨a1, a2⟩ := toK_bd h0 h
  obtain ⟨b1, b2⟩ := toM_bd h0 h
  obtain ⟨c1, _⟩ := toC_bd h0 h
  unfold toR infR
  have : (1074 + toC n - toK n) ≤ 1056 := by omega
  have h2 := Nat.mul_le_mul_right 4503599627370496 this
  omega

/-- The facts of To's walk at a word n. -/
theorem to_facts (ns : Int) (n : Nat) (hns : (ns == 0) = false) (h0 : n ≠ 0) (h : n < 18446744073709551616) :
    ∃ hi lo pt x F0, ToF ns n (toK n) hi lo (toQ n) (toA n % 1000000000) pt x (toM n) F0 (toR n) (toC n) := by
  obtain ⟨a1, a2⟩ := toK_bd h0 h
  obtain ⟨b1, b2⟩ := toA_bd h0 h
  obtain ⟨c1, c2, c3, c4⟩ := toC_bd h0 h
  obtain ⟨d1, d2⟩ := toM_bd h0 h
  obtain ⟨q1, q2⟩ := toQ_bd h0 h
  have hA : toA n = toA n / 18446744073709551616 * 18446744073709551616 + toA n % 18446744073709551616 := (Nat.div_add_mod' _ _).symm
  have hh1 : 1048576 ≤ toA n / 18446744073709551616 := by rw [Nat.le_div_iff_mul_le (by decide)]; omega
  have hh2 : toA n / 18446744073709551616 < 2097152 := by rw [Nat.div_lt_iff_lt_mul (by decide)]; omega
  have hlo : toA n % 18446744073709551616 < 18446744073709551616 := Nat.mod_lt _ (by decide)
  refine ⟨toA n / 18446744073709551616, toA n % 18446744073709551616, toQ n * 2 ^ (64 - toC n) % 18446744073709551616, toQ n / 2 ^ toC n, 1074 * 4503599627370496 + toM n, ?_⟩
  refine { ne := hns, len := fun W => ?_, k21 := a1, k84 := a2, hlo := fun hk => ?_, hhi := fun hk => ?_, div := fun W => ?_, lenq := fun W => ?_, part := ?_, part1 := ?_, xq := (castdiv _ _).symm, ev := fun W => ?_, fl := floatOf_m _ d1 d2, ld := fun W => ?_ }
  · have hl := len64_any (n : Int) W (by omega) (by omega)
    rw [Int.toNat_natCast, bitLen_log n h0 h] at hl
    have hlog := log_le h0 h
    rw [show (((n.log2 + 1 : Nat)) : Int) = 85 - (toK n : Int) by unfold toK; omega] at hl
    exact hl
  · constructor
    · rw [show (64 - min (toK n : Int) 64).toNat = 64 - toK n by omega]
      have : n / 2 ^ (64 - toK n) = toA n / 18446744073709551616 := by
        unfold toA
        rw [show (18446744073709551616 : Nat) = 2 ^ (64 - toK n) * 2 ^ toK n by rw [← Nat.pow_add, show 64 - toK n + toK n = 64 by omega], Nat.mul_div_mul_right _ _ (Nat.two_pow_pos _)]
      rw [← this, castdiv]
    · rw [← castmul, wrapU_nat]
      rfl
  · have e : toA n = n * 2 ^ (toK n - 64) * 18446744073709551616 := by
      unfold toA
      rw [Nat.mul_assoc, show (18446744073709551616 : Nat) = 2 ^ 64 from rfl, ← Nat.pow_add, show toK n - 64 + 64 = toK n by omega]
    constructor
    · rw [← castmul, wrapU_nat]
      rw [e, Nat.mul_div_cancel _ (by decide)]
      rw [e, Nat.mul_div_cancel _ (by decide)] at hh2
      rw [Nat.mod_eq_of_lt (by omega)]
    · rw [e, Nat.mul_mod_left]
  · have hd := div_any (toA n / 18446744073709551616) (toA n % 18446744073709551616) (by omega) (by omega) hlo W
    rw [← hA] at hd
    exact hd
  · have hl := len64_any (toQ n : Int) W (by omega) (by omega)
    rw [Int.toNat_natCast, bitLen_log (toQ n) (by omega) (by omega), c2] at hl
    rw [show ((toC n + 52 + 1 : Nat) : Int) = (toC n : Int) + 53 by omega] at hl
    exact hl
  · rw [← castmul, wrapU_nat]
  · have hev : (toQ n * 2 ^ (64 - toC n) % 18446744073709551616) % 2 ^ 1 = 0 := by
      rcases c1 with e | e <;> rw [e] <;> omega
    have hlt : toQ n * 2 ^ (64 - toC n) % 18446744073709551616 < 18446744073709551616 := Nat.mod_lt _ (by decide)
    have := u64_or_nat (toQ n * 2 ^ (64 - toC n) % 18446744073709551616) 1 hlt (by omega)
    rw [nat_join 1 _ 1 hev (by decide)] at this
    exact this
  · have hlt : toQ n * 2 ^ (64 - toC n) % 18446744073709551616 < 18446744073709551616 := Nat.mod_lt _ (by decide)
    have hev : (toQ n * 2 ^ (64 - toC n) % 18446744073709551616) % 2 = 0 := by
      rcases c1 with e | e <;> rw [e] <;> omega
    have hx : toQ n / 2 ^ toC n ≤ toQ n := Nat.div_le_self _ _
    have hst := sticky_num (toA n) (toC n) _ c1 rfl
    have hq : toA n / 1000000000 = toQ n := rfl
    rw [hq] at hst
    have hp : (if toA n % 1000000000 = 0 then toQ n * 2 ^ (64 - toC n) % 18446744073709551616 else toQ n * 2 ^ (64 - toC n) % 18446744073709551616 + 1) = toQ n * 2 ^ (64 - toC n) % 18446744073709551616 + (if toA n % 1000000000 = 0 then 0 else 1) := by split <;> rfl
    rw [hp]
    have he := even_any (toQ n / 2 ^ toC n) (toQ n * 2 ^ (64 - toC n) % 18446744073709551616 + (if toA n % 1000000000 = 0 then 0 else 1)) (by omega) (by split <;> omega) W
    rw [hst] at he
    exact he
  · by_cases h3 : toM n < 9007199254740992
    · have hl := ldexp_any 1075 (toM n - 4503599627370496) (1075 + toC n - toK n) ((toC n : Int) - (toK n : Int)) (by omega) (by omega) (by omega) (by omega) (by omega) (by omega) W
      rw [show 1075 * 4503599627370496 + (toM n - 4503599627370496) = 1074 * 4503599627370496 + toM n by omega] at hl
      rw [show (1075 + toC n - toK n) * 4503599627370496 + (toM n - 4503599627370496) = toR n by unfold toR; rw [show 1075 + toC n - toK n = (1074 + toC n - toK n) + 1 by omega, Nat.add_mul]; omega] at hl
      exact hl
    · have hl := ldexp_any 1076 0 (1076 + toC n - toK n) ((toC n : Int) - (toK n : Int)) (by omega) (by omega) (by omega) (by omega) (by omega) (by omega) W
      rw [show 1076 * 4503599627370496 + 0 = 1074 * 4503599627370496 + toM n by omega] at hl
      rw [show (1076 + toC n - toK n) * 4503599627370496 + 0 = toR n by unfold toR; rw [show 1076 + toC n - toK n = (1074 + toC n - toK n) + 2 by omega, Nat.add_mul]; omega] at hl
      exact hl
end Go.Proofs.Ytkbpjegmfhmhbaa
