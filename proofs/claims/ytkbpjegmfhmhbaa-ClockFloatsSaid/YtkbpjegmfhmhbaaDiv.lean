/- Div64 by ten to the power of nine. -/
import Derived.Test.YtkbpjegmfhmhbaaFrom
namespace Go.Proofs.Ytkbpjegmfhmhbaa
open Go.RowKit Go.Shelf
attribute [local go_sem] Oper.semAt_some

set_option maxRecDepth 100000 in
set_option maxHeartbeats 2000000 in
/-- The walk: each step's word has a name. -/
theorem div_walk (hi lo q r y Y2 yn1 H L u32 u10 un1 un0 q1 p1 rh a1 a2 c1 c2 c3 u21 q0 p0 rh2 a3 a4 d1 d2 d3 d4 d5 : Nat) (b0 : ((hi : Int) == 0) = false) (b1 : (hi : Int) < (y : Int)) (b2 : ((y : Int) == 0) = false) (w : World)
    (f1 : IntKind.u64.wrap ((y : Int) * 17179869184) = (Y2 : Int)) (f2 : (Y2 : Int) / 4294967296 = (yn1 : Int)) (f3 : bits .and .u64 (Y2 : Int) 4294967295 = 0)
    (f4 : IntKind.u64.wrap ((hi : Int) * 17179869184) = (H : Int)) (f5 : (lo : Int) / 1073741824 = (L : Int)) (f6 : bits .or .u64 (H : Int) (L : Int) = (u32 : Int))
    (f7 : IntKind.u64.wrap ((lo : Int) * 17179869184) = (u10 : Int)) (f8 : (u10 : Int) / 4294967296 = (un1 : Int)) (f9 : bits .and .u64 (u10 : Int) 4294967295 = (un0 : Int))
    (g0 : (0 : Int) < (yn1 : Int)) (g0b : ((yn1 : Int) == 0) = false)
    (f10 : (u32 : Int) / (yn1 : Int) = (q1 : Int)) (f10b : IntKind.u64.wrap (q1 : Int) = (q1 : Int)) (g2 : decide ((4294967296 : Int) ≤ (q1 : Int)) = false) (f11 : IntKind.u64.wrap ((q1 : Int) * (yn1 : Int)) = (p1 : Int))
    (f12 : IntKind.u64.wrap ((u32 : Int) - (p1 : Int)) = (rh : Int)) (f13 : IntKind.u64.wrap (4294967296 * (rh : Int)) = (a1 : Int)) (f14 : IntKind.u64.wrap ((a1 : Int) + (un1 : Int)) = (a2 : Int)) (f15 : decide ((a2 : Int) < 0) = false)
    (f16 : IntKind.u64.wrap ((u32 : Int) * 4294967296) = (c1 : Int)) (f17 : IntKind.u64.wrap ((c1 : Int) + (un1 : Int)) = (c2 : Int)) (f18 : IntKind.u64.wrap ((q1 : Int) * (Y2 : Int)) = (c3 : Int)) (f19 : IntKind.u64.wrap ((c2 : Int) - (c3 : Int)) = (u21 : Int))
    (f20 : (u21 : Int) / (yn1 : Int) = (q0 : Int)) (f20b : IntKind.u64.wrap (q0 : Int) = (q0 : Int)) (g3 : decide ((4294967296 : Int) ≤ (q0 : Int)) = false) (f21 : IntKind.u64.wrap ((q0 : Int) * (yn1 : Int)) = (p0 : Int))
    (f22 : IntKind.u64.wrap ((u21 : Int) - (p0 : Int)) = (rh2 : Int)) (f23 : IntKind.u64.wrap (4294967296 * (rh2 : Int)) = (a3 : Int)) (f24 : IntKind.u64.wrap ((a3 : Int) + (un0 : Int)) = (a4 : Int)) (f25 : decide ((a4 : Int) < 0) = false)
    (f26 : IntKind.u64.wrap ((q1 : Int) * 4294967296) = (d1 : Int)) (f27 : IntKind.u64.wrap ((d1 : Int) + (q0 : Int)) = (q : Int)) (f28 : IntKind.u64.wrap ((u21 : Int) * 4294967296) = (d2 : Int)) (f29 : IntKind.u64.wrap ((d2 : Int) + (un0 : Int)) = (d3 : Int))
    (f30 : IntKind.u64.wrap ((q0 : Int) * (Y2 : Int)) = (d4 : Int)) (f31 : IntKind.u64.wrap ((d3 : Int) - (d4 : Int)) = (d5 : Int)) (f32 : (d5 : Int) / 17179869184 = (r : Int))
    (hl : Hid (∀ W, Calls Try.prog 55 #[.int .u64 y] W fun e w' => e = .returned (.int .i64 34) ∧ w' = W)) :
    Calls Try.prog 40 #[.int .u64 hi, .int .u64 lo, .int .u64 y] w fun e w' => e = .returned (.tuple #[.int .u64 (q:Int), .int .u64 (r : Int)]) ∧ w' = w := by
  go_enter Try.func40, Try.ntmps40
  go_wp2_with fail
  refine (hl.out _).mono ?_; rintro e w' ⟨rfl, rfl⟩
  go_wp2_with fail
  go_loop [15, 16] (fun s t => s = .int .u64 q1 ∧ t = .int .u64 rh) (fun _ _ => 0)
  case atStart => exact ⟨rfl, rfl⟩
  case round =>
    obtain ⟨rfl, rfl⟩ := hrel
    go_wp2_with fail
    go_loop [18, 16] (fun s t => s = .int .u64 q0 ∧ t = .int .u64 rh2) (fun _ _ => 0)
    case atStart => exact ⟨rfl, rfl⟩
    case round =>
      obtain ⟨rfl, rfl⟩ := hrel
      go_wp2_with fail
      go_ret2
      exact ⟨rfl, rfl⟩

theorem dmod (a b : Nat) (hb : 0 < b) : ∃ q r, a = q * b + r ∧ r < b := ⟨a / b, a % b, (Nat.div_add_mod' a b).symm, Nat.mod_lt _ hb⟩
theorem wU (a b : Nat) (h : b = a % 18446744073709551616) : IntKind.u64.wrap (a : Int) = (b : Int) := by rw [wrapU_nat, h]
theorem wUs (a b c : Nat) (h : (c : Int) = ((a : Int) - (b : Int)) % 18446744073709551616) : IntKind.u64.wrap ((a : Int) - (b : Int)) = (c : Int) := by rw [IntKind.wrap_u64, h]
theorem dcf (a b : Nat) (h : b < a) : decide ((a : Int) ≤ (b : Int)) = false := by simp; omega

/-- The school method, two digits. -/
theorem school (A hi lo P B Y D H L u32 un1 un0 q1 rh u21 q0 rh2 : Nat) (hP : 0 < P) (hD : 0 < D) (e0 : A = hi * (B * B) + lo) (e1 : H = hi * P) (e2 : lo * P = L * (B * B) + (un1 * B + un0)) (e3 : u32 = H + L) (e4 : u32 = q1 * Y + rh)
    (e5 : u21 = rh * B + un1) (e6 : u21 = q0 * Y + rh2) (e7 : rh2 < Y) (e8 : un0 < B) (e9 : Y * B = D * P) :
    A / D = q1 * B + q0 ∧ A % D = (rh2 * B + un0) / P := by
  have s1 : A * P = (u32 * B + un1) * B + un0 := by
    rw [e0, e3, e1, Nat.add_mul, e2, Nat.add_mul, Nat.add_mul, Nat.add_mul, Nat.mul_assoc hi (B * B), Nat.mul_assoc hi P B, Nat.mul_assoc hi (P * B) B, Nat.mul_assoc P B B, Nat.mul_comm P (B * B), Nat.mul_assoc L B B]
    omega
  have s2 : u32 * B + un1 = (q1 * B + q0) * Y + rh2 := by
    rw [e4, Nat.add_mul, Nat.add_assoc, ← e5, e6, Nat.add_mul, Nat.mul_right_comm]
    omega
  have s3 : A * P = (q1 * B + q0) * (D * P) + (rh2 * B + un0) := by
    rw [s1, s2, Nat.add_mul, Nat.mul_assoc, e9]
    omega
  have s4 : rh2 * B + un0 < D * P := by
    rw [← e9]
    have := Nat.mul_le_mul_right B e7
    rw [Nat.succ_mul] at this
    omega
  constructor
  · rw [← Nat.mul_div_mul_right A D hP, s3]
    exact (dm _ _ _ s4).1
  · have h1 := Nat.mul_mod_mul_right P A D
    rw [s3, (dm _ _ _ s4).2] at h1
    rw [h1, Nat.mul_div_cancel _ hP]

theorem bq {u q r : Nat} (h : u = q * 4000000000 + r) (hu : u < 17179869184000000000) : q * 4000000000 < 18446744073709551616 := by omega
theorem br {r n : Nat} (h : r < 4000000000) (hn : n < 4294967296) : 4294967296 * r + n < 18446744073709551616 := by omega
theorem br' {r : Nat} (h : r < 4000000000) : 4294967296 * r < 18446744073709551616 := by omega
theorem bd {a b : Nat} (h : a < 4294967296) (hn : b < 4294967296) : a * 4294967296 + b < 18446744073709551616 := by omega
theorem bd' {a : Nat} (h : a < 4294967296) : a * 4294967296 < 18446744073709551616 := by omega
theorem bw {a : Nat} (h : a < 4294967296) : a < 18446744073709551616 := by omega
theorem wl {a : Nat} (h : a < 18446744073709551616) : IntKind.u64.wrap (a : Int) = (a : Int) := wU a a (Nat.mod_eq_of_lt h).symm
theorem wsub {a b c : Nat} (h : a = c + b) (hc : c < 18446744073709551616) : IntKind.u64.wrap ((a : Int) - (b : Int)) = (c : Int) := by rw [IntKind.wrap_u64]; omega
theorem modsubn (X u n : Nat) (h : u < n) : ((((X + u) % n : Nat) : Int) - ((X % n : Nat) : Int)) % (n : Int) = (u : Int) := by
  rw [Int.natCast_emod, Int.natCast_emod, ← Int.sub_emod, Int.natCast_add, show (X : Int) + (u : Int) - (X : Int) = (u : Int) by omega]
  exact Int.emod_eq_of_lt (Int.natCast_nonneg _) (by exact_mod_cast h)
theorem modsub (X u : Nat) (h : u < 18446744073709551616) : IntKind.u64.wrap ((((X + u) % 18446744073709551616 : Nat) : Int) - ((X % 18446744073709551616 : Nat) : Int)) = (u : Int) := by
  rw [IntKind.wrap_u64]
  exact modsubn X u 18446744073709551616 h
theorem f19_num {u32 un1 q1 rh u21 : Nat} (h1 : u32 = q1 * 4000000000 + rh) (h2 : u21 = rh * 4294967296 + un1) (h3 : u21 < 17179869184000000000) :
    IntKind.u64.wrap ((((u32 * 4294967296 % 18446744073709551616 + un1) % 18446744073709551616 : Nat) : Int) - ((q1 * 17179869184000000000 % 18446744073709551616 : Nat) : Int)) = (u21 : Int) := by
  have e : u32 * 4294967296 + un1 = q1 * 17179869184000000000 + u21 := by
    rw [h1, h2, Nat.add_mul, Nat.mul_assoc, Nat.add_assoc]
  rw [Nat.mod_add_mod, e]
  have h4 : u21 < 18446744073709551616 := Nat.lt_trans h3 (by decide)
  exact modsub _ _ h4
theorem qz {u q r : Nat} (h : u = q * 4000000000 + r) (hr : r < 4000000000) : (u : Int) / ((4000000000 : Nat) : Int) = (q : Int) := by
  have : u / 4000000000 = q := by rw [h]; exact (dm _ _ _ hr).1
  rw [← this]; rfl
theorem f9_num {u n m : Nat} (h : u = n * 4294967296 + m) (hm : m < 4294967296) (hu : u < 18446744073709551616) : bits .and .u64 (u : Int) 4294967295 = (m : Int) := by
  have h9 := u64_and_nat u 4294967295 hu (by omega)
  rw [show (4294967295 : Nat) = 2 ^ 32 - 1 by decide, Nat.and_two_pow_sub_one_eq_mod] at h9
  have : u % 2 ^ 32 = m := by rw [h]; exact (dm _ _ _ hm).2
  rw [this] at h9
  exact h9
theorem f8_num {u n m : Nat} (h : u = n * 4294967296 + m) (hm : m < 4294967296) : (u : Int) / 4294967296 = (n : Int) := by
  have : u / 4294967296 = n := by rw [h]; exact (dm _ _ _ hm).1
  rw [← this]; rfl
theorem f6_num {H L u : Nat} (hh : ∃ k, H = k * 17179869184) (hL : L < 17179869184) (hH : H < 18446744073709551616) (hu : u = H + L) : bits .or .u64 (H : Int) (L : Int) = (u : Int) := by
  obtain ⟨k, hk⟩ := hh
  rw [u64_or_nat H L hH (by omega), nat_join 34 H L (by rw [hk]; exact Nat.mul_mod_left _ _) hL, hu]
theorem f32_num (d : Nat) : (d : Int) / 17179869184 = ((d / 17179869184 : Nat) : Int) := rfl
theorem nn (a : Nat) : decide ((a : Int) < 0) = false := by simp

set_option maxRecDepth 100000 in
set_option maxHeartbeats 4000000 in
theorem div_any (hi lo : Nat) (h0 : 0 < hi) (h1 : hi < 1000000000) (h2 : lo < 18446744073709551616) (w : World) :
    Calls Try.prog 40 #[.int .u64 hi, .int .u64 lo, .int .u64 1000000000] w fun e w' => e = .returned (.tuple #[.int .u64 (((hi * 18446744073709551616 + lo) / 1000000000 : Nat) : Int), .int .u64 (((hi * 18446744073709551616 + lo) % 1000000000 : Nat) : Int)]) ∧ w' = w := by
  have hl : Hid (∀ W, Calls Try.prog 55 #[.int .u64 ((1000000000 : Nat) : Int)] W fun e w' => e = .returned (.int .i64 34) ∧ w' = W) := by
    intro W
    have := lead_any 1000000000 (by omega) W
    rw [show Lib.bitLen 1000000000 = 30 by decide +kernel] at this
    exact this
  obtain ⟨H, hH⟩ : ∃ H, H = hi * 17179869184 := ⟨_, rfl⟩
  obtain ⟨L, hL⟩ : ∃ L, L = lo / 1073741824 := ⟨_, rfl⟩
  obtain ⟨u10, hu10⟩ : ∃ u10, u10 = lo * 17179869184 % 18446744073709551616 := ⟨_, rfl⟩
  have k1 : lo * 17179869184 = L * 18446744073709551616 + u10 := by omega
  have k2 : u10 < 18446744073709551616 := by omega
  have k3 : L < 17179869184 := by omega
  obtain ⟨u32, hu32⟩ : ∃ u32, u32 = H + L := ⟨_, rfl⟩
  have k4 : u32 < 17179869184000000000 := by omega
  obtain ⟨un1, un0, k5, k6⟩ := dmod u10 4294967296 (by decide)
  have k7 : un1 < 4294967296 := by omega
  obtain ⟨q1, rh, k8, k9⟩ := dmod u32 4000000000 (by decide)
  have k10 : q1 < 4294967296 := by omega
  obtain ⟨u21, k11⟩ : ∃ u21, u21 = rh * 4294967296 + un1 := ⟨_, rfl⟩
  have k12 : u21 < 17179869184000000000 := by omega
  obtain ⟨q0, rh2, k13, k14⟩ := dmod u21 4000000000 (by decide)
  have k15 : q0 < 4294967296 := by omega
  have m1 := bq k8 k4
  have m2 := bq k13 k12
  have m3 := br k9 k7
  have m4 := br k14 k6
  have m5 := bd k10 k15
  have m6 : H < 18446744073709551616 := by omega
  have m7 : L < 18446744073709551616 := by omega
  obtain ⟨hq, hr⟩ := school (hi * 18446744073709551616 + lo) hi lo 17179869184 4294967296 4000000000 1000000000 H L u32 un1 un0 q1 rh u21 q0 rh2 (by decide) (by decide) rfl hH (by rw [k1, k5]) hu32 k8 k11 k13 k14 k6 rfl
  rw [hq, hr]
  clear hq hr
  have hA : H = hi * 17179869184 := hH
  have hdu : u10 = un1 * 4294967296 + un0 := k5
  have hb0 : ((hi : Int) == 0) = false := by simp; omega
  have hb1 : (hi : Int) < ((1000000000 : Nat) : Int) := by omega
  have hmH : IntKind.u64.wrap ((hi : Int) * 17179869184) = (H : Int) := wU (hi * 17179869184) _ (by rw [← hH, Nat.mod_eq_of_lt m6])
  exact div_walk hi lo _ _ 1000000000 17179869184000000000 4000000000 H L u32 u10 un1 un0 q1 (q1 * 4000000000) rh (4294967296 * rh) (4294967296 * rh + un1) (u32 * 4294967296 % 18446744073709551616) ((u32 * 4294967296 % 18446744073709551616 + un1) % 18446744073709551616) (q1 * 17179869184000000000 % 18446744073709551616) u21 q0 (q0 * 4000000000) rh2 (4294967296 * rh2) (4294967296 * rh2 + un0) (q1 * 4294967296) (u21 * 4294967296 % 18446744073709551616) ((u21 * 4294967296 % 18446744073709551616 + un0) % 18446744073709551616) (q0 * 17179869184000000000 % 18446744073709551616) (rh2 * 4294967296 + un0)
    hb0 hb1 (by decide) w (wU (1000000000 * 17179869184) _ (by decide)) (by decide) (by decide) hmH (by rw [hL]; rfl) (f6_num ⟨hi, hH⟩ k3 m6 hu32) (wU (lo * 17179869184) _ hu10) (f8_num k5 k6) (f9_num k5 k6 k2) (by decide) (by decide) (qz k8 k9) (wl (bw k10)) (dcf _ _ k10) (wl m1) (wsub (k8.trans (Nat.add_comm _ _)) (bw (Nat.lt_trans k9 (by decide)))) (wl (br' k9)) (wl m3) (nn _)
    (wU (u32 * 4294967296) _ rfl) (wU (u32 * 4294967296 % 18446744073709551616 + un1) _ rfl) (wU (q1 * 17179869184000000000) _ rfl) (f19_num k8 k11 k12) (qz k13 k14) (wl (bw k15)) (dcf _ _ k15) (wl m2) (wsub (k13.trans (Nat.add_comm _ _)) (bw (Nat.lt_trans k14 (by decide)))) (wl (br' k14)) (wl m4) (nn _)
    (wl (bd' k10)) (wl m5) (wU (u21 * 4294967296) _ rfl) (wU (u21 * 4294967296 % 18446744073709551616 + un0) _ rfl) (wU (q0 * 17179869184000000000) _ rfl) (f19_num k13 rfl (by rw [Nat.mul_comm]; exact Nat.lt_of_lt_of_le (show 4294967296 * rh2 + un0 < 17179869184000000000 by omega) (Nat.le_refl _))) (f32_num _) hl
end Go.Proofs.Ytkbpjegmfhmhbaa
