/- The law's own examples: awake. -/
import Derived.Test.YtkbpjegmfhmhbaaCmp
namespace Go.Proofs.Ytkbpjegmfhmhbaa
open Go.RowKit Go.Shelf
attribute [local go_sem] Oper.semAt_some

theorem fromV (f : Nat) (hf : f < 18446744073709551616) (t e : Int) (ht : fromT f = t) (he : fromE f = e) (w : World) :
    Calls Try.prog 14 #[.float .f64 f] w fun x w' => x = .returned (.tuple #[.int .i64 t, .int .i64 e]) ∧ Below w.heap.size w w' :=
  (from_any f hf w).mono fun x w' ⟨hx, m, hm⟩ => ⟨by rw [hx, ht, he], by rw [hm]; exact drewN_below w m⟩
theorem resV (f : Nat) (hf : f < 18446744073709551616) (old now t e : Int) (ht : resT f old now = t) (he : resE f = e) (w : World) :
    Calls Try.prog 16 #[.float .f64 f, .int .i64 old, .int .i64 now] w fun x w' => x = .returned (.tuple #[.int .i64 t, .int .i64 e]) ∧ Below w.heap.size w w' :=
  (resolve_any f hf old now w).mono fun x w' ⟨hx, m, hm⟩ => ⟨by rw [hx, ht, he], by rw [hm]; exact drewN_below w m⟩
theorem toV (ns : Int) (h1 : -9223372036854775808 ≤ ns) (h2 : ns ≤ 9223372036854775807) (F : Nat) (hF : toF ns = F) (w : World) :
    Calls Try.prog 19 #[.int .i64 ns] w fun x w' => x = .returned (.float .f64 F) ∧ Below w.heap.size w w' :=
  (to_any ns h1 h2 w).mono fun x w' ⟨hx, m, hm⟩ => ⟨by rw [hx, hF], by rw [hm]; exact drewN_below w m⟩

theorem n15 : fromN 4609434218613702656 = 1500000000 := by
  rw [fromN_small _ 52 (by rw [ex0_eq]; decide)]; decide
theorem nm29 : fromN 4476578029606273024 = 2 := by
  rw [fromN_small _ 81 (by rw [ex0_eq]; decide)]; decide
theorem n0 : fromN 0 = 0 := by
  unfold fromN; rw [valN_zero]; exact rq_zero _ (Nat.two_pow_pos _)

theorem a1 (w : World) : Calls Try.prog 14 #[.float .f64 4609434218613702656] w fun x w' => x = .returned (.tuple #[.int .i64 1500000000, .int .i64 0]) ∧ Below w.heap.size w w' :=
  fromV _ (by decide) _ _ (by have h : fromT 4609434218613702656 = (fromN 4609434218613702656 : Int) := rfl
                              rw [h, n15]; rfl) rfl w
theorem a2 (w : World) : Calls Try.prog 14 #[.float .f64 9223372036854775808] w fun x w' => x = .returned (.tuple #[.int .i64 0, .int .i64 0]) ∧ Below w.heap.size w w' :=
  fromV _ (by decide) _ _ (by have h : fromT 9223372036854775808 = -(fromN 0 : Int) := rfl
                              rw [h, n0]; rfl) rfl w
theorem a3 (w : World) : Calls Try.prog 14 #[.float .f64 9221120237041090561] w fun x w' => x = .returned (.tuple #[.int .i64 0, .int .i64 22]) ∧ Below w.heap.size w w' :=
  fromV _ (by decide) _ _ rfl rfl w
theorem a4 (w : World) : Calls Try.prog 14 #[.float .f64 4755801206503243776] w fun x w' => x = .returned (.tuple #[.int .i64 0, .int .i64 34]) ∧ Below w.heap.size w w' :=
  fromV _ (by decide) _ _ rfl rfl w
theorem a5 (w : World) : Calls Try.prog 14 #[.float .f64 4476578029606273024] w fun x w' => x = .returned (.tuple #[.int .i64 2, .int .i64 0]) ∧ Below w.heap.size w w' :=
  fromV _ (by decide) _ _ (by have h : fromT 4476578029606273024 = (fromN 4476578029606273024 : Int) := rfl
                              rw [h, nm29]; rfl) rfl w
theorem a5l (w : World) : Calls Try.prog 26 #[.float .f64 4607182418800017408, .int .i64 (-29)] w fun x w' => x = .returned (.float .f64 4476578029606273024) ∧ w' = w :=
  ldexp_any 1023 0 994 (-29) (by decide) (by decide) (by decide) (by decide) (by decide) (by decide) w
theorem a6 (w : World) : Calls Try.prog 16 #[.float .f64 9221120237041090561, .int .i64 7, .int .i64 9] w fun x w' => x = .returned (.tuple #[.int .i64 7, .int .i64 0]) ∧ Below w.heap.size w w' :=
  resV _ (by decide) _ _ _ _ rfl rfl w
theorem a7 (w : World) : Calls Try.prog 16 #[.float .f64 9218868437227405312, .int .i64 7, .int .i64 9] w fun x w' => x = .returned (.tuple #[.int .i64 9, .int .i64 0]) ∧ Below w.heap.size w w' :=
  resV _ (by decide) _ _ _ _ rfl rfl w
theorem a8 (w : World) : Calls Try.prog 16 #[.float .f64 13830554455654793216, .int .i64 7, .int .i64 9] w fun x w' => x = .returned (.tuple #[.int .i64 0, .int .i64 22]) ∧ Below w.heap.size w w' :=
  resV _ (by decide) _ _ _ _ rfl rfl w
theorem a9 (w : World) : Calls Try.prog 16 #[.float .f64 9223372036854775808, .int .i64 7, .int .i64 9] w fun x w' => x = .returned (.tuple #[.int .i64 0, .int .i64 0]) ∧ Below w.heap.size w w' :=
  resV _ (by decide) _ _ _ _ (by have h : resT 9223372036854775808 7 9 = -(fromN 0 : Int) := rfl
                                 rw [h, n0]; rfl) rfl w
theorem a10 (w : World) : Calls Try.prog 19 #[.int .i64 1500000000] w fun x w' => x = .returned (.float .f64 4609434218613702656) ∧ Below w.heap.size w w' :=
  toV _ (by decide) (by decide) _ (by decide +kernel) w
theorem b1 (w : World) : Calls Try.prog 21 #[.float .f64 9223372036854775808, .float .f64 0] w fun x w' => x = .returned (.int .i64 (-1)) ∧ Below w.heap.size w w' :=
  compare_any _ _ (by decide) (by decide) w
theorem b2 (w : World) : Calls Try.prog 21 #[.float .f64 9221120237041090561, .float .f64 9218868437227405312] w fun x w' => x = .returned (.int .i64 1) ∧ Below w.heap.size w w' :=
  compare_any _ _ (by decide) (by decide) w
theorem b3 (w : World) : Calls Try.prog 21 #[.float .f64 9221120237041090561, .float .f64 9221120237041090561] w fun x w' => x = .returned (.int .i64 0) ∧ Below w.heap.size w w' :=
  compare_any _ _ (by decide) (by decide) w

set_option maxRecDepth 100000 in
set_option maxHeartbeats 8000000 in
theorem awake_any (w : World) : Calls Try.prog 12 #[] w fun e w' => e = .returned (.bool true) ∧ Below w.heap.size w w' := by
  go_enter Try.func12, Try.ntmps12
  go_wp2_with fail
  refine (minus_any _).mono ?_; rintro e w1 ⟨rfl, rfl⟩
  go_wp2_with fail
  refine (a1 _).mono ?_; rintro e w2 ⟨rfl, h2⟩
  replace h2 := Lib.hid h2
  go_wp2_with fail
  refine (a2 _).mono ?_; rintro e w3 ⟨rfl, h3⟩
  replace h3 := Lib.hid h3
  go_wp2_with fail
  refine (nan_any _).mono ?_; rintro e wz ⟨rfl, rfl⟩
  go_wp2_with fail
  refine (a3 _).mono ?_; rintro e w4 ⟨rfl, h4⟩
  replace h4 := Lib.hid h4
  go_wp2_with fail
  refine (a4 _).mono ?_; rintro e w5 ⟨rfl, h5⟩
  replace h5 := Lib.hid h5
  go_wp2_with fail
  refine (a5l _).mono ?_; rintro e wz ⟨rfl, rfl⟩
  go_wp2_with fail
  refine (a5 _).mono ?_; rintro e w6 ⟨rfl, h6⟩
  replace h6 := Lib.hid h6
  go_wp2_with fail
  refine (nan_any _).mono ?_; rintro e wz ⟨rfl, rfl⟩
  go_wp2_with fail
  refine (a6 _).mono ?_; rintro e w7 ⟨rfl, h7⟩
  replace h7 := Lib.hid h7
  go_wp2_with fail
  refine (inf1_any _).mono ?_; rintro e wz ⟨rfl, rfl⟩
  go_wp2_with fail
  refine (a7 _).mono ?_; rintro e w8 ⟨rfl, h8⟩
  replace h8 := Lib.hid h8
  go_wp2_with fail
  refine (a8 _).mono ?_; rintro e w9 ⟨rfl, h9⟩
  replace h9 := Lib.hid h9
  go_wp2_with fail
  refine (a9 _).mono ?_; rintro e w10 ⟨rfl, h10⟩
  replace h10 := Lib.hid h10
  go_wp2_with fail
  refine (a10 _).mono ?_; rintro e w11 ⟨rfl, h11⟩
  replace h11 := Lib.hid h11
  go_wp2_with fail
  refine (b1 _).mono ?_; rintro e w12 ⟨rfl, h12⟩
  replace h12 := Lib.hid h12
  go_wp2_with fail
  refine (nan_any _).mono ?_; rintro e wz ⟨rfl, rfl⟩
  go_wp2_with fail
  refine (inf1_any _).mono ?_; rintro e wz ⟨rfl, rfl⟩
  go_wp2_with fail
  refine (b2 _).mono ?_; rintro e w13 ⟨rfl, h13⟩
  replace h13 := Lib.hid h13
  go_wp2_with fail
  refine (nan_any _).mono ?_; rintro e wz ⟨rfl, rfl⟩
  go_wp2_with fail
  refine (nan_any _).mono ?_; rintro e wz ⟨rfl, rfl⟩
  go_wp2_with fail
  refine (b3 _).mono ?_; rintro e w14 ⟨rfl, h14⟩
  replace h14 := Lib.hid h14
  go_wp2_with fail
  go_ret
  refine ⟨rfl, ?_⟩
  have hb := h2.out
  replace hb := hb.trans (h3.out.mono hb.size)
  replace hb := hb.trans (h4.out.mono hb.size)
  replace hb := hb.trans (h5.out.mono hb.size)
  replace hb := hb.trans (h6.out.mono hb.size)
  replace hb := hb.trans (h7.out.mono hb.size)
  replace hb := hb.trans (h8.out.mono hb.size)
  replace hb := hb.trans (h9.out.mono hb.size)
  replace hb := hb.trans (h10.out.mono hb.size)
  replace hb := hb.trans (h11.out.mono hb.size)
  replace hb := hb.trans (h12.out.mono hb.size)
  replace hb := hb.trans (h13.out.mono hb.size)
  replace hb := hb.trans (h14.out.mono hb.size)
  exact hb
end Go.Proofs.Ytkbpjegmfhmhbaa
