/- ClockTimes: the walk. -/
import Derived.Test.YtkbpjegmfhmhbaaTimesRef
namespace Go.Proofs.Ytkbpjegmfhmhbaa
open Go.RowKit Go.Shelf
attribute [local go_sem] Oper.semAt_some

set_option maxHeartbeats 4000000 in
theorem refres_any (f : Nat) (hf : f < 18446744073709551616) (old now : Int) (w : World) :
    Calls Try.prog 17 #[.float .f64 f, .int .i64 old, .int .i64 now] w fun e w' => e = .returned (.tuple #[.int .i64 (resT f old now), .int .i64 (resE f)]) ∧ Below w.heap.size w w' := by
  have hn := fun W => none_any f W
  have hi : (FloatKind.f64.format.order f 9218868437227405311 == some .gt) = ltF maxF f := gtr_f f maxF
  have hz : (FloatKind.f64.format.order f 0 == some .lt) = ltF f 0 := lss_f f 0
  have hfr := fun W => reffrom_any f hf W
  unfold resE resT
  generalize nanB f = A at *
  generalize ltF maxF f = B at *
  generalize ltF f 0 = C at *
  generalize fromT f = T at *
  generalize fromE f = E at *
  clear hf
  replace hn := Lib.hid hn
  replace hfr := Lib.hid hfr
  cases A
  · cases B
    · cases C
      · go_enter Try.func17, Try.ntmps17
        go_wp2_with fail
        refine (hn.out _).mono ?_; rintro e w' ⟨rfl, rfl⟩
        go_wp2_with fail
        refine (hfr.out _).mono ?_; rintro e w' ⟨rfl, hm⟩
        replace hm := Lib.hid hm
        go_wp2_with fail
        go_ret2
        exact ⟨rfl, hm.out⟩
      · go_enter Try.func17, Try.ntmps17
        go_wp2_with fail
        refine (hn.out _).mono ?_; rintro e w' ⟨rfl, rfl⟩
        go_wp2_with fail
        go_ret2
        exact ⟨rfl, Below.refl _ _⟩
    · go_enter Try.func17, Try.ntmps17
      go_wp2_with fail
      refine (hn.out _).mono ?_; rintro e w' ⟨rfl, rfl⟩
      go_wp2_with fail
      go_ret2
      exact ⟨rfl, Below.refl _ _⟩
  · go_enter Try.func17, Try.ntmps17
    go_wp2_with fail
    refine (hn.out _).mono ?_; rintro e w' ⟨rfl, rfl⟩
    go_wp2_with fail
    go_ret2
    exact ⟨rfl, Below.refl _ _⟩

set_option maxRecDepth 100000 in
set_option maxHeartbeats 8000000 in
theorem times_walk (x old now : Int) (h0 : 0 ≤ x) (h1 : x < 18446744073709551616) (w : World) : Calls Try.prog 3 #[.int .u64 x, .int .i64 old, .int .i64 now] w fun e w' => e = .returned (.bool true) ∧ Below w.heap.size w w' := by
  obtain ⟨f, hf⟩ : ∃ f, x.toNat = f := ⟨_, rfl⟩
  have hlt : f < 18446744073709551616 := by omega
  have hfb : ∀ W, (callFunc 13 #[.int .u64 x]).run Try.prog W = .ok (.value (.float .f64 f)) W := fun W => by rw [run_frombits, hf]
  have ha := fun W => fb f hlt W
  have hb := fun W => reffrom_any f hlt W
  have hc := fun W => rb f hlt old now W
  have hd := fun W => refres_any f hlt old now W
  generalize resT f old now = T at *
  generalize resE f = E at *
  generalize fromT f = S at *
  generalize fromE f = D at *
  clear hf hlt h0 h1
  have hawk := fun W => awake_any W
  replace hawk := Lib.hid hawk
  replace ha := Lib.hid ha
  replace hb := Lib.hid hb
  replace hc := Lib.hid hc
  replace hd := Lib.hid hd
  go_enter Try.func3, Try.ntmps3
  go_wp2_with fail
  refine (hawk.out _).mono ?_; rintro e w1 ⟨rfl, k1⟩
  replace k1 := Lib.hid k1
  go_wp2_with fail
  refine (ha.out _).mono ?_; rintro e w2 ⟨rfl, k2⟩
  replace k2 := Lib.hid k2
  go_wp2_with fail
  refine (hb.out _).mono ?_; rintro e w3 ⟨rfl, k3⟩
  replace k3 := Lib.hid k3
  go_wp2_with fail
  refine (hc.out _).mono ?_; rintro e w4 ⟨rfl, k4⟩
  replace k4 := Lib.hid k4
  go_wp2_with fail
  refine (hd.out _).mono ?_; rintro e w5 ⟨rfl, k5⟩
  replace k5 := Lib.hid k5
  go_wp2_with fail
  go_ret
  refine ⟨by first | rfl | simp, ?_⟩
  have k := k1.out
  replace k := k.trans (k2.out.mono k.size)
  replace k := k.trans (k3.out.mono k.size)
  replace k := k.trans (k4.out.mono k.size)
  exact k.trans (k5.out.mono k.size)
theorem times_row (x old now : Int) (h : (Lit.int .u64 x).wf = true) (w : World) : Calls Try.prog 3 #[.int .u64 x, .int .i64 old, .int .i64 now] w fun e w' => e = .returned (.bool true) ∧ Below w.heap.size w w' :=
  times_walk x old now (wf_u64' h).1 (wf_u64' h).2 w
end Go.Proofs.Ytkbpjegmfhmhbaa
