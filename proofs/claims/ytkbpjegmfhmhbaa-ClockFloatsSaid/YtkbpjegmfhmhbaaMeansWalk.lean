/- ClockMeans: the walk. -/
import Derived.Test.YtkbpjegmfhmhbaaSignWalk
namespace Go.Proofs.Ytkbpjegmfhmhbaa
open Go.RowKit Go.Shelf
attribute [local go_sem] Oper.semAt_some

theorem rb (f : Nat) (hf : f < 18446744073709551616) (old now : Int) (w : World) :
    Calls Try.prog 16 #[.float .f64 f, .int .i64 old, .int .i64 now] w fun x w' => x = .returned (.tuple #[.int .i64 (resT f old now), .int .i64 (resE f)]) ∧ Below w.heap.size w w' := resV f hf old now _ _ rfl rfl w

theorem not_neg (f : Nat) (hn : nanB f = false) (h : ltF f 0 = false) : negB f = false ∨ rung f = 0 := by
  unfold ltF at h
  rw [hn, show nanB 0 = false by decide, show sv 0 = 0 by decide] at h
  unfold sv at h
  cases hb : negB f
  · exact Or.inl rfl
  · right
    rw [hb] at h
    simp at h
    omega
theorem fromT_pos (f : Nat) (hn : nanB f = false) (h : ltF f 0 = false) : 0 ≤ fromT f := by
  unfold fromT
  rw [hn]
  rcases not_neg f hn h with h1 | h1
  · rw [h1]; simp; split <;> omega
  · rw [h1, n0]; simp
theorem fromE_cases (f : Nat) (hn : nanB f = false) : (fromE f = 0) ∨ (fromE f = 34 ∧ fromT f = 0) := by
  unfold fromE fromT
  rw [hn, if_neg Bool.false_ne_true, if_neg Bool.false_ne_true]
  by_cases c : topR ≤ rung f
  · rw [if_pos c, if_pos c]; exact Or.inr ⟨rfl, rfl⟩
  · rw [if_neg c]; exact Or.inl rfl

set_option maxHeartbeats 8000000 in
theorem means_walk (x old now : Int) (h0 : 0 ≤ x) (h1 : x < 18446744073709551616) (w : World) : Calls Try.prog 11 #[.int .u64 x, .int .i64 old, .int .i64 now] w fun e w' => e = .returned (.bool true) ∧ Below w.heap.size w w' := by
  obtain ⟨f, hf⟩ : ∃ f, x.toNat = f := ⟨_, rfl⟩
  have hlt : f < 18446744073709551616 := by omega
  have hfb : ∀ W, (callFunc 13 #[.int .u64 x]).run Try.prog W = .ok (.value (.float .f64 f)) W := fun W => by rw [run_frombits, hf]
  have hr := fun W => rb f hlt old now W
  have hfr := fun W => fb f hlt W
  have hi := fun W => isinf1 f W
  have hself : (FloatKind.f64.format.order f f != some .eq) = nanB f := eq_self f
  have hpos := fromT_pos f
  have hcs := fromE_cases f
  unfold resT resE at hr
  generalize ltF maxF f = B at *
  generalize ltF f 0 = C at *
  generalize nanB f = A at *
  generalize fromT f = T at *
  generalize fromE f = E at *
  clear hf hlt h0 h1
  replace hr := Lib.hid hr
  replace hfr := Lib.hid hfr
  replace hi := Lib.hid hi
  have hawk := fun W => awake_any W
  replace hawk := Lib.hid hawk
  cases A
  · cases B
    · cases C
      · have hT := hpos rfl rfl
        clear hpos
        rcases hcs rfl with rfl | ⟨rfl, rfl⟩
        · clear hcs
          go_enter Try.func11, Try.ntmps11
          go_wp2_with fail
          refine (hawk.out _).mono ?_; rintro e w1 ⟨rfl, k1⟩
          replace k1 := Lib.hid k1
          go_wp2_with fail
          refine (hr.out _).mono ?_; rintro e w2 ⟨rfl, k2⟩
          replace k2 := Lib.hid k2
          go_wp2_with fail
          refine (hi.out _).mono ?_; rintro e w3 ⟨rfl, rfl⟩
          go_wp2_with fail
          refine (hfr.out _).mono ?_; rintro e w4 ⟨rfl, k4⟩
          replace k4 := Lib.hid k4
          go_wp2_with fail
          go_ret
          refine ⟨by simp [hT], ?_⟩
          have k := k1.out
          replace k := k.trans (k2.out.mono k.size)
          exact k.trans (k4.out.mono k.size)
        · clear hcs
          go_enter Try.func11, Try.ntmps11
          go_wp2_with fail
          refine (hawk.out _).mono ?_; rintro e w1 ⟨rfl, k1⟩
          replace k1 := Lib.hid k1
          go_wp2_with fail
          refine (hr.out _).mono ?_; rintro e w2 ⟨rfl, k2⟩
          replace k2 := Lib.hid k2
          go_wp2_with fail
          go_ret
          exact ⟨rfl, k1.out.trans (k2.out.mono k1.out.size)⟩
      · clear hpos hcs
        go_enter Try.func11, Try.ntmps11
        go_wp2_with fail
        refine (hawk.out _).mono ?_; rintro e w1 ⟨rfl, k1⟩
        replace k1 := Lib.hid k1
        go_wp2_with fail
        refine (hr.out _).mono ?_; rintro e w2 ⟨rfl, k2⟩
        replace k2 := Lib.hid k2
        go_wp2_with fail
        go_ret
        exact ⟨rfl, k1.out.trans (k2.out.mono k1.out.size)⟩
    · clear hpos hcs
      go_enter Try.func11, Try.ntmps11
      go_wp2_with fail
      refine (hawk.out _).mono ?_; rintro e w1 ⟨rfl, k1⟩
      replace k1 := Lib.hid k1
      go_wp2_with fail
      refine (hr.out _).mono ?_; rintro e w2 ⟨rfl, k2⟩
      replace k2 := Lib.hid k2
      go_wp2_with fail
      refine (hi.out _).mono ?_; rintro e w3 ⟨rfl, rfl⟩
      go_wp2_with fail
      go_ret
      exact ⟨by simp, k1.out.trans (k2.out.mono k1.out.size)⟩
  · clear hpos hcs
    go_enter Try.func11, Try.ntmps11
    go_wp2_with fail
    refine (hawk.out _).mono ?_; rintro e w1 ⟨rfl, k1⟩
    replace k1 := Lib.hid k1
    go_wp2_with fail
    refine (hr.out _).mono ?_; rintro e w2 ⟨rfl, k2⟩
    replace k2 := Lib.hid k2
    go_wp2_with fail
    go_ret
    exact ⟨by simp, k1.out.trans (k2.out.mono k1.out.size)⟩
theorem means_row (x old now : Int) (h : (Lit.int .u64 x).wf = true) (w : World) : Calls Try.prog 11 #[.int .u64 x, .int .i64 old, .int .i64 now] w fun e w' => e = .returned (.bool true) ∧ Below w.heap.size w w' :=
  means_walk x old now (wf_u64' h).1 (wf_u64' h).2 w
end Go.Proofs.Ytkbpjegmfhmhbaa
