/- awake: the document's examples stand. -/
import Derived.Test.YthnffhhbdihalaaOps
namespace Go.Proofs.Ythnffhhbdihalaa
open Go.RowKit Go.Shelf

variable {n₀ : Nat} {w0 w : World} {T : Nat} {R : Int → List Clm}

/-- A table with claims at key 7 alone. -/
def R7 (l : List Clm) : Int → List Clm := setRow (fun _ => []) 7 l
theorem R7_at (l : List Clm) : R7 l 7 = l := by simp [R7, setRow]
theorem R7_set (l l' : List Clm) : setRow (R7 l) 7 l' = R7 l' := by funext k; unfold R7 setRow; split <;> rfl

theorem ask7_ok {l : List Clm} (h : TabI n₀ w0 w T (R7 l)) (th : Int) (al : Bool) (h1 : 1 ≤ th ∧ th ≤ 64) (hf : findAt l th = none) :
    Calls Try.prog 12 #[.pointer (some ⟨T, 0, none⟩), .int .i64 th, .int .i64 7, .bool al] w fun e w' => e = .returned (.int .i64 0) ∧ TabI n₀ w0 w' T (R7 (l ++ [⟨th, al⟩])) := by
  refine (h.ask th 7 al).mono ?_
  rintro e w' ⟨he, ht⟩
  unfold askE at he
  unfold askR at ht
  rw [if_pos (by rw [R7_at]; exact ⟨h1.1, h1.2, by omega, hf⟩)] at he ht
  rw [R7_at, R7_set] at ht
  exact ⟨he, ht⟩
theorem ask7_no {l : List Clm} (h : TabI n₀ w0 w T (R7 l)) (th : Int) (al : Bool) {i : Nat} (hf : findAt l th = some i) :
    Calls Try.prog 12 #[.pointer (some ⟨T, 0, none⟩), .int .i64 th, .int .i64 7, .bool al] w fun e w' => e = .returned (.int .i64 22) ∧ TabI n₀ w0 w' T (R7 l) := by
  refine (h.ask th 7 al).mono ?_
  rintro e w' ⟨he, ht⟩
  unfold askE at he
  unfold askR at ht
  rw [if_neg (by rw [R7_at, hf]; intro h; cases h.2.2.2)] at he ht
  exact ⟨he, ht⟩
theorem leave7_ok {l : List Clm} (h : TabI n₀ w0 w T (R7 l)) (th : Int) {i : Nat} (hf : findAt l th = some i) :
    Calls Try.prog 14 #[.pointer (some ⟨T, 0, none⟩), .int .i64 th, .int .i64 7] w fun e w' => e = .returned (.int .i64 0) ∧ TabI n₀ w0 w' T (R7 (l.eraseIdx i)) := by
  refine (h.leave th 7).mono ?_
  rintro e w' ⟨he, ht⟩
  unfold leaveE at he
  unfold leaveR at ht
  rw [R7_at, hf] at he ht
  dsimp only at ht
  rw [R7_set] at ht
  exact ⟨he, ht⟩
theorem leave7_no {l : List Clm} (h : TabI n₀ w0 w T (R7 l)) (th : Int) (hf : findAt l th = none) :
    Calls Try.prog 14 #[.pointer (some ⟨T, 0, none⟩), .int .i64 th, .int .i64 7] w fun e w' => e = .returned (.int .i64 22) ∧ TabI n₀ w0 w' T (R7 l) := by
  refine (h.leave th 7).mono ?_
  rintro e w' ⟨he, ht⟩
  unfold leaveE at he
  unfold leaveR at ht
  rw [R7_at, hf] at he ht
  exact ⟨he, ht⟩
theorem holds7 {l : List Clm} (h : TabI n₀ w0 w T (R7 l)) (th : Int) {b : Bool} (hb : (findV l th).2.2 = b) :
    Calls Try.prog 16 #[.pointer (some ⟨T, 0, none⟩), .int .i64 th, .int .i64 7] w fun e w' => e = .returned (.bool b) ∧ TabI n₀ w0 w' T (R7 l) := by
  refine (h.holds th 7).mono ?_
  rintro e w' ⟨he, ht⟩
  rw [R7_at, hb] at he
  exact ⟨he, ht⟩
theorem claims7 {l : List Clm} (h : TabI n₀ w0 w T (R7 l)) :
    Calls Try.prog 18 #[.pointer (some ⟨T, 0, none⟩), .int .i64 7] w fun e w' => ∃ a c, e = .returned (.slice a l.length c) ∧ TabI n₀ w0 w' T (R7 l) := by
  refine (h.claims 7).mono ?_
  rintro e w' ⟨v, he, ho, ht, _⟩
  rw [R7_at] at ho
  rcases ho.2 with ⟨rfl, h0⟩ | ⟨g, cap, cur, rfl, _⟩
  · exact ⟨none, 0, by rw [he, h0], ht⟩
  · exact ⟨_, _, he, ht⟩
theorem free7 {l : List Clm} (h : TabI n₀ w0 w T (R7 l)) (hl : l ≠ []) :
    Calls Try.prog 20 #[.pointer (some ⟨T, 0, none⟩)] w fun e w' => e = .returned (.bool false) ∧ TabI n₀ w0 w' T (R7 l) := by
  refine h.free.mono ?_
  rintro e w' ⟨b, he, hb, rfl⟩
  refine ⟨?_, h⟩
  have : b = false := by
    cases b with
    | false => rfl
    | true =>
      have := hb.1 rfl 7
      rw [R7_at] at this
      exact absurd this hl
  rw [he, this]
theorem free_new (h : TabI n₀ w0 w T (fun _ => [])) :
    Calls Try.prog 20 #[.pointer (some ⟨T, 0, none⟩)] w fun e w' => e = .returned (.bool true) ∧ w' = w := by
  refine h.free.mono ?_
  rintro e w' ⟨b, he, hb, rfl⟩
  exact ⟨by rw [he, hb.2 (fun _ => rfl)], rfl⟩
theorem R7_nil : (fun _ => []) = R7 [] := by funext k; unfold R7 setRow; split <;> rfl

set_option maxRecDepth 100000 in
set_option maxHeartbeats 4000000 in
theorem awake_any (w : World) : Calls Try.prog 10 #[] w fun e w' => e = .returned (.bool true) ∧ Below w.heap.size w w' := by
  go_enter Try.func10, Try.ntmps10
  go_wp2_with fail
  refine (new_I _).mono ?_; rintro e w1 ⟨rfl, t1⟩
  rw [R7_nil] at t1
  go_wp2_with fail
  refine (ask7_ok t1 1 false (by omega) rfl).mono ?_; rintro e w2 ⟨rfl, t2⟩; clear t1
  go_wp2_with fail
  refine (ask7_ok t2 2 false (by omega) rfl).mono ?_; rintro e w3 ⟨rfl, t3⟩; clear t2
  go_wp2_with fail
  refine (ask7_ok t3 3 true (by omega) rfl).mono ?_; rintro e w4 ⟨rfl, t4⟩; clear t3
  go_wp2_with fail
  refine (ask7_ok t4 4 false (by omega) rfl).mono ?_; rintro e w5 ⟨rfl, t5⟩; clear t4
  go_wp2_with fail
  refine (holds7 t5 1 (b := true) rfl).mono ?_; rintro e w6 ⟨rfl, t6⟩; clear t5
  go_wp2_with fail
  refine (holds7 t6 2 (b := true) rfl).mono ?_; rintro e w7 ⟨rfl, t7⟩; clear t6
  go_wp2_with fail
  refine (holds7 t7 3 (b := false) rfl).mono ?_; rintro e w8 ⟨rfl, t8⟩; clear t7
  go_wp2_with fail
  refine (holds7 t8 4 (b := false) rfl).mono ?_; rintro e w9 ⟨rfl, t9⟩; clear t8
  go_wp2_with fail
  refine (claims7 t9).mono ?_; rintro e w10 ⟨a1, c1, rfl, t10⟩; clear t9
  go_wp2_with fail
  refine (leave7_ok t10 1 (i := 0) rfl).mono ?_; rintro e w11 ⟨rfl, t11⟩; clear t10
  go_wp2_with fail
  refine (leave7_ok t11 2 (i := 0) rfl).mono ?_; rintro e w12 ⟨rfl, t12⟩; clear t11
  go_wp2_with fail
  refine (ask7_no t12 3 true (i := 0) rfl).mono ?_; rintro e w13 ⟨rfl, t13⟩; clear t12
  go_wp2_with fail
  refine (holds7 t13 3 (b := true) rfl).mono ?_; rintro e w14 ⟨rfl, t14⟩; clear t13
  go_wp2_with fail
  refine (holds7 t14 4 (b := false) rfl).mono ?_; rintro e w15 ⟨rfl, t15⟩; clear t14
  go_wp2_with fail
  refine (free7 t15 (by simp)).mono ?_; rintro e w16 ⟨rfl, t16⟩; clear t15
  go_wp2_with fail
  refine (leave7_no t16 5 rfl).mono ?_; rintro e w17 ⟨rfl, t17⟩; clear t16
  go_wp2_with fail
  refine (new_I _).mono ?_; rintro e w18 ⟨rfl, t18⟩
  go_wp2_with fail
  refine (free_new t18).mono ?_; rintro e w19 ⟨rfl, rfl⟩
  go_wp2_with fail
  go_ret
  exact ⟨rfl, t17.frame.trans (t18.frame.mono t17.size)⟩
end Go.Proofs.Ythnffhhbdihalaa
