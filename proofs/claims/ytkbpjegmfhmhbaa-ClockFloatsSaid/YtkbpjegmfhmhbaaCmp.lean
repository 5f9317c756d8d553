/- Compare. -/
import Derived.Test.YtkbpjegmfhmhbaaPos
namespace Go.Proofs.Ytkbpjegmfhmhbaa
open Go.RowKit Go.Shelf
attribute [local go_sem] Oper.semAt_some

theorem drewN_below (w : World) (m : Nat) : Below w.heap.size w (w.drewN m) := ⟨rfl, rfl, rfl, Nat.le_refl _, fun _ _ => rfl⟩

set_option maxHeartbeats 4000000 in
theorem or_any (b : Nat) (v1 v2 : Int) (w : World) (c0 : w.cell? ⟨b, 0, none⟩ = some (.int .i64 v1)) (c1 : w.cell? ⟨b, 1, none⟩ = some (.int .i64 v2)) :
    Calls Try.prog 47 #[.slice (some ⟨b, 0, none⟩) 2 2] w fun e w' => e = .returned (.int .i64 (if v1 = 0 then v2 else v1)) ∧ ∃ m, w' = w.drewN m := by
  obtain ⟨r, hr⟩ : ∃ r, (if v1 = 0 then v2 else v1) = r := ⟨_, rfl⟩
  rw [hr]
  replace hr := Lib.hid hr
  go_enter Try.func47, Try.ntmps47
  go_wp2_with fail
  go_loopw [8] (fun i wr => ∃ k : Nat, k ≤ 2 ∧ i = .int .i64 k ∧ (∃ m, wr = w.drewN m) ∧ (1 ≤ k → v1 = 0) ∧ (2 ≤ k → v2 = 0)) (fun i _ => 2 - (intOf i).toNat)
  case atStart => exact ⟨0, by omega, rfl, ⟨0, rfl⟩, by omega, by omega⟩
  case round =>
    obtain ⟨k, hk, rfl, ⟨m, rfl⟩, z1, z2⟩ := hrel
    obtain ⟨wi, hwi⟩ : ∃ wi, w.drewN m = wi := ⟨_, rfl⟩
    have d0 : wi.cell? ⟨b, 0, none⟩ = some (.int .i64 v1) := by rw [← hwi]; exact c0
    have d1 : wi.cell? ⟨b, 1, none⟩ = some (.int .i64 v2) := by rw [← hwi]; exact c1
    have hdn : ∀ n, ∃ m, wi.drewN n = w.drewN m := fun n => ⟨m + n, by rw [← hwi]; exact World.drewN_drewN w m n⟩
    rw [hwi]
    replace hwi := Lib.hid hwi
    replace hdn := Lib.hid hdn
    clear c0 c1
    have hk3 : k = 0 ∨ k = 1 ∨ k = 2 := by omega
    rcases hk3 with rfl | rfl | rfl
    · clear z1 z2 hk d1
      by_cases h0 : v1 = 0
      · have hb : (v1 != 0) = false := by simp [h0]
        replace h0 := Lib.hid h0
        go_wp2_with fail
        go_roundw
        case rel => exact ⟨1, by omega, by go_num, ⟨m, hwi.out.symm⟩, fun _ => h0.out, by omega⟩
        case measure => simp [intOf]
      · have hb : (v1 != 0) = true := by simp [h0]
        have hr2 : v1 = r := by rw [← hr.out, if_neg h0]
        subst hr2
        replace h0 := Lib.hid h0
        go_wp2_with fail
        go_ret
        exact ⟨rfl, ⟨m, hwi.out.symm⟩⟩
    · have z1 := z1 (by omega)
      clear z2 hk d0
      by_cases h0 : v2 = 0
      · have hb : (v2 != 0) = false := by simp [h0]
        replace h0 := Lib.hid h0
        replace z1 := Lib.hid z1
        go_wp2_with fail
        go_roundw
        case rel => exact ⟨2, by omega, by go_num, ⟨m, hwi.out.symm⟩, fun _ => z1.out, fun _ => h0.out⟩
        case measure => simp [intOf]
      · have hb : (v2 != 0) = true := by simp [h0]
        have hr2 : v2 = r := by rw [← hr.out, if_pos z1]
        subst hr2
        replace h0 := Lib.hid h0
        replace z1 := Lib.hid z1
        go_wp2_with fail
        go_ret
        exact ⟨rfl, ⟨m, hwi.out.symm⟩⟩
    · have z1 := z1 (by omega)
      have z2 := z2 (by omega)
      have hr2 : r = 0 := by rw [← hr.out, if_pos z1, z2]
      subst hr2
      replace z1 := Lib.hid z1
      replace z2 := Lib.hid z2
      clear d0 d1
      go_wp2_with fail
      go_ret
      exact ⟨rfl, ⟨m, hwi.out.symm⟩⟩

/-- How x stands to y. -/
def cmpV (x y : Nat) : Int :=
  if nanB x || nanB y then (if nanB x then 1 else 0) - (if nanB y then 1 else 0)
  else if sv x < sv y then -1 else if sv y < sv x then 1 else (if negB x then 0 else 1) - (if negB y then 0 else 1)

theorem below_alloc (w : World) (o : Obj) (m : Nat) : Below w.heap.size w ((w.alloc o).drewN m) :=
  ((Below.refl _ w).alloc (Nat.le_refl _) o).trans ((drewN_below _ m).mono (by simp))

set_option maxHeartbeats 4000000 in
theorem compare_any (x y : Nat) (hfx : x < 18446744073709551616) (hfy : y < 18446744073709551616) (w : World) :
    Calls Try.prog 21 #[.float .f64 x, .float .f64 y] w fun e w' => e = .returned (.int .i64 (cmpV x y)) ∧ Below w.heap.size w w' := by
  have h1 := fun W => cl45 x W
  have h2 := fun W => cl45 y W
  have hv1 := fun W => cl46 x hfx W
  have hv2 := fun W => cl46 y hfy W
  clear hfx hfy
  have hor := fun (b : Nat) (v1 v2 : Int) (W : World) => or_any b v1 v2 W
  unfold cmpV
  by_cases hn : (nanB x || nanB y) = true
  · rw [if_pos hn]
    have hs : ((if nanB x then 1 else 0 : Int) + (if nanB y then 1 else 0)) > 0 ∧ 0 ≤ (if nanB x then 1 else 0 : Int) ∧ 0 ≤ (if nanB y then 1 else 0 : Int) ∧ (if nanB x then 1 else 0 : Int) ≤ 1 ∧ (if nanB y then 1 else 0 : Int) ≤ 1 := by
      generalize nanB x = A at *
      generalize nanB y = B at *
      revert hn
      cases A <;> cases B <;> simp
    generalize (if nanB x then 1 else 0 : Int) = V1 at *
    generalize (if nanB y then 1 else 0 : Int) = V2 at *
    obtain ⟨s1, s2, s3, s4, s5⟩ := hs
    have s6 : decide (0 < V1 + V2) = true := decide_eq_true s1
    clear hn hv1 hv2 hor
    go_enter Try.func21, Try.ntmps21
    go_wp2_with fail
    refine (h1 _).mono ?_; rintro e w' ⟨rfl, rfl⟩
    go_wp2_with fail
    refine (h2 _).mono ?_; rintro e w' ⟨rfl, rfl⟩
    go_wp2_with fail
    refine (h1 _).mono ?_; rintro e w' ⟨rfl, rfl⟩
    go_wp2_with fail
    refine (h2 _).mono ?_; rintro e w' ⟨rfl, rfl⟩
    go_wp2_with fail
    go_ret
    exact ⟨rfl, drewN_below _ 0⟩
  · rw [if_neg hn]
    have hx : nanB x = false := by cases h : nanB x <;> simp_all
    have hy : nanB y = false := by cases h : nanB y <;> simp_all
    rw [hx] at h1
    rw [hy] at h2
    have hc := fun W => cmpf_any x y hx hy W
    have bb1 : ∃ V, (if negB x then 0 else 1 : Int) = V ∧ 0 ≤ V ∧ V ≤ 1 := ⟨_, rfl, by split <;> omega, by split <;> omega⟩
    have bb2 : ∃ V, (if negB y then 0 else 1 : Int) = V ∧ 0 ≤ V ∧ V ≤ 1 := ⟨_, rfl, by split <;> omega, by split <;> omega⟩
    obtain ⟨V1, e1, l1, u1⟩ := bb1
    obtain ⟨V2, e2, l2, u2⟩ := bb2
    rw [e1] at hv1 ⊢
    rw [e2] at hv2 ⊢
    obtain ⟨C, hC⟩ : ∃ C, (if sv x < sv y then -1 else if sv y < sv x then 1 else 0 : Int) = C := ⟨_, rfl⟩
    have hgoal : (if sv x < sv y then -1 else if sv y < sv x then 1 else V1 - V2 : Int) = if C = 0 then V1 - V2 else C := by
      rw [← hC]
      clear hC hv1 hv2 h1 h2 hc hor
      split
      · rfl
      · split <;> rfl
    rw [hC] at hc
    rw [hgoal]
    clear hC hgoal hn hx hy
    obtain ⟨R, hR⟩ : ∃ R, (if C = 0 then V1 - V2 else C) = R := ⟨_, rfl⟩
    have hor := fun (b : Nat) (W : World) => hor b C (V1 - V2) W
    rw [hR] at hor ⊢
    clear hR
    replace hor := Lib.hid hor
    replace hv1 := Lib.hid hv1
    replace hv2 := Lib.hid hv2
    replace hc := Lib.hid hc
    replace h1 := Lib.hid h1
    replace h2 := Lib.hid h2
    replace e1 := Lib.hid e1
    replace e2 := Lib.hid e2
    go_enter Try.func21, Try.ntmps21
    go_wp2_with fail
    refine (h1.out _).mono ?_; rintro e w' ⟨rfl, rfl⟩
    go_wp2_with fail
    refine (h2.out _).mono ?_; rintro e w' ⟨rfl, rfl⟩
    go_wp2_with fail
    refine (hc.out _).mono ?_; rintro e w' ⟨rfl, rfl⟩
    go_wp2_with fail
    refine (hv1.out _).mono ?_; rintro e w' ⟨rfl, rfl⟩
    go_wp2_with fail
    refine (hv2.out _).mono ?_; rintro e w' ⟨rfl, rfl⟩
    go_wp2_with fail
    refine (hor.out _ _ (by simp) (by simp)).mono ?_; rintro e w2 ⟨rfl, m, rfl⟩
    have hb := below_alloc w' (Obj.cells #[Value.int IntKind.i64 C, Value.int IntKind.i64 (V1 - V2)] 3) m
    replace hb := Lib.hid hb
    go_wp2_with fail
    go_ret
    exact ⟨rfl, hb.out⟩
end Go.Proofs.Ytkbpjegmfhmhbaa
