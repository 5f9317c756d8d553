/- The reference's times. -/
import Derived.Test.YtkbpjegmfhmhbaaPlus
namespace Go.Proofs.Ytkbpjegmfhmhbaa
open Go.RowKit Go.Shelf
attribute [local go_sem] Oper.semAt_some

theorem bn_zeros (n : Nat) : bn (List.replicate n false) = 0 := by
  induction n with
  | zero => rfl
  | succ n ih => rw [List.replicate_succ, bn, ih]; rfl
theorem bn_twice (n : Nat) (bs : List Bool) : bn (List.replicate n false ++ bs) = 2 ^ n * bn bs := by
  rw [bn_append, bn_zeros, List.length_replicate, Nat.zero_add]

/-- Twice of any row of the call's own, noughts too. -/
theorem twice_row {b : Nat} {w : World} {v : Value} {bs : List Bool} (h : Row b w v bs) (hl2 : bs.length ≤ 100000) (hv : bs.length = 0 → v = .slice none 0 0) (n : Nat) (hn : n ≤ 100000) {W : World} (hW : Below w.heap.size w W) :
    Calls Try.prog 42 #[v, .int .i64 n] W fun e w' => ∃ v, e = .returned v ∧ Row W.heap.size w' v (List.replicate n false ++ bs) ∧ Below W.heap.size W w' := by
  by_cases h0 : bs.length = 0
  · rw [hv h0]
    obtain rfl : bs = [] := List.length_eq_zero_iff.1 h0
    exact twice_nil n hn W
  · exact twice_any (h.bts.below hW) h0 hl2 n hn

set_option maxHeartbeats 8000000 in
theorem times_any {b : Nat} {w : World} {v : Value} {bs : List Bool} (h : Row b w v bs) (hl : bs.length ≤ 64) (hv : bs.length = 0 → v = .slice none 0 0) :
    Calls Try.prog 37 #[v, .int .u64 1000000000] w fun e w' => ∃ v cs, e = .returned v ∧ Row w.heap.size w' v cs ∧ bn cs = bn bs * 1000000000 ∧ Below w.heap.size w w' := by
  have htw := fun (n : Nat) (hn : n ≤ 100000) W (hW : Below w.heap.size w W) => twice_row h (by omega) hv n hn hW
  obtain ⟨ad, cap, rfl⟩ := h.form
  obtain ⟨A, hA⟩ : ∃ A, bn bs = A := ⟨_, rfl⟩
  obtain ⟨L, hL⟩ : ∃ L, bs.length = L := ⟨_, rfl⟩
  rw [hA]
  rw [hL] at hl htw ⊢
  replace hA := Lib.hid hA
  replace hL := Lib.hid hL
  replace htw := Lib.hid htw
  clear hv h
  go_enter Try.func37, Try.ntmps37
  go_wp2_with fail
  go_loopw [1, 5, 6] (fun x o i wr => ∃ (y k : Nat) (cs : List Bool), x = .int .u64 y ∧ i = .int .i64 k ∧ Row w.heap.size wr o cs ∧ bn cs + 2 ^ k * y * A = 1000000000 * A ∧ y < 2 ^ (30 - k) ∧ k ≤ 30 ∧ cs.length ≤ 65 + 2 * k ∧ Below w.heap.size w wr) (fun x _ _ _ => (intOf x).toNat)
  case atStart => exact ⟨1000000000, 0, [], rfl, rfl, Row.nil _ _, by simp [bn], by decide, by omega, by simp, Below.refl _ _⟩
  case round =>
    obtain ⟨y, k, cs, rfl, rfl, hr, hs, hy, hk, hcl, hbw⟩ := hrel
    obtain ⟨wo, rfl⟩ : ∃ wo : World, wo = wr := ⟨_, rfl⟩
    obtain ⟨oa, oc, rfl⟩ := hr.form
    by_cases h0 : y = 0
    · subst h0
      have hs2 : bn cs = A * 1000000000 := by rw [Nat.mul_comm A]; simpa using hs
      replace hr := Lib.hid hr
      replace hbw := Lib.hid hbw
      replace hs2 := Lib.hid hs2
      clear hs hy
      go_wp2_with fail
      go_ret
      exact ⟨_, cs, rfl, hr.out, hs2.out, hbw.out⟩
    · have hlt : k < 30 := by
        rcases Nat.lt_or_ge k 30 with h | h
        · exact h
        · rw [show 30 - k = 0 by omega] at hy; omega
      have hy30 : y < 2 ^ 30 := by
        have := two_pow_le (show 30 - k ≤ 30 by omega)
        omega
      have e30 : (2 : Nat) ^ 30 = 1073741824 := rfl
      rw [e30] at hy30
      have b1 : (0 : Int) < (y : Int) := by omega
      have hy2 : y / 2 < 2 ^ (30 - (k + 1)) := by
        rw [show 30 - k = (30 - (k + 1)) + 1 by omega, Nat.pow_succ] at hy
        omega
      by_cases hod : y % 2 = 1
      · have q1 : ((y : Int) % 2 == 1) = true := by simp; omega
        have ht := htw.out k (by omega) wo hbw
        have hsum : bn cs + 2 ^ k * A + 2 ^ (k + 1) * (y / 2) * A = 1000000000 * A := by
          rw [← hs, Nat.pow_succ]
          have hyy : y = 1 + 2 * (y / 2) := by omega
          have e2 : 2 ^ k * y * A = 2 ^ k * A + 2 ^ k * 2 * (y / 2) * A := by
            have e3 : ∀ z, y = 1 + 2 * z → 2 ^ k * y = 2 ^ k + 2 ^ k * 2 * z := fun z h => by rw [h, Nat.mul_add, Nat.mul_one, Nat.mul_assoc]
            rw [e3 _ hyy, Nat.add_mul]
          rw [e2]; omega
        replace ht := Lib.hid ht
        replace hr := Lib.hid hr
        replace hbw := Lib.hid hbw
        replace hsum := Lib.hid hsum
        replace hy2 := Lib.hid hy2
        clear hs hy e30 hod
        go_wp2_with fail
        refine ht.out.mono ?_; rintro e w2 ⟨v2, rfl, hr2, hb2⟩
        have hbA : Below w.heap.size w w2 := hbw.out.trans (hb2.mono hbw.out.size)
        have hrA : Row w.heap.size w2 (.slice oa cs.length oc) cs := hr.out.below hb2
        have hform := hr2.form
        rw [List.length_append, List.length_replicate, hL.out] at hform
        obtain ⟨oa2, oc2, rfl⟩ := hform
        have hp := plus_any hrA.bts hr2.bts (by omega) (by rw [List.length_append, List.length_replicate, hL.out]; omega)
        rw [bn_twice, hA.out, List.length_append, List.length_replicate, hL.out] at hp
        replace hp := Lib.hid hp
        replace hbA := Lib.hid hbA
        replace hb2 := Lib.hid hb2
        replace hr2 := Lib.hid hr2
        replace hrA := Lib.hid hrA
        go_wp2_with fail
        refine hp.out.mono ?_; rintro e w3 ⟨v3, cs3, rfl, hr3, hs3, hl3, hb3⟩
        have hbB : Below w.heap.size w w3 := hbA.out.trans (hb3.mono hbA.out.size)
        have hrB : Row w.heap.size w3 v3 cs3 := hr3.base hbA.out.size
        replace hbB := Lib.hid hbB
        replace hrB := Lib.hid hrB
        replace hs3 := Lib.hid hs3
        replace hl3 := Lib.hid hl3
        replace hb3 := Lib.hid hb3
        replace hr3 := Lib.hid hr3
        go_wp2_with fail
        go_roundw
        case rel => exact ⟨y / 2, k + 1, cs3, by first | rfl | simp, by go_num, hrB.out, by rw [hs3.out]; exact hsum.out, hy2.out, by omega, by rw [hl3.out]; omega, hbB.out⟩
        case measure => simp [intOf]; omega
      · have q1 : ((y : Int) % 2 == 1) = false := by simp; omega
        have hsum : bn cs + 2 ^ (k + 1) * (y / 2) * A = 1000000000 * A := by
          rw [← hs, Nat.pow_succ]
          have hyy : y = 2 * (y / 2) := by omega
          have e3 : ∀ z, y = 2 * z → 2 ^ k * 2 * z = 2 ^ k * y := fun z h => by rw [h, Nat.mul_assoc]
          rw [e3 _ hyy]
        replace hr := Lib.hid hr
        replace hbw := Lib.hid hbw
        replace hsum := Lib.hid hsum
        replace hy2 := Lib.hid hy2
        clear hs hy e30 hod
        go_wp2_with fail
        go_roundw
        case rel => exact ⟨y / 2, k + 1, cs, by first | rfl | simp, by go_num, hr.out, hsum.out, hy2.out, by omega, by omega, hbw.out⟩
        case measure => simp [intOf]; omega
end Go.Proofs.Ytkbpjegmfhmhbaa
