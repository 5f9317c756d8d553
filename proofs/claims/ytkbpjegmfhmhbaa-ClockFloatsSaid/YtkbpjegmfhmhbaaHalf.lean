/- The reference's half: rounded to the nearest even. -/
import Derived.Test.YtkbpjegmfhmhbaaBitOps
namespace Go.Proofs.Ytkbpjegmfhmhbaa
open Go.RowKit Go.Shelf
attribute [local go_sem] Oper.semAt_some

theorem bn_split (bs : List Bool) (k : Nat) : bn bs = bn (bs.take k) + 2 ^ k * bn (bs.drop k) := by
  rcases Nat.lt_or_ge bs.length k with h | h
  · rw [List.take_of_length_le (by omega), List.drop_eq_nil_of_le (by omega)]; simp [bn]
  · have := bn_append (bs.take k) (bs.drop k)
    rw [List.take_append_drop, List.length_take, Nat.min_eq_left h] at this
    exact this
theorem bn_take_lt (bs : List Bool) (k : Nat) : bn (bs.take k) < 2 ^ k := by
  have := bn_lt (bs.take k)
  have h2 := two_pow_le (show (bs.take k).length ≤ k by simp; omega)
  omega
theorem bn_drop_step (bs : List Bool) (k : Nat) : bn (bs.drop k) = (atB bs k).toNat + 2 * bn (bs.drop (k + 1)) := by
  rcases Nat.lt_or_ge k bs.length with h | h
  · rw [atB_lt bs k h, List.drop_eq_getElem_cons h, bn]
  · rw [atB_ge bs k (by omega), List.drop_eq_nil_of_le h, List.drop_eq_nil_of_le (by omega)]; rfl
theorem bn_take_step (bs : List Bool) (k : Nat) : bn (bs.take (k + 1)) = bn (bs.take k) + 2 ^ k * (atB bs k).toNat := by
  have h1 := bn_split bs k
  have h2 := bn_split bs (k + 1)
  rw [bn_drop_step bs k, Nat.mul_add, ← Nat.mul_assoc] at h1
  rw [Nat.pow_succ] at h2
  generalize bn (bs.drop (k + 1)) = D at *
  generalize 2 ^ k = P at *
  omega

theorem bn_full (l : List Bool) (h : bn l < 18446744073709551616) : bn (l.take 64) = bn l := by
  have h1 := bn_split l 64
  have e : (2 : Nat) ^ 64 = 18446744073709551616 := rfl
  rw [e] at h1
  omega
/-- The reference's rounding, in numbers. -/
theorem half_num (bs : List Bool) (n : Nat) (h1 : 1 ≤ n) :
    rq (bn bs) (2 ^ n) = if (atB bs ((n : Int) - 1) && (decide (bn (bs.take (n - 1)) ≠ 0) || decide (bn (bs.drop n) % 2 = 1))) = true then bn (bs.drop n) + 1 else bn (bs.drop n) := by
  obtain ⟨k, rfl⟩ : ∃ k, n = k + 1 := ⟨n - 1, by omega⟩
  rw [show (((k + 1 : Nat) : Int) - 1) = (k : Int) by omega, show k + 1 - 1 = k from rfl]
  have e1 := bn_split bs (k + 1)
  have e2 := bn_take_step bs k
  have e3 := bn_take_lt bs (k + 1)
  have e4 := bn_take_lt bs k
  have hdm : bn bs / 2 ^ (k + 1) = bn (bs.drop (k + 1)) ∧ bn bs % 2 ^ (k + 1) = bn (bs.take (k + 1)) := by
    rw [e1, Nat.add_comm, Nat.mul_comm]
    exact dm _ _ _ e3
  unfold rq
  rw [hdm.1, hdm.2, e2]
  clear hdm e1 e3
  rw [Nat.pow_succ]
  rw [e2] at *
  clear e2
  generalize bn (bs.drop (k + 1)) = X at *
  generalize bn (bs.take k) = L at *
  generalize 2 ^ k = P at *
  cases atB bs (k : Int)
  · simp
    omega
  · simp
    by_cases c : L = 0
    · subst c
      by_cases d : X % 2 = 1
      · simp [d]; try omega
      · simp [d]; try omega
    · simp [c]; try omega

set_option maxHeartbeats 8000000 in
theorem half_any {w : World} {v : Value} {bs : List Bool} (h : Bts w v bs) (n : Nat) (hn0 : 1 ≤ n) (hn : n ≤ 2000) (hl : bn bs < 2 ^ n * 9223372036854775808) :
    Calls Try.prog 36 #[v, .int .i64 n] w fun e w' => e = .returned (.int .u64 (rq (bn bs) (2 ^ n))) ∧ Below w.heap.size w w' := by
  rw [half_num bs n hn0]
  obtain ⟨ad, cap, rfl, h1, h2, hc⟩ := h
  have hX : bn (bs.drop n) < 9223372036854775808 := by
    have h6 := bn_split bs n
    have h7 : 2 ^ n * bn (bs.drop n) < 2 ^ n * 9223372036854775808 := by omega
    exact Nat.lt_of_mul_lt_mul_left h7
  have hfull : bn ((bs.drop n).take 64) = bn (bs.drop n) := bn_full _ (by omega)
  have hw0 : Below w.heap.size w (w.alloc (.cells #[] 4)) := (Below.refl _ _).alloc (Nat.le_refl _) _
  have hall : ∀ W, Below w.heap.size w W → Bts W (.slice ad bs.length cap) bs := fun W hW => Bts.below ⟨ad, cap, rfl, h1, h2, hc⟩ hW
  obtain ⟨whole, hwh, hnum⟩ : ∃ whole : Value, (if n < bs.length then ∃ g o, ad = some ⟨g, o, none⟩ ∧ whole = .slice (some ⟨g, o + n, none⟩) (bs.length - n) (cap - n) else whole = .slice (some ⟨w.heap.size, 0, none⟩) 0 0) ∧
      Calls Try.prog 52 #[whole] (w.alloc (.cells #[] 4)) fun e w' => e = .returned (.int .u64 (bn (bs.drop n))) ∧ ∃ m, w' = (w.alloc (.cells #[] 4)).drewN m := by
    by_cases c : n < bs.length
    · obtain ⟨g, o, rfl, _⟩ := hc n c
      rw [← hfull]
      refine ⟨_, by rw [if_pos c]; exact ⟨g, o, rfl, rfl⟩, number_any ⟨some ⟨g, o + n, none⟩, cap - n, by rw [List.length_drop], by rw [List.length_drop]; omega, by omega, fun i hi => ⟨g, o + n, rfl, ?_⟩⟩⟩
      rw [List.length_drop] at hi
      obtain ⟨ad2, cap2, he, _, _, hc2⟩ := hall _ hw0
      obtain ⟨g2, o2, e2, hg⟩ := hc2 (n + i) (by omega)
      simp only [Value.slice.injEq] at he
      obtain ⟨rfl, _, _⟩ := he
      cases e2
      rw [List.getElem_drop, Nat.add_assoc]
      exact hg
    · refine ⟨_, by rw [if_neg c], ?_⟩
      rw [List.drop_eq_nil_of_le (by omega)]
      exact number_any (cs := []) ⟨some ⟨w.heap.size, 0, none⟩, 0, rfl, by simp, by omega, fun i hi => by simp at hi⟩
  obtain ⟨X, hXe⟩ : ∃ X, bn (bs.drop n) = X := ⟨_, rfl⟩
  rw [hXe] at hnum hX ⊢
  have hat := fun W (hW : Below w.heap.size w W) i => at_any (hall W hW) i
  obtain ⟨R, hR⟩ : ∃ R : Nat, (if (atB bs ((n : Int) - 1) && (decide (bn (bs.take (n - 1)) ≠ 0) || decide (X % 2 = 1))) = true then X + 1 else X) = R := ⟨_, rfl⟩
  rw [hR]
  have hx2 : ((X : Int) % 2 == 1) = decide (X % 2 = 1) := by
    by_cases c : X % 2 = 1
    · rw [decide_eq_true c]; simp; omega
    · rw [decide_eq_false c]; simp; omega
  obtain ⟨odd, hodd⟩ : ∃ odd, decide (X % 2 = 1) = odd := ⟨_, rfl⟩
  rw [hodd] at hx2 hR
  obtain ⟨nb, hnb⟩ : ∃ nb, atB bs ((n : Int) - 1) = nb := ⟨_, rfl⟩
  rw [hnb] at hR
  replace hR := Lib.hid hR
  replace hXe := Lib.hid hXe
  replace hodd := Lib.hid hodd
  replace hnb := Lib.hid hnb
  replace hall := Lib.hid hall
  replace hat := Lib.hid hat
  replace hnum := Lib.hid hnum
  replace hw0 := Lib.hid hw0
  have b1 : (1 : Int) ≤ (n : Int) := by omega
  have b2 : (n : Int) ≤ 2000 := by omega
  by_cases c : n < bs.length
  · rw [if_pos c] at hwh
    obtain ⟨g, o, rfl, rfl⟩ := hwh
    clear hc
    go_enter Try.func36, Try.ntmps36
    go_wp2_with fail
    refine hnum.out.mono ?_; rintro e w1 ⟨rfl, m1, hm1⟩
    have hb1 : Below w.heap.size w w1 := by rw [hm1]; exact hw0.out.trans ((drewN_below _ m1).mono hw0.out.size)
    replace hb1 := Lib.hid hb1
    replace hm1 := Lib.hid hm1
    go_wp2_with fail
    go_loopw [7, 8] (fun r i wr => ∃ k : Nat, k ≤ n - 1 ∧ i = .int .i64 k ∧ r = .bool (decide (bn (bs.take k) ≠ 0)) ∧ Below w.heap.size w wr) (fun _ i _ => (n - 1) - (intOf i).toNat)
    case atStart => exact ⟨0, by omega, rfl, by simp [bn], hb1.out⟩
    case round =>
      obtain ⟨k, hk, rfl, rfl, hbw⟩ := hrel
      obtain ⟨r, hr⟩ : ∃ r, decide (bn (bs.take k) ≠ 0) = r := ⟨_, rfl⟩
      rw [hr]
      replace hbw := Lib.hid hbw
      by_cases hlt : k < n - 1
      · have q1 : (k : Int) < (n : Int) - 1 := by omega
        have hs := bn_take_step bs k
        cases r
        · have hz : bn (bs.take k) = 0 := by simpa using hr
          have ha := hat.out wr hbw.out k
          have hnx : decide (bn (bs.take (k + 1)) ≠ 0) = atB bs k := by
            rw [hs, hz]
            have hp := Nat.two_pow_pos k
            cases atB bs (k : Int)
            · simp
            · simp
          replace hnx := Lib.hid hnx
          replace ha := Lib.hid ha
          clear hs hz hr
          go_wp2_with fail
          refine ha.out.mono ?_; rintro e w2 ⟨rfl, m2, hm2⟩
          have hb2 : Below w.heap.size w w2 := by rw [hm2]; exact hbw.out.trans ((drewN_below _ m2).mono hbw.out.size)
          replace hb2 := Lib.hid hb2
          replace hm2 := Lib.hid hm2
          go_wp2_with fail
          go_roundw
          case rel => exact ⟨k + 1, by omega, by go_num, by rw [hnx.out], hb2.out⟩
          case measure => simp [intOf]; omega
        · have hz : bn (bs.take k) ≠ 0 := by simpa using hr
          have hnx : decide (bn (bs.take (k + 1)) ≠ 0) = true := by
            apply decide_eq_true
            omega
          replace hnx := Lib.hid hnx
          clear hs hz hr
          go_wp2_with fail
          go_roundw
          case rel => exact ⟨k + 1, by omega, by go_num, by rw [hnx.out], hbw.out⟩
          case measure => simp [intOf]; omega
      · have hkn : k = n - 1 := by omega
        have q1 : ¬ (k : Int) < (n : Int) - 1 := by omega
        have hr2 : decide (bn (bs.take (n - 1)) ≠ 0) = r := by rw [← hkn]; exact hr
        have hR2 := hR.out
        rw [hr2] at hR2
        have ha := hat.out wr hbw.out ((n : Int) - 1)
        rw [hnb.out] at ha
        replace ha := Lib.hid ha
        clear hr2 hr hkn
        cases nb
        · obtain rfl : X = R := by simpa using hR2
          clear hR2
          go_wp2_with fail
          refine ha.out.mono ?_; rintro e w2 ⟨rfl, m2, hm2⟩
          have hb2 : Below w.heap.size w w2 := by rw [hm2]; exact hbw.out.trans ((drewN_below _ m2).mono hbw.out.size)
          replace hb2 := Lib.hid hb2
          replace hm2 := Lib.hid hm2
          go_wp2_with fail
          go_ret
          exact ⟨rfl, hb2.out⟩
        · cases r
          · cases odd
            · obtain rfl : X = R := by simpa using hR2
              clear hR2
              go_wp2_with fail
              refine ha.out.mono ?_; rintro e w2 ⟨rfl, m2, hm2⟩
              have hb2 : Below w.heap.size w w2 := by rw [hm2]; exact hbw.out.trans ((drewN_below _ m2).mono hbw.out.size)
              replace hb2 := Lib.hid hb2
              replace hm2 := Lib.hid hm2
              go_wp2_with fail
              go_ret
              exact ⟨rfl, hb2.out⟩
            · obtain rfl : X + 1 = R := by simpa using hR2
              clear hR2
              go_wp2_with fail
              refine ha.out.mono ?_; rintro e w2 ⟨rfl, m2, hm2⟩
              have hb2 : Below w.heap.size w w2 := by rw [hm2]; exact hbw.out.trans ((drewN_below _ m2).mono hbw.out.size)
              replace hb2 := Lib.hid hb2
              replace hm2 := Lib.hid hm2
              go_wp2_with fail
              go_ret
              exact ⟨by first | rfl | simp, hb2.out⟩
          · obtain rfl : X + 1 = R := by simpa using hR2
            clear hR2
            go_wp2_with fail
            refine ha.out.mono ?_; rintro e w2 ⟨rfl, m2, hm2⟩
            have hb2 : Below w.heap.size w w2 := by rw [hm2]; exact hbw.out.trans ((drewN_below _ m2).mono hbw.out.size)
            replace hb2 := Lib.hid hb2
            replace hm2 := Lib.hid hm2
            go_wp2_with fail
            go_ret
            exact ⟨by first | rfl | simp, hb2.out⟩
  · rw [if_neg c] at hwh
    subst hwh
    clear hc
    go_enter Try.func36, Try.ntmps36
    go_wp2_with fail
    refine hnum.out.mono ?_; rintro e w1 ⟨rfl, m1, hm1⟩
    have hb1 : Below w.heap.size w w1 := by rw [hm1]; exact hw0.out.trans ((drewN_below _ m1).mono hw0.out.size)
    replace hb1 := Lib.hid hb1
    replace hm1 := Lib.hid hm1
    go_wp2_with fail
    go_loopw [7, 8] (fun r i wr => ∃ k : Nat, k ≤ n - 1 ∧ i = .int .i64 k ∧ r = .bool (decide (bn (bs.take k) ≠ 0)) ∧ Below w.heap.size w wr) (fun _ i _ => (n - 1) - (intOf i).toNat)
    case atStart => exact ⟨0, by omega, rfl, by simp [bn], hb1.out⟩
    case round =>
      obtain ⟨k, hk, rfl, rfl, hbw⟩ := hrel
      obtain ⟨r, hr⟩ : ∃ r, decide (bn (bs.take k) ≠ 0) = r := ⟨_, rfl⟩
      rw [hr]
      replace hbw := Lib.hid hbw
      by_cases hlt : k < n - 1
      · have q1 : (k : Int) < (n : Int) - 1 := by omega
        have hs := bn_take_step bs k
        cases r
        · have hz : bn (bs.take k) = 0 := by simpa using hr
          have ha := hat.out wr hbw.out k
          have hnx : decide (bn (bs.take (k + 1)) ≠ 0) = atB bs k := by
            rw [hs, hz]
            have hp := Nat.two_pow_pos k
            cases atB bs (k : Int)
            · simp
            · simp
          replace hnx := Lib.hid hnx
          replace ha := Lib.hid ha
          clear hs hz hr
          go_wp2_with fail
          refine ha.out.mono ?_; rintro e w2 ⟨rfl, m2, hm2⟩
          have hb2 : Below w.heap.size w w2 := by rw [hm2]; exact hbw.out.trans ((drewN_below _ m2).mono hbw.out.size)
          replace hb2 := Lib.hid hb2
          replace hm2 := Lib.hid hm2
          go_wp2_with fail
          go_roundw
          case rel => exact ⟨k + 1, by omega, by go_num, by rw [hnx.out], hb2.out⟩
          case measure => simp [intOf]; omega
        · have hz : bn (bs.take k) ≠ 0 := by simpa using hr
          have hnx : decide (bn (bs.take (k + 1)) ≠ 0) = true := by
            apply decide_eq_true
            omega
          replace hnx := Lib.hid hnx
          clear hs hz hr
          go_wp2_with fail
          go_roundw
          case rel => exact ⟨k + 1, by omega, by go_num, by rw [hnx.out], hbw.out⟩
          case measure => simp [intOf]; omega
      · have hkn : k = n - 1 := by omega
        have q1 : ¬ (k : Int) < (n : Int) - 1 := by omega
        have hr2 : decide (bn (bs.take (n - 1)) ≠ 0) = r := by rw [← hkn]; exact hr
        have hR2 := hR.out
        rw [hr2] at hR2
        have ha := hat.out wr hbw.out ((n : Int) - 1)
        rw [hnb.out] at ha
        replace ha := Lib.hid ha
        clear hr2 hr hkn
        cases nb
        · obtain rfl : X = R := by simpa using hR2
          clear hR2
          go_wp2_with fail
          refine ha.out.mono ?_; rintro e w2 ⟨rfl, m2, hm2⟩
          have hb2 : Below w.heap.size w w2 := by rw [hm2]; exact hbw.out.trans ((drewN_below _ m2).mono hbw.out.size)
          replace hb2 := Lib.hid hb2
          replace hm2 := Lib.hid hm2
          go_wp2_with fail
          go_ret
          exact ⟨rfl, hb2.out⟩
        · cases r
          · cases odd
            · obtain rfl : X = R := by simpa using hR2
              clear hR2
              go_wp2_with fail
              refine ha.out.mono ?_; rintro e w2 ⟨rfl, m2, hm2⟩
              have hb2 : Below w.heap.size w w2 := by rw [hm2]; exact hbw.out.trans ((drewN_below _ m2).mono hbw.out.size)
              replace hb2 := Lib.hid hb2
              replace hm2 := Lib.hid hm2
              go_wp2_with fail
              go_ret
              exact ⟨rfl, hb2.out⟩
            · obtain rfl : X + 1 = R := by simpa using hR2
              clear hR2
              go_wp2_with fail
              refine ha.out.mono ?_; rintro e w2 ⟨rfl, m2, hm2⟩
              have hb2 : Below w.heap.size w w2 := by rw [hm2]; exact hbw.out.trans ((drewN_below _ m2).mono hbw.out.size)
              replace hb2 := Lib.hid hb2
              replace hm2 := Lib.hid hm2
              go_wp2_with fail
              go_ret
              exact ⟨by first | rfl | simp, hb2.out⟩
          · obtain rfl : X + 1 = R := by simpa using hR2
            clear hR2
            go_wp2_with fail
            refine ha.out.mono ?_; rintro e w2 ⟨rfl, m2, hm2⟩
            have hb2 : Below w.heap.size w w2 := by rw [hm2]; exact hbw.out.trans ((drewN_below _ m2).mono hbw.out.size)
            replace hb2 := Lib.hid hb2
            replace hm2 := Lib.hid hm2
            go_wp2_with fail
            go_ret
            exact ⟨by first | rfl | simp, hb2.out⟩
end Go.Proofs.Ytkbpjegmfhmhbaa
