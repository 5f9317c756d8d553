/- The reference's To, and ClockFloats. -/
import Derived.Test.YtkbpjegmfhmhbaaDivd
import Derived.Test.YtkbpjegmfhmhbaaSecWalk
import Derived.Test.YtkbpjegmfhmhbaaTimesRef
namespace Go.Proofs.Ytkbpjegmfhmhbaa
open Go.RowKit Go.Shelf
attribute [local go_sem] Oper.semAt_some

theorem bn_twice' (n : Nat) (bs : List Bool) : bn (List.replicate n false ++ bs) = 2 ^ n * bn bs := by
  have hz : ∀ n, bn (List.replicate n false) = 0 := fun n => by
    induction n with
    | zero => rfl
    | succ n ih => rw [List.replicate_succ, bn, ih]; rfl
  rw [bn_append, hz, List.length_replicate, Nat.zero_add]

/-- The reference's place of cutting is To's. -/
theorem cut_num (n L : Nat) (h0 : n ≠ 0) (h : n < 18446744073709551616) (hL1 : 2 ^ 100 * n / 1000000000 < 2 ^ L) (hL0 : L ≠ 0) (hL2 : 2 ^ (L - 1) ≤ 2 ^ 100 * n / 1000000000) : L = 153 - toJ n := by
  obtain ⟨a1, a2, _, _, a5, a6⟩ := toJ_facts h0 h
  obtain ⟨j, hj⟩ : ∃ j, toJ n = j := ⟨_, rfl⟩
  rw [hj] at a1 a2 a5 a6 ⊢
  clear hj
  have e : 2 ^ 100 * n = n * 2 ^ j * 2 ^ (100 - j) := by rw [Nat.mul_assoc, ← Nat.pow_add, show j + (100 - j) = 100 by omega, Nat.mul_comm]
  rw [e] at hL1 hL2
  have hp := Nat.two_pow_pos (100 - j)
  have q1 : 2 ^ (152 - j) ≤ n * 2 ^ j * 2 ^ (100 - j) / 1000000000 := by
    rw [Nat.le_div_iff_mul_le (by decide)]
    have := Nat.mul_le_mul_right (2 ^ (100 - j)) a5
    have e2 : (2 : Nat) ^ (152 - j) = 4503599627370496 * 2 ^ (100 - j) := by
      rw [show 152 - j = 52 + (100 - j) by omega, Nat.pow_add]
    rw [e2]
    generalize 2 ^ (100 - j) = P at *
    generalize n * 2 ^ j = Y at *
    clear e hL1 hL2 e2 h
    omega
  have q2 : n * 2 ^ j * 2 ^ (100 - j) / 1000000000 < 2 ^ (153 - j) := by
    rw [Nat.div_lt_iff_lt_mul (by decide)]
    have := Nat.mul_lt_mul_of_pos_right a6 hp
    have e2 : (2 : Nat) ^ (153 - j) = 9007199254740992 * 2 ^ (100 - j) := by
      rw [show 153 - j = 53 + (100 - j) by omega, Nat.pow_add]
    rw [e2]
    generalize 2 ^ (100 - j) = P at *
    generalize n * 2 ^ j = Y at *
    clear e hL1 hL2 e2 h q1
    omega
  generalize n * 2 ^ j * 2 ^ (100 - j) / 1000000000 = q at *
  rcases Nat.lt_trichotomy L (153 - j) with c | c | c
  · have := two_pow_le (show L ≤ 152 - j by omega)
    generalize 2 ^ L = x at *
    generalize 2 ^ (152 - j) = y at *
    clear a5 a6 e q2 hL2 hp h
    omega
  · exact c
  · have := two_pow_le (show 153 - j ≤ L - 1 by omega)
    generalize 2 ^ (L - 1) = x at *
    generalize 2 ^ (153 - j) = y at *
    clear a5 a6 e q1 hL1 hp h
    omega

/-- The reference's rounding is To's. -/
theorem low_num (n : Nat) (h0 : n ≠ 0) (h : n < 18446744073709551616) (r : Nat) (hr : r = if 0 < 2 ^ 100 * n % 1000000000 then 1 else 0) :
    rq (r + 2 * (2 ^ 100 * n / 1000000000)) (2 ^ (101 - toJ n)) = toM n := by
  obtain ⟨a1, a2, _, a4, _, _⟩ := toJ_facts h0 h
  obtain ⟨c, hc⟩ : ∃ c, 100 - toJ n = c := ⟨_, rfl⟩
  have hc1 : 1 ≤ c := by omega
  rw [show 101 - toJ n = c + 1 by omega]
  have e : 2 ^ 100 * n = n * 2 ^ toJ n * 2 ^ c := by rw [Nat.mul_assoc, ← Nat.pow_add, show toJ n + c = 100 by omega, Nat.mul_comm]
  rw [a4, ← rq_scale (n * 2 ^ toJ n) 1000000000 (2 ^ c) (Nat.two_pow_pos _), ← e, rq_sticky _ _ c (by decide) hc1]
  clear e a4 a1 a2 hc h0 h
  generalize 2 ^ 100 * n = A at *
  generalize A / 1000000000 = q at *
  generalize A % 1000000000 = t at *
  have hp := Nat.two_pow_pos c
  have hpe : 2 ^ c % 2 = 0 := by
    obtain ⟨k, rfl⟩ : ∃ k, c = k + 1 := ⟨c - 1, by omega⟩
    rw [Nat.pow_succ]; omega
  rw [Nat.pow_succ]
  generalize 2 ^ c = P at *
  have hrl : r ≤ 1 := by rw [hr]; split <;> omega
  have hr1 : r = 1 ↔ 0 < t := by rw [hr]; split <;> simp_all
  clear hr
  have hq := Nat.div_add_mod' q P
  have hl := Nat.mod_lt q hp
  obtain ⟨x, hx⟩ : ∃ x, q / P = x := ⟨_, rfl⟩
  obtain ⟨y, hy⟩ : ∃ y, q % P = y := ⟨_, rfl⟩
  rw [hx, hy] at hq ⊢
  rw [hy] at hl
  have hd : r + 2 * q = x * (P * 2) + (r + 2 * y) := by rw [← hq, Nat.mul_add, ← Nat.mul_assoc x, Nat.mul_comm (x * P)]; omega
  obtain ⟨f1, f2⟩ := dm x (r + 2 * y) (P * 2) (by omega)
  unfold rq
  rw [hd, f1, f2]
  clear hd f1 f2 hq hx hy
  by_cases ht : 0 < t
  · have : r = 1 := hr1.2 ht
    subst this
    split <;> split <;> omega
  · have : r = 0 := by
      rcases Nat.eq_zero_or_pos r with h | h
      · exact h
      · exact absurd (hr1.1 (by omega)) ht
    subst this
    split <;> split <;> omega

set_option maxRecDepth 100000 in
set_option maxHeartbeats 16000000 in
theorem refto_walk (ns : Int) (n : Nat) (F0 R j : Nat) (hns : (ns == 0) = false) (h0 : n ≠ 0) (hnl : n < 18446744073709551616) (hj : toJ n = j) (fl : floatOfInt .f64 (toM n : Int) = F0)
    (ld : ∀ W, Calls Try.prog 26 #[.float .f64 F0, .int .i64 (-(j : Int))] W fun e w' => e = .returned (.float .f64 R) ∧ w' = W)
    (n1 : Nat) (f1 : IntKind.u64.wrap ns = (n1 : Int)) (hn : if ns < 0 then IntKind.u64.wrap (-(n1 : Int)) = (n : Int) else n1 = n) (w : World) :
    Calls Try.prog 20 #[.int .i64 ns] w fun e w' => e = .returned (.float .f64 (if ns < 0 then negF R else R)) ∧ Below w.heap.size w w' := by
  obtain ⟨i0, hi, hz0, hz1, hz2⟩ := info_parts info4
  have hrow := fun W => row_all n hnl W
  have hng := run_negf R
  obtain ⟨j1, j2, _, _, q1, _⟩ := toJ_facts h0 hnl
  rw [hj] at j1 j2 q1
  have hqn : 2 ^ 100 * n / 1000000000 ≠ 0 := by
    have hp : 2 ^ 82 ≤ 2 ^ 100 * n := by
      have h5 : 1 ≤ n := by omega
      have h6 := Nat.mul_le_mul_left (2 ^ 100) h5
      have h7 := two_pow_le (show 82 ≤ 100 by omega)
      omega
    have e82 : (2 : Nat) ^ 82 = 4835703278458516698824704 := rfl
    rw [e82] at hp
    clear q1 fl ld hrow
    generalize 2 ^ 100 * n = A at *
    omega
  obtain ⟨M, hM⟩ : ∃ M, toM n = M := ⟨_, rfl⟩
  rw [hM] at fl
  have hMb := (toM_bd h0 hnl).2
  rw [hM] at hMb
  have hcast : ((101 - j : Nat) : Int) = 100 - (j : Int) + 1 := by omega
  have fj : (100 : Int) - (j : Int) - 100 = -(j : Int) := by omega
  have mb : (M : Int) ≤ 9007199254740992 := by omega
  replace hMb := Lib.hid hMb
  replace hM := Lib.hid hM
  replace hcast := Lib.hid hcast
  replace hj := Lib.hid hj
  replace h0 := Lib.hid h0
  replace hnl := Lib.hid hnl
  replace hqn := Lib.hid hqn
  replace hrow := Lib.hid hrow
  replace ld := Lib.hid ld
  clear q1
  by_cases c : ns < 0
  · rw [if_pos c] at hn ⊢
    have d1 : decide (ns < 0) = true := decide_eq_true c
    replace c := Lib.hid c
    go_enter Try.func20, Try.ntmps20
    go_wp2_with fail
    refine (hrow.out _).mono ?_; rintro e w1 ⟨v1, bs, rfl, r1, s1, l1, z1, k1⟩
    have hbs0 : bs.length ≠ 0 := fun h => by
      obtain rfl : bs = [] := List.length_eq_zero_iff.1 h
      exact h0.out s1.symm
    have ht := twice_any r1.bts hbs0 (by omega) 100 (by omega)
    obtain ⟨u1, x1, rfl⟩ := r1.form
    replace ht := Lib.hid ht
    replace k1 := Lib.hid k1
    replace r1 := Lib.hid r1
    replace z1 := Lib.hid z1
    go_wp2_with fail
    refine ht.out.mono ?_; rintro e w2 ⟨v2, rfl, r2, k2⟩
    have hl2 : (List.replicate 100 false ++ bs).length = 100 + bs.length := by rw [List.length_append, List.length_replicate]
    have hdv := divided_any r2.bts (by rw [hl2]; omega) (by rw [hl2]; omega)
    rw [bn_twice', s1, hl2] at hdv
    have hf2 := r2.form
    rw [hl2] at hf2
    obtain ⟨u2, x2, rfl⟩ := hf2
    replace hdv := Lib.hid hdv
    replace k2 := Lib.hid k2
    replace r2 := Lib.hid r2
    replace s1 := Lib.hid s1
    go_wp2_with fail
    refine hdv.out.mono ?_; rintro e w3 ⟨v3, qs, rfl, r3, l3, s3, k3⟩
    obtain ⟨rb, hrb⟩ : ∃ rb, decide (0 < 2 ^ 100 * n % 1000000000) = rb := ⟨_, rfl⟩
    rw [hrb]
    have hln := length_any r3.bts (by omega)
    rw [s3] at hln
    obtain ⟨u3, x3, rfl⟩ := r3.form
    replace hln := Lib.hid hln
    replace k3 := Lib.hid k3
    replace hrb := Lib.hid hrb
    replace l3 := Lib.hid l3
    go_wp2_with fail
    refine hln.out.mono ?_; rintro e w4 ⟨L, rfl, L1, L2, L3, m4, hm4⟩
    have hq0 : 2 ^ 100 * n / 1000000000 ≠ 0 := hqn.out
    have hL0 : L ≠ 0 := fun h => by
      rw [h, Nat.pow_zero] at L2
      omega
    have hcut := cut_num n L h0.out hnl.out L2 hL0 (L3 hL0)
    have hk4 : Below w3.heap.size w3 w4 := by rw [hm4]; exact drewN_below _ m4
    have h3b := r3.bts.below hk4
    have hcv : ((L : Int) - 53) = 100 - (j : Int) := by rw [hcut, hj.out]; omega
    obtain ⟨ad3, cap3, he3, c31, c32, c33⟩ := h3b
    simp only [Value.slice.injEq] at he3
    obtain ⟨rfl, _, rfl⟩ := he3
    have hqs0 : 0 < qs.length := by
      rcases Nat.eq_zero_or_pos qs.length with h | h
      · obtain rfl : qs = [] := List.length_eq_zero_iff.1 h
        exact absurd s3.symm hq0
      · exact h
    obtain ⟨g, o, rfl, _⟩ := c33 0 hqs0
    have hba : Below w4.heap.size w4 (w4.alloc (.cells #[.bool rb] 4)) := (Below.refl _ _).alloc (Nat.le_refl _) _
    have hro : Row w4.heap.size (w4.alloc (.cells #[.bool rb] 4)) (.slice (some ⟨w4.heap.size, 0, none⟩) 1 1) [rb] := row_of_cells (World.alloc_heap_new _ _) (Nat.le_refl _) rfl (by unfold maxLen; omega)
    have hown : (w4.alloc (.cells #[.bool rb] 4)).ownsRow w4.heap.size 4 1 (.slice (some ⟨w4.heap.size, 0, none⟩) 1 1) 1 (bcells [rb]) := hro
    have hnews : ∀ j u, (bcells qs)[j]? = some u → (w4.alloc (.cells #[.bool rb] 4)).cell? ((⟨g, o, none⟩ : Addr).add j) = some u := by
      intro j u hu
      have hj : j < qs.length := by have := (List.getElem?_eq_some_iff.1 hu).1; simpa [bcells] using this
      rw [Addr.add_lit]
      obtain ⟨g', o', he, hg⟩ := c33 j hj
      cases he
      have := hba.block g (cell_lt hg)
      simp [bcells, hj] at hu
      subst hu
      rw [← hg]
      unfold World.cell?
      simp [this]
    have hone : ∀ u ∈ bcells qs, u.oneCell' = true := by
      intro u hu
      obtain ⟨x, _, rfl⟩ := List.mem_map.1 hu
      rfl
    have hbl : (bcells qs).length = qs.length * 1 := by simp [bcells]
    have hql : qs.length ≤ 1000 := by have := l3.out; omega
    have hlow := low_num n h0.out hnl.out rb.toNat (by rw [← hrb.out]; by_cases c : 0 < 2 ^ 100 * n % 1000000000 <;> simp [c])
    rw [hj.out, ← s3] at hlow
    replace hk4 := Lib.hid hk4
    replace hro := Lib.hid hro
    replace hown := Lib.hid hown
    replace hnews := Lib.hid hnews
    replace hone := Lib.hid hone
    replace hbl := Lib.hid hbl
    replace hlow := Lib.hid hlow
    replace hm4 := Lib.hid hm4
    replace r3 := Lib.hid r3
    replace s3 := Lib.hid s3
    replace hba := Lib.hid hba
    replace hcut := Lib.hid hcut
    clear c33 L2 L3 hq0 hln
    go_wp2_with (refine wpList_append_own_at _ rfl _ _ 54 rfl w4.heap.size 4 i0 _ 1 1 Try.underlying54 hi hz0 hz1 hz2 rfl (by decide) (.slice (some ⟨w4.heap.size, 0, none⟩) 1 1) _ _ rfl hown.out ⟨g, o, none⟩ qs.length x3 (bcells qs) rfl hbl.out hnews.out hone.out (by unfold maxLen; omega) (by omega) (by simp) ?_; intro v6 w6 hown' hgrow _ hat')
    have r6 : Row w4.heap.size w6 v6 (rb :: qs) := by
      show w6.ownsRow _ 4 1 v6 (rb :: qs).length (bcells (rb :: qs))
      rw [List.length_cons, Nat.add_comm]
      exact hown'
    have hk6 : Below w4.heap.size w4 w6 := hba.out.trans (grown_below hro.out (by simp) hgrow)
    have hbn : bn (rb :: qs) = rb.toNat + 2 * bn qs := rfl
    have hMe : rq (bn (rb :: qs)) (2 ^ (101 - j)) = M := by rw [hbn, hlow.out, hM.out]
    have hbig : bn (rb :: qs) < 2 ^ (101 - j) * 9223372036854775808 := by
      have h1 : bn (rb :: qs) / 2 ^ (101 - j) ≤ rq (bn (rb :: qs)) (2 ^ (101 - j)) := by unfold rq; omega
      rw [hMe] at h1
      have h2 : bn (rb :: qs) / 2 ^ (101 - j) < 9223372036854775808 := by have := hMb.out; omega
      rw [Nat.mul_comm]
      exact (Nat.div_lt_iff_lt_mul (Nat.two_pow_pos _)).1 h2
    have hh := half_any r6.bts (101 - j) (by omega) (by omega) hbig
    rw [hMe, hcast.out] at hh
    obtain ⟨u6, x6, rfl⟩ := r6.form
    replace hh := Lib.hid hh
    replace r6 := Lib.hid r6
    replace hk6 := Lib.hid hk6
    replace hMe := Lib.hid hMe
    replace hown' := Lib.hid hown'
    replace hgrow := Lib.hid hgrow
    replace hat' := Lib.hid hat'
    clear hbig hbn
    go_wp2_with fail
    refine hh.out.mono ?_; rintro e w7 ⟨rfl, hk7⟩
    replace hk7 := Lib.hid hk7
    go_wp2_with fail
    refine (ld.out _).mono ?_; rintro e w8 ⟨rfl, rfl⟩
    go_wp2_with fail
    go_ret
    refine ⟨by first | rfl | simp, ?_⟩
    have k := k1.out
    replace k := k.trans (k2.out.mono k.size)
    replace k := k.trans (k3.out.mono k.size)
    replace k := k.trans (hk4.out.mono k.size)
    replace k := k.trans (hk6.out.mono k.size)
    exact k.trans (hk7.out.mono k.size)
  · rw [if_neg c] at hn ⊢
    have hn := hn.symm
    subst hn
    have d1 : decide (ns < 0) = false := decide_eq_false c
    replace c := Lib.hid c
    go_enter Try.func20, Try.ntmps20
    go_wp2_with fail
    refine (hrow.out _).mono ?_; rintro e w1 ⟨v1, bs, rfl, r1, s1, l1, z1, k1⟩
    have hbs0 : bs.length ≠ 0 := fun h => by
      obtain rfl : bs = [] := List.length_eq_zero_iff.1 h
      exact h0.out s1.symm
    have ht := twice_any r1.bts hbs0 (by omega) 100 (by omega)
    obtain ⟨u1, x1, rfl⟩ := r1.form
    replace ht := Lib.hid ht
    replace k1 := Lib.hid k1
    replace r1 := Lib.hid r1
    replace z1 := Lib.hid z1
    go_wp2_with fail
    refine ht.out.mono ?_; rintro e w2 ⟨v2, rfl, r2, k2⟩
    have hl2 : (List.replicate 100 false ++ bs).length = 100 + bs.length := by rw [List.length_append, List.length_replicate]
    have hdv := divided_any r2.bts (by rw [hl2]; omega) (by rw [hl2]; omega)
    rw [bn_twice', s1, hl2] at hdv
    have hf2 := r2.form
    rw [hl2] at hf2
    obtain ⟨u2, x2, rfl⟩ := hf2
    replace hdv := Lib.hid hdv
    replace k2 := Lib.hid k2
    replace r2 := Lib.hid r2
    replace s1 := Lib.hid s1
    go_wp2_with fail
    refine hdv.out.mono ?_; rintro e w3 ⟨v3, qs, rfl, r3, l3, s3, k3⟩
    obtain ⟨rb, hrb⟩ : ∃ rb, decide (0 < 2 ^ 100 * n % 1000000000) = rb := ⟨_, rfl⟩
    rw [hrb]
    have hln := length_any r3.bts (by omega)
    rw [s3] at hln
    obtain ⟨u3, x3, rfl⟩ := r3.form
    replace hln := Lib.hid hln
    replace k3 := Lib.hid k3
    replace hrb := Lib.hid hrb
    replace l3 := Lib.hid l3
    go_wp2_with fail
    refine hln.out.mono ?_; rintro e w4 ⟨L, rfl, L1, L2, L3, m4, hm4⟩
    have hq0 : 2 ^ 100 * n / 1000000000 ≠ 0 := hqn.out
    have hL0 : L ≠ 0 := fun h => by
      rw [h, Nat.pow_zero] at L2
      omega
    have hcut := cut_num n L h0.out hnl.out L2 hL0 (L3 hL0)
    have hk4 : Below w3.heap.size w3 w4 := by rw [hm4]; exact drewN_below _ m4
    have h3b := r3.bts.below hk4
    have hcv : ((L : Int) - 53) = 100 - (j : Int) := by rw [hcut, hj.out]; omega
    obtain ⟨ad3, cap3, he3, c31, c32, c33⟩ := h3b
    simp only [Value.slice.injEq] at he3
    obtain ⟨rfl, _, rfl⟩ := he3
    have hqs0 : 0 < qs.length := by
      rcases Nat.eq_zero_or_pos qs.length with h | h
      · obtain rfl : qs = [] := List.length_eq_zero_iff.1 h
        exact absurd s3.symm hq0
      · exact h
    obtain ⟨g, o, rfl, _⟩ := c33 0 hqs0
    have hba : Below w4.heap.size w4 (w4.alloc (.cells #[.bool rb] 4)) := (Below.refl _ _).alloc (Nat.le_refl _) _
    have hro : Row w4.heap.size (w4.alloc (.cells #[.bool rb] 4)) (.slice (some ⟨w4.heap.size, 0, none⟩) 1 1) [rb] := row_of_cells (World.alloc_heap_new _ _) (Nat.le_refl _) rfl (by unfold maxLen; omega)
    have hown : (w4.alloc (.cells #[.bool rb] 4)).ownsRow w4.heap.size 4 1 (.slice (some ⟨w4.heap.size, 0, none⟩) 1 1) 1 (bcells [rb]) := hro
    have hnews : ∀ j u, (bcells qs)[j]? = some u → (w4.alloc (.cells #[.bool rb] 4)).cell? ((⟨g, o, none⟩ : Addr).add j) = some u := by
      intro j u hu
      have hj : j < qs.length := by have := (List.getElem?_eq_some_iff.1 hu).1; simpa [bcells] using this
      rw [Addr.add_lit]
      obtain ⟨g', o', he, hg⟩ := c33 j hj
      cases he
      have := hba.block g (cell_lt hg)
      simp [bcells, hj] at hu
      subst hu
      rw [← hg]
      unfold World.cell?
      simp [this]
    have hone : ∀ u ∈ bcells qs, u.oneCell' = true := by
      intro u hu
      obtain ⟨x, _, rfl⟩ := List.mem_map.1 hu
      rfl
    have hbl : (bcells qs).length = qs.length * 1 := by simp [bcells]
    have hql : qs.length ≤ 1000 := by have := l3.out; omega
    have hlow := low_num n h0.out hnl.out rb.toNat (by rw [← hrb.out]; by_cases c : 0 < 2 ^ 100 * n % 1000000000 <;> simp [c])
    rw [hj.out, ← s3] at hlow
    replace hk4 := Lib.hid hk4
    replace hro := Lib.hid hro
    replace hown := Lib.hid hown
    replace hnews := Lib.hid hnews
    replace hone := Lib.hid hone
    replace hbl := Lib.hid hbl
    replace hlow := Lib.hid hlow
    replace hm4 := Lib.hid hm4
    replace r3 := Lib.hid r3
    replace s3 := Lib.hid s3
    replace hba := Lib.hid hba
    replace hcut := Lib.hid hcut
    clear c33 L2 L3 hq0 hln
    go_wp2_with (refine wpList_append_own_at _ rfl _ _ 54 rfl w4.heap.size 4 i0 _ 1 1 Try.underlying54 hi hz0 hz1 hz2 rfl (by decide) (.slice (some ⟨w4.heap.size, 0, none⟩) 1 1) _ _ rfl hown.out ⟨g, o, none⟩ qs.length x3 (bcells qs) rfl hbl.out hnews.out hone.out (by unfold maxLen; omega) (by omega) (by simp) ?_; intro v6 w6 hown' hgrow _ hat')
    have r6 : Row w4.heap.size w6 v6 (rb :: qs) := by
      show w6.ownsRow _ 4 1 v6 (rb :: qs).length (bcells (rb :: qs))
      rw [List.length_cons, Nat.add_comm]
      exact hown'
    have hk6 : Below w4.heap.size w4 w6 := hba.out.trans (grown_below hro.out (by simp) hgrow)
    have hbn : bn (rb :: qs) = rb.toNat + 2 * bn qs := rfl
    have hMe : rq (bn (rb :: qs)) (2 ^ (101 - j)) = M := by rw [hbn, hlow.out, hM.out]
    have hbig : bn (rb :: qs) < 2 ^ (101 - j) * 9223372036854775808 := by
      have h1 : bn (rb :: qs) / 2 ^ (101 - j) ≤ rq (bn (rb :: qs)) (2 ^ (101 - j)) := by unfold rq; omega
      rw [hMe] at h1
      have h2 : bn (rb :: qs) / 2 ^ (101 - j) < 9223372036854775808 := by have := hMb.out; omega
      rw [Nat.mul_comm]
      exact (Nat.div_lt_iff_lt_mul (Nat.two_pow_pos _)).1 h2
    have hh := half_any r6.bts (101 - j) (by omega) (by omega) hbig
    rw [hMe, hcast.out] at hh
    obtain ⟨u6, x6, rfl⟩ := r6.form
    replace hh := Lib.hid hh
    replace r6 := Lib.hid r6
    replace hk6 := Lib.hid hk6
    replace hMe := Lib.hid hMe
    replace hown' := Lib.hid hown'
    replace hgrow := Lib.hid hgrow
    replace hat' := Lib.hid hat'
    clear hbig hbn
    go_wp2_with fail
    refine hh.out.mono ?_; rintro e w7 ⟨rfl, hk7⟩
    replace hk7 := Lib.hid hk7
    go_wp2_with fail
    refine (ld.out _).mono ?_; rintro e w8 ⟨rfl, rfl⟩
    go_wp2_with fail
    go_ret
    refine ⟨by first | rfl | simp, ?_⟩
    have k := k1.out
    replace k := k.trans (k2.out.mono k.size)
    replace k := k.trans (k3.out.mono k.size)
    replace k := k.trans (hk4.out.mono k.size)
    replace k := k.trans (hk6.out.mono k.size)
    exact k.trans (hk7.out.mono k.size)

theorem refto_any (ns : Int) (h1 : -9223372036854775808 ≤ ns) (h2 : ns ≤ 9223372036854775807) (w : World) :
    Calls Try.prog 20 #[.int .i64 ns] w fun e w' => e = .returned (.float .f64 (toF ns)) ∧ Below w.heap.size w w' := by
  by_cases h0 : ns = 0
  · subst h0
    have e : toF 0 = 0 := rfl
    rw [e]
    go_enter Try.func20, Try.ntmps20
    go_wp2_with fail
    go_ret
    exact ⟨rfl, Below.refl _ _⟩
  · have hn0 : ns.natAbs ≠ 0 := by omega
    have hnl : ns.natAbs < 18446744073709551616 := by omega
    have hns : (ns == 0) = false := by simpa using h0
    obtain ⟨hi, lo, pt, x, F0, hf⟩ := to_facts ns ns.natAbs hns hn0 hnl
    obtain ⟨hc, _⟩ := toC_bd hn0 hnl
    obtain ⟨hk, _⟩ := toK_bd hn0 hnl
    obtain ⟨hr, _⟩ := toR_eq hn0 hnl
    have hfl := hf.fl
    have hld := hf.ld
    have hcj : ((toC ns.natAbs : Int) - (toK ns.natAbs : Int)) = -(toJ ns.natAbs : Int) := by unfold toJ; omega
    rw [hcj] at hld
    obtain ⟨n, hn⟩ : ∃ n : Nat, IntKind.u64.wrap ns = (n : Int) := ⟨(ns % 18446744073709551616).toNat, by rw [IntKind.wrap_u64]; omega⟩
    have hn' := hn
    rw [IntKind.wrap_u64] at hn'
    refine (refto_walk ns ns.natAbs F0 (toR ns.natAbs) (toJ ns.natAbs) hns hn0 hnl rfl hfl hld n hn ?_ w).mono ?_
    · clear hf hr hc hk hfl hld hcj
      split
      · rw [IntKind.wrap_u64]; omega
      · omega
    · rintro e w' ⟨rfl, hm⟩
      refine ⟨?_, hm⟩
      unfold toF
      rw [if_neg h0]
      split
      · rw [negF_small _ (by unfold infR at hr; omega)]
      · rfl

set_option maxHeartbeats 8000000 in
theorem floats_walk (ns : Int) (h1 : -9223372036854775808 ≤ ns) (h2 : ns ≤ 9223372036854775807) (w : World) : Calls Try.prog 4 #[.int .i64 ns] w fun e w' => e = .returned (.bool true) ∧ Below w.heap.size w w' := by
  have ht := fun W => toV ns h1 h2 _ rfl W
  have hr := fun W => refto_any ns h1 h2 W
  have hawk := fun W => awake_any W
  have hb := fun W => run_bits (toF ns) W
  generalize toF ns = F at *
  clear h1 h2
  replace hawk := Lib.hid hawk
  replace ht := Lib.hid ht
  replace hr := Lib.hid hr
  go_enter Try.func4, Try.ntmps4
  go_wp2_with fail
  refine (hawk.out _).mono ?_; rintro e w1 ⟨rfl, k1⟩
  replace k1 := Lib.hid k1
  go_wp2_with fail
  refine (ht.out _).mono ?_; rintro e w2 ⟨rfl, k2⟩
  replace k2 := Lib.hid k2
  go_wp2_with fail
  refine (hr.out _).mono ?_; rintro e w3 ⟨rfl, k3⟩
  replace k3 := Lib.hid k3
  go_wp2_with fail
  go_ret
  refine ⟨by first | rfl | simp, ?_⟩
  have k := k1.out
  replace k := k.trans (k2.out.mono k.size)
  exact k.trans (k3.out.mono k.size)
theorem floats_row (ns : Int) (h : (Lit.int .i64 ns).wf = true) (w : World) : Calls Try.prog 4 #[.int .i64 ns] w fun e w' => e = .returned (.bool true) ∧ Below w.heap.size w w' :=
  floats_walk ns (wf_i64' h).1 (wf_i64' h).2 w
end Go.Proofs.Ytkbpjegmfhmhbaa
