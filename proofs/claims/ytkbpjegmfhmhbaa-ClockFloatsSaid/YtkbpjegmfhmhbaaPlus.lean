/- The reference's plus and times. -/
import Derived.Test.YtkbpjegmfhmhbaaHalf
namespace Go.Proofs.Ytkbpjegmfhmhbaa
open Go.RowKit Go.Shelf
attribute [local go_sem] Oper.semAt_some

theorem take_all (bs : List Bool) (k : Nat) (h : bs.length ≤ k) : bs.take k = bs := List.take_of_length_le h

set_option maxHeartbeats 16000000 in
theorem plus_any {w : World} {v1 v2 : Value} {a b : List Bool} (ha : Bts w v1 a) (hb : Bts w v2 b) (la : a.length ≤ 1000) (lb : b.length ≤ 1000) :
    Calls Try.prog 54 #[v1, v2] w fun e w' => ∃ v bs, e = .returned v ∧ Row w.heap.size w' v bs ∧ bn bs = bn a + bn b ∧ bs.length = max a.length b.length + 1 ∧ Below w.heap.size w w' := by
  obtain ⟨i0, hi, hz0, hz1, hz2⟩ := info_parts info4
  have f1 := fun W (hW : Below w.heap.size w W) i => at_any (ha.below hW) i
  have f2 := fun W (hW : Below w.heap.size w W) i => at_any (hb.below hW) i
  obtain ⟨ad1, cap1, rfl, _⟩ := ha
  obtain ⟨ad2, cap2, rfl, _⟩ := hb
  obtain ⟨M, hM⟩ : ∃ M, max a.length b.length = M := ⟨_, rfl⟩
  have hMi : max (a.length : Int) (b.length : Int) = (M : Int) := by omega
  have lM : M ≤ 1000 := by omega
  have ea : a.take (M + 1) = a := take_all a _ (by omega)
  have eb : b.take (M + 1) = b := take_all b _ (by omega)
  have sa : bn a < 2 ^ M := by
    have := bn_lt a
    have h2 := two_pow_le (show a.length ≤ M by omega)
    omega
  have sb : bn b < 2 ^ M := by
    have := bn_lt b
    have h2 := two_pow_le (show b.length ≤ M by omega)
    omega
  rw [hM]
  obtain ⟨l1, hl1⟩ : ∃ l, a.length = l := ⟨_, rfl⟩
  obtain ⟨l2, hl2⟩ : ∃ l, b.length = l := ⟨_, rfl⟩
  rw [hl1, hl2] at hMi
  rw [hl1] at f1 ⊢
  rw [hl2] at f2 ⊢
  clear la lb hM hl1 hl2
  replace f1 := Lib.hid f1
  replace f2 := Lib.hid f2
  replace ea := Lib.hid ea
  replace eb := Lib.hid eb
  replace sa := Lib.hid sa
  replace sb := Lib.hid sb
  go_enter Try.func54, Try.ntmps54
  go_wp2_with fail
  go_loopw [5, 6, 7] (fun o c i wr => ∃ (k : Nat) (bs : List Bool) (cb : Bool), k ≤ M + 1 ∧ i = .int .i64 k ∧ c = .bool cb ∧ Row w.heap.size wr o bs ∧ bs.length = k ∧ bn bs + 2 ^ k * cb.toNat = bn (a.take k) + bn (b.take k) ∧ Below w.heap.size w wr) (fun _ _ i _ => (M + 1) - (intOf i).toNat)
  case atStart => exact ⟨0, [], false, by omega, rfl, rfl, Row.nil _ _, rfl, by simp [bn], Below.refl _ _⟩
  case round =>
    obtain ⟨k, bs, cb, hk, rfl, rfl, hr, rfl, hv, hbw⟩ := hrel
    obtain ⟨wo, rfl⟩ : ∃ wo : World, wo = wr := ⟨_, rfl⟩
    obtain ⟨oa, oc, rfl⟩ := hr.form
    by_cases hlt : bs.length ≤ M
    · have q1 : (bs.length : Int) ≤ (M : Int) := by omega
      have q2 : decide ((bs.length : Int) ≤ max (l1 : Int) (l2 : Int)) = true := by rw [hMi]; exact decide_eq_true q1
      have s1 := bn_take_step a bs.length
      have s2 := bn_take_step b bs.length
      have g1 := f1.out wo hbw bs.length
      obtain ⟨x, hx⟩ : ∃ x, atB a bs.length = x := ⟨_, rfl⟩
      obtain ⟨y, hy⟩ : ∃ y, atB b bs.length = y := ⟨_, rfl⟩
      rw [hx] at s1 g1
      rw [hy] at s2
      replace g1 := Lib.hid g1
      replace hr := Lib.hid hr
      replace hbw := Lib.hid hbw
      replace hy := Lib.hid hy
      replace hv := Lib.hid hv
      replace s1 := Lib.hid s1
      replace s2 := Lib.hid s2
      replace hMi := Lib.hid hMi
      clear hx
      cases x <;> cases y <;> cases cb
      · go_wp2_with fail
        refine g1.out.mono ?_; rintro e wA ⟨rfl, mA, hA⟩
        have hbA : Below w.heap.size w wA := by rw [hA]; exact hbw.out.trans ((drewN_below _ mA).mono hbw.out.size)
        have hrA : Row w.heap.size wA (.slice oa bs.length oc) bs := by rw [hA]; exact hr.out
        have g2 := f2.out wA hbA bs.length
        rw [hy.out] at g2
        replace hA := Lib.hid hA
        replace hbA := Lib.hid hbA
        replace g2 := Lib.hid g2
        replace hrA := Lib.hid hrA
        go_wp2_with fail
        refine g2.out.mono ?_; rintro e wB ⟨rfl, mB, hB⟩
        have hbB : Below w.heap.size w wB := by rw [hB]; exact hbA.out.trans ((drewN_below _ mB).mono hbA.out.size)
        have hrB : Row w.heap.size wB (.slice oa bs.length oc) bs := by rw [hB]; exact hrA.out
        have hown : wB.ownsRow w.heap.size 4 1 (.slice oa bs.length oc) bs.length (bcells bs) := hrB
        have hwb : w.heap.size ≤ wB.heap.size := hbB.size
        replace hB := Lib.hid hB
        replace hbB := Lib.hid hbB
        replace hrB := Lib.hid hrB
        replace hown := Lib.hid hown
        go_wp2_with (refine wpList_append_own_at _ rfl _ _ 54 rfl w.heap.size 4 i0 _ 1 1 Try.underlying54 hi hz0 hz1 hz2 rfl (by decide) (.slice oa bs.length oc) _ _ rfl (hown.out.alloc _) ⟨wB.heap.size, 0, none⟩ 1 1 [.bool false] rfl rfl (World.news_of_block (cs := #[.bool false]) (t := 4) (fr := (0, 0)) (World.alloc_heap_new _ _)) (by simp [Value.oneCell']) (by unfold maxLen; omega) (by omega) (by simp; omega) ?_; intro v2 w3 hown' hgrow _ hat')
        have hR : Row w.heap.size w3 v2 (bs ++ [false]) := by
          show w3.ownsRow _ 4 1 v2 (bs ++ [false]).length (bcells (bs ++ [false]))
          rw [List.length_append, List.length_singleton, bcells, List.map_append]
          exact hown'
        have hBB : Below w.heap.size w w3 := hbB.out.trans (grown_alloc hrB.out hwb hgrow)
        replace hR := Lib.hid hR
        replace hBB := Lib.hid hBB
        replace hown' := Lib.hid hown'
        replace hgrow := Lib.hid hgrow
        replace hat' := Lib.hid hat'
        go_wp2_with fail
        go_roundw
        case rel =>
          refine ⟨bs.length + 1, bs ++ [false], false, by omega, by go_num, by first | rfl | simp, hR.out, by simp, ?_, hBB.out⟩
          have h1 := hv.out
          have h2 := s1.out
          have h3 := s2.out
          rw [bn_append, bn_one, h2, h3, Nat.pow_succ]
          generalize 2 ^ bs.length = P at *
          simp at h1 ⊢
          omega
        case measure => simp [intOf]; omega
      · go_wp2_with fail
        refine g1.out.mono ?_; rintro e wA ⟨rfl, mA, hA⟩
        have hbA : Below w.heap.size w wA := by rw [hA]; exact hbw.out.trans ((drewN_below _ mA).mono hbw.out.size)
        have hrA : Row w.heap.size wA (.slice oa bs.length oc) bs := by rw [hA]; exact hr.out
        have g2 := f2.out wA hbA bs.length
        rw [hy.out] at g2
        replace hA := Lib.hid hA
        replace hbA := Lib.hid hbA
        replace g2 := Lib.hid g2
        replace hrA := Lib.hid hrA
        go_wp2_with fail
        refine g2.out.mono ?_; rintro e wB ⟨rfl, mB, hB⟩
        have hbB : Below w.heap.size w wB := by rw [hB]; exact hbA.out.trans ((drewN_below _ mB).mono hbA.out.size)
        have hrB : Row w.heap.size wB (.slice oa bs.length oc) bs := by rw [hB]; exact hrA.out
        have hown : wB.ownsRow w.heap.size 4 1 (.slice oa bs.length oc) bs.length (bcells bs) := hrB
        have hwb : w.heap.size ≤ wB.heap.size := hbB.size
        replace hB := Lib.hid hB
        replace hbB := Lib.hid hbB
        replace hrB := Lib.hid hrB
        replace hown := Lib.hid hown
        go_wp2_with (refine wpList_append_own_at _ rfl _ _ 54 rfl w.heap.size 4 i0 _ 1 1 Try.underlying54 hi hz0 hz1 hz2 rfl (by decide) (.slice oa bs.length oc) _ _ rfl (hown.out.alloc _) ⟨wB.heap.size, 0, none⟩ 1 1 [.bool true] rfl rfl (World.news_of_block (cs := #[.bool true]) (t := 4) (fr := (0, 0)) (World.alloc_heap_new _ _)) (by simp [Value.oneCell']) (by unfold maxLen; omega) (by omega) (by simp; omega) ?_; intro v2 w3 hown' hgrow _ hat')
        have hR : Row w.heap.size w3 v2 (bs ++ [true]) := by
          show w3.ownsRow _ 4 1 v2 (bs ++ [true]).length (bcells (bs ++ [true]))
          rw [List.length_append, List.length_singleton, bcells, List.map_append]
          exact hown'
        have hBB : Below w.heap.size w w3 := hbB.out.trans (grown_alloc hrB.out hwb hgrow)
        replace hR := Lib.hid hR
        replace hBB := Lib.hid hBB
        replace hown' := Lib.hid hown'
        replace hgrow := Lib.hid hgrow
        replace hat' := Lib.hid hat'
        go_wp2_with fail
        go_roundw
        case rel =>
          refine ⟨bs.length + 1, bs ++ [true], false, by omega, by go_num, by first | rfl | simp, hR.out, by simp, ?_, hBB.out⟩
          have h1 := hv.out
          have h2 := s1.out
          have h3 := s2.out
          rw [bn_append, bn_one, h2, h3, Nat.pow_succ]
          generalize 2 ^ bs.length = P at *
          simp at h1 ⊢
          omega
        case measure => simp [intOf]; omega
      · go_wp2_with fail
        refine g1.out.mono ?_; rintro e wA ⟨rfl, mA, hA⟩
        have hbA : Below w.heap.size w wA := by rw [hA]; exact hbw.out.trans ((drewN_below _ mA).mono hbw.out.size)
        have hrA : Row w.heap.size wA (.slice oa bs.length oc) bs := by rw [hA]; exact hr.out
        have g2 := f2.out wA hbA bs.length
        rw [hy.out] at g2
        replace hA := Lib.hid hA
        replace hbA := Lib.hid hbA
        replace g2 := Lib.hid g2
        replace hrA := Lib.hid hrA
        go_wp2_with fail
        refine g2.out.mono ?_; rintro e wB ⟨rfl, mB, hB⟩
        have hbB : Below w.heap.size w wB := by rw [hB]; exact hbA.out.trans ((drewN_below _ mB).mono hbA.out.size)
        have hrB : Row w.heap.size wB (.slice oa bs.length oc) bs := by rw [hB]; exact hrA.out
        have hown : wB.ownsRow w.heap.size 4 1 (.slice oa bs.length oc) bs.length (bcells bs) := hrB
        have hwb : w.heap.size ≤ wB.heap.size := hbB.size
        replace hB := Lib.hid hB
        replace hbB := Lib.hid hbB
        replace hrB := Lib.hid hrB
        replace hown := Lib.hid hown
        go_wp2_with (refine wpList_append_own_at _ rfl _ _ 54 rfl w.heap.size 4 i0 _ 1 1 Try.underlying54 hi hz0 hz1 hz2 rfl (by decide) (.slice oa bs.length oc) _ _ rfl (hown.out.alloc _) ⟨wB.heap.size, 0, none⟩ 1 1 [.bool true] rfl rfl (World.news_of_block (cs := #[.bool true]) (t := 4) (fr := (0, 0)) (World.alloc_heap_new _ _)) (by simp [Value.oneCell']) (by unfold maxLen; omega) (by omega) (by simp; omega) ?_; intro v2 w3 hown' hgrow _ hat')
        have hR : Row w.heap.size w3 v2 (bs ++ [true]) := by
          show w3.ownsRow _ 4 1 v2 (bs ++ [true]).length (bcells (bs ++ [true]))
          rw [List.length_append, List.length_singleton, bcells, List.map_append]
          exact hown'
        have hBB : Below w.heap.size w w3 := hbB.out.trans (grown_alloc hrB.out hwb hgrow)
        replace hR := Lib.hid hR
        replace hBB := Lib.hid hBB
        replace hown' := Lib.hid hown'
        replace hgrow := Lib.hid hgrow
        replace hat' := Lib.hid hat'
        go_wp2_with fail
        go_roundw
        case rel =>
          refine ⟨bs.length + 1, bs ++ [true], false, by omega, by go_num, by first | rfl | simp, hR.out, by simp, ?_, hBB.out⟩
          have h1 := hv.out
          have h2 := s1.out
          have h3 := s2.out
          rw [bn_append, bn_one, h2, h3, Nat.pow_succ]
          generalize 2 ^ bs.length = P at *
          simp at h1 ⊢
          omega
        case measure => simp [intOf]; omega
      · go_wp2_with fail
        refine g1.out.mono ?_; rintro e wA ⟨rfl, mA, hA⟩
        have hbA : Below w.heap.size w wA := by rw [hA]; exact hbw.out.trans ((drewN_below _ mA).mono hbw.out.size)
        have hrA : Row w.heap.size wA (.slice oa bs.length oc) bs := by rw [hA]; exact hr.out
        have g2 := f2.out wA hbA bs.length
        rw [hy.out] at g2
        replace hA := Lib.hid hA
        replace hbA := Lib.hid hbA
        replace g2 := Lib.hid g2
        replace hrA := Lib.hid hrA
        go_wp2_with fail
        refine g2.out.mono ?_; rintro e wB ⟨rfl, mB, hB⟩
        have hbB : Below w.heap.size w wB := by rw [hB]; exact hbA.out.trans ((drewN_below _ mB).mono hbA.out.size)
        have hrB : Row w.heap.size wB (.slice oa bs.length oc) bs := by rw [hB]; exact hrA.out
        have hown : wB.ownsRow w.heap.size 4 1 (.slice oa bs.length oc) bs.length (bcells bs) := hrB
        have hwb : w.heap.size ≤ wB.heap.size := hbB.size
        replace hB := Lib.hid hB
        replace hbB := Lib.hid hbB
        replace hrB := Lib.hid hrB
        replace hown := Lib.hid hown
        go_wp2_with (refine wpList_append_own_at _ rfl _ _ 54 rfl w.heap.size 4 i0 _ 1 1 Try.underlying54 hi hz0 hz1 hz2 rfl (by decide) (.slice oa bs.length oc) _ _ rfl (hown.out.alloc _) ⟨wB.heap.size, 0, none⟩ 1 1 [.bool false] rfl rfl (World.news_of_block (cs := #[.bool false]) (t := 4) (fr := (0, 0)) (World.alloc_heap_new _ _)) (by simp [Value.oneCell']) (by unfold maxLen; omega) (by omega) (by simp; omega) ?_; intro v2 w3 hown' hgrow _ hat')
        have hR : Row w.heap.size w3 v2 (bs ++ [false]) := by
          show w3.ownsRow _ 4 1 v2 (bs ++ [false]).length (bcells (bs ++ [false]))
          rw [List.length_append, List.length_singleton, bcells, List.map_append]
          exact hown'
        have hBB : Below w.heap.size w w3 := hbB.out.trans (grown_alloc hrB.out hwb hgrow)
        replace hR := Lib.hid hR
        replace hBB := Lib.hid hBB
        replace hown' := Lib.hid hown'
        replace hgrow := Lib.hid hgrow
        replace hat' := Lib.hid hat'
        go_wp2_with fail
        go_roundw
        case rel =>
          refine ⟨bs.length + 1, bs ++ [false], true, by omega, by go_num, by first | rfl | simp, hR.out, by simp, ?_, hBB.out⟩
          have h1 := hv.out
          have h2 := s1.out
          have h3 := s2.out
          rw [bn_append, bn_one, h2, h3, Nat.pow_succ]
          generalize 2 ^ bs.length = P at *
          simp at h1 ⊢
          omega
        case measure => simp [intOf]; omega
      · go_wp2_with fail
        refine g1.out.mono ?_; rintro e wA ⟨rfl, mA, hA⟩
        have hbA : Below w.heap.size w wA := by rw [hA]; exact hbw.out.trans ((drewN_below _ mA).mono hbw.out.size)
        have hrA : Row w.heap.size wA (.slice oa bs.length oc) bs := by rw [hA]; exact hr.out
        have g2 := f2.out wA hbA bs.length
        rw [hy.out] at g2
        replace hA := Lib.hid hA
        replace hbA := Lib.hid hbA
        replace g2 := Lib.hid g2
        replace hrA := Lib.hid hrA
        go_wp2_with fail
        refine g2.out.mono ?_; rintro e wB ⟨rfl, mB, hB⟩
        have hbB : Below w.heap.size w wB := by rw [hB]; exact hbA.out.trans ((drewN_below _ mB).mono hbA.out.size)
        have hrB : Row w.heap.size wB (.slice oa bs.length oc) bs := by rw [hB]; exact hrA.out
        have hown : wB.ownsRow w.heap.size 4 1 (.slice oa bs.length oc) bs.length (bcells bs) := hrB
        have hwb : w.heap.size ≤ wB.heap.size := hbB.size
        replace hB := Lib.hid hB
        replace hbB := Lib.hid hbB
        replace hrB := Lib.hid hrB
        replace hown := Lib.hid hown
        go_wp2_with (refine wpList_append_own_at _ rfl _ _ 54 rfl w.heap.size 4 i0 _ 1 1 Try.underlying54 hi hz0 hz1 hz2 rfl (by decide) (.slice oa bs.length oc) _ _ rfl (hown.out.alloc _) ⟨wB.heap.size, 0, none⟩ 1 1 [.bool true] rfl rfl (World.news_of_block (cs := #[.bool true]) (t := 4) (fr := (0, 0)) (World.alloc_heap_new _ _)) (by simp [Value.oneCell']) (by unfold maxLen; omega) (by omega) (by simp; omega) ?_; intro v2 w3 hown' hgrow _ hat')
        have hR : Row w.heap.size w3 v2 (bs ++ [true]) := by
          show w3.ownsRow _ 4 1 v2 (bs ++ [true]).length (bcells (bs ++ [true]))
          rw [List.length_append, List.length_singleton, bcells, List.map_append]
          exact hown'
        have hBB : Below w.heap.size w w3 := hbB.out.trans (grown_alloc hrB.out hwb hgrow)
        replace hR := Lib.hid hR
        replace hBB := Lib.hid hBB
        replace hown' := Lib.hid hown'
        replace hgrow := Lib.hid hgrow
        replace hat' := Lib.hid hat'
        go_wp2_with fail
        go_roundw
        case rel =>
          refine ⟨bs.length + 1, bs ++ [true], false, by omega, by go_num, by first | rfl | simp, hR.out, by simp, ?_, hBB.out⟩
          have h1 := hv.out
          have h2 := s1.out
          have h3 := s2.out
          rw [bn_append, bn_one, h2, h3, Nat.pow_succ]
          generalize 2 ^ bs.length = P at *
          simp at h1 ⊢
          omega
        case measure => simp [intOf]; omega
      · go_wp2_with fail
        refine g1.out.mono ?_; rintro e wA ⟨rfl, mA, hA⟩
        have hbA : Below w.heap.size w wA := by rw [hA]; exact hbw.out.trans ((drewN_below _ mA).mono hbw.out.size)
        have hrA : Row w.heap.size wA (.slice oa bs.length oc) bs := by rw [hA]; exact hr.out
        have g2 := f2.out wA hbA bs.length
        rw [hy.out] at g2
        replace hA := Lib.hid hA
        replace hbA := Lib.hid hbA
        replace g2 := Lib.hid g2
        replace hrA := Lib.hid hrA
        go_wp2_with fail
        refine g2.out.mono ?_; rintro e wB ⟨rfl, mB, hB⟩
        have hbB : Below w.heap.size w wB := by rw [hB]; exact hbA.out.trans ((drewN_below _ mB).mono hbA.out.size)
        have hrB : Row w.heap.size wB (.slice oa bs.length oc) bs := by rw [hB]; exact hrA.out
        have hown : wB.ownsRow w.heap.size 4 1 (.slice oa bs.length oc) bs.length (bcells bs) := hrB
        have hwb : w.heap.size ≤ wB.heap.size := hbB.size
        replace hB := Lib.hid hB
        replace hbB := Lib.hid hbB
        replace hrB := Lib.hid hrB
        replace hown := Lib.hid hown
        go_wp2_with (refine wpList_append_own_at _ rfl _ _ 54 rfl w.heap.size 4 i0 _ 1 1 Try.underlying54 hi hz0 hz1 hz2 rfl (by decide) (.slice oa bs.length oc) _ _ rfl (hown.out.alloc _) ⟨wB.heap.size, 0, none⟩ 1 1 [.bool false] rfl rfl (World.news_of_block (cs := #[.bool false]) (t := 4) (fr := (0, 0)) (World.alloc_heap_new _ _)) (by simp [Value.oneCell']) (by unfold maxLen; omega) (by omega) (by simp; omega) ?_; intro v2 w3 hown' hgrow _ hat')
        have hR : Row w.heap.size w3 v2 (bs ++ [false]) := by
          show w3.ownsRow _ 4 1 v2 (bs ++ [false]).length (bcells (bs ++ [false]))
          rw [List.length_append, List.length_singleton, bcells, List.map_append]
          exact hown'
        have hBB : Below w.heap.size w w3 := hbB.out.trans (grown_alloc hrB.out hwb hgrow)
        replace hR := Lib.hid hR
        replace hBB := Lib.hid hBB
        replace hown' := Lib.hid hown'
        replace hgrow := Lib.hid hgrow
        replace hat' := Lib.hid hat'
        go_wp2_with fail
        go_roundw
        case rel =>
          refine ⟨bs.length + 1, bs ++ [false], true, by omega, by go_num, by first | rfl | simp, hR.out, by simp, ?_, hBB.out⟩
          have h1 := hv.out
          have h2 := s1.out
          have h3 := s2.out
          rw [bn_append, bn_one, h2, h3, Nat.pow_succ]
          generalize 2 ^ bs.length = P at *
          simp at h1 ⊢
          omega
        case measure => simp [intOf]; omega
      · go_wp2_with fail
        refine g1.out.mono ?_; rintro e wA ⟨rfl, mA, hA⟩
        have hbA : Below w.heap.size w wA := by rw [hA]; exact hbw.out.trans ((drewN_below _ mA).mono hbw.out.size)
        have hrA : Row w.heap.size wA (.slice oa bs.length oc) bs := by rw [hA]; exact hr.out
        have g2 := f2.out wA hbA bs.length
        rw [hy.out] at g2
        replace hA := Lib.hid hA
        replace hbA := Lib.hid hbA
        replace g2 := Lib.hid g2
        replace hrA := Lib.hid hrA
        go_wp2_with fail
        refine g2.out.mono ?_; rintro e wB ⟨rfl, mB, hB⟩
        have hbB : Below w.heap.size w wB := by rw [hB]; exact hbA.out.trans ((drewN_below _ mB).mono hbA.out.size)
        have hrB : Row w.heap.size wB (.slice oa bs.length oc) bs := by rw [hB]; exact hrA.out
        have hown : wB.ownsRow w.heap.size 4 1 (.slice oa bs.length oc) bs.length (bcells bs) := hrB
        have hwb : w.heap.size ≤ wB.heap.size := hbB.size
        replace hB := Lib.hid hB
        replace hbB := Lib.hid hbB
        replace hrB := Lib.hid hrB
        replace hown := Lib.hid hown
        go_wp2_with (refine wpList_append_own_at _ rfl _ _ 54 rfl w.heap.size 4 i0 _ 1 1 Try.underlying54 hi hz0 hz1 hz2 rfl (by decide) (.slice oa bs.length oc) _ _ rfl (hown.out.alloc _) ⟨wB.heap.size, 0, none⟩ 1 1 [.bool false] rfl rfl (World.news_of_block (cs := #[.bool false]) (t := 4) (fr := (0, 0)) (World.alloc_heap_new _ _)) (by simp [Value.oneCell']) (by unfold maxLen; omega) (by omega) (by simp; omega) ?_; intro v2 w3 hown' hgrow _ hat')
        have hR : Row w.heap.size w3 v2 (bs ++ [false]) := by
          show w3.ownsRow _ 4 1 v2 (bs ++ [false]).length (bcells (bs ++ [false]))
          rw [List.length_append, List.length_singleton, bcells, List.map_append]
          exact hown'
        have hBB : Below w.heap.size w w3 := hbB.out.trans (grown_alloc hrB.out hwb hgrow)
        replace hR := Lib.hid hR
        replace hBB := Lib.hid hBB
        replace hown' := Lib.hid hown'
        replace hgrow := Lib.hid hgrow
        replace hat' := Lib.hid hat'
        go_wp2_with fail
        go_roundw
        case rel =>
          refine ⟨bs.length + 1, bs ++ [false], true, by omega, by go_num, by first | rfl | simp, hR.out, by simp, ?_, hBB.out⟩
          have h1 := hv.out
          have h2 := s1.out
          have h3 := s2.out
          rw [bn_append, bn_one, h2, h3, Nat.pow_succ]
          generalize 2 ^ bs.length = P at *
          simp at h1 ⊢
          omega
        case measure => simp [intOf]; omega
      · go_wp2_with fail
        refine g1.out.mono ?_; rintro e wA ⟨rfl, mA, hA⟩
        have hbA : Below w.heap.size w wA := by rw [hA]; exact hbw.out.trans ((drewN_below _ mA).mono hbw.out.size)
        have hrA : Row w.heap.size wA (.slice oa bs.length oc) bs := by rw [hA]; exact hr.out
        have g2 := f2.out wA hbA bs.length
        rw [hy.out] at g2
        replace hA := Lib.hid hA
        replace hbA := Lib.hid hbA
        replace g2 := Lib.hid g2
        replace hrA := Lib.hid hrA
        go_wp2_with fail
        refine g2.out.mono ?_; rintro e wB ⟨rfl, mB, hB⟩
        have hbB : Below w.heap.size w wB := by rw [hB]; exact hbA.out.trans ((drewN_below _ mB).mono hbA.out.size)
        have hrB : Row w.heap.size wB (.slice oa bs.length oc) bs := by rw [hB]; exact hrA.out
        have hown : wB.ownsRow w.heap.size 4 1 (.slice oa bs.length oc) bs.length (bcells bs) := hrB
        have hwb : w.heap.size ≤ wB.heap.size := hbB.size
        replace hB := Lib.hid hB
        replace hbB := Lib.hid hbB
        replace hrB := Lib.hid hrB
        replace hown := Lib.hid hown
        go_wp2_with (refine wpList_append_own_at _ rfl _ _ 54 rfl w.heap.size 4 i0 _ 1 1 Try.underlying54 hi hz0 hz1 hz2 rfl (by decide) (.slice oa bs.length oc) _ _ rfl (hown.out.alloc _) ⟨wB.heap.size, 0, none⟩ 1 1 [.bool true] rfl rfl (World.news_of_block (cs := #[.bool true]) (t := 4) (fr := (0, 0)) (World.alloc_heap_new _ _)) (by simp [Value.oneCell']) (by unfold maxLen; omega) (by omega) (by simp; omega) ?_; intro v2 w3 hown' hgrow _ hat')
        have hR : Row w.heap.size w3 v2 (bs ++ [true]) := by
          show w3.ownsRow _ 4 1 v2 (bs ++ [true]).length (bcells (bs ++ [true]))
          rw [List.length_append, List.length_singleton, bcells, List.map_append]
          exact hown'
        have hBB : Below w.heap.size w w3 := hbB.out.trans (grown_alloc hrB.out hwb hgrow)
        replace hR := Lib.hid hR
        replace hBB := Lib.hid hBB
        replace hown' := Lib.hid hown'
        replace hgrow := Lib.hid hgrow
        replace hat' := Lib.hid hat'
        go_wp2_with fail
        go_roundw
        case rel =>
          refine ⟨bs.length + 1, bs ++ [true], true, by omega, by go_num, by first | rfl | simp, hR.out, by simp, ?_, hBB.out⟩
          have h1 := hv.out
          have h2 := s1.out
          have h3 := s2.out
          rw [bn_append, bn_one, h2, h3, Nat.pow_succ]
          generalize 2 ^ bs.length = P at *
          simp at h1 ⊢
          omega
        case measure => simp [intOf]; omega
    · have hbl : bs.length = M + 1 := by omega
      have q1 : ¬ (bs.length : Int) ≤ (M : Int) := by omega
      have q2 : decide ((bs.length : Int) ≤ max (l1 : Int) (l2 : Int)) = false := by rw [hMi]; exact decide_eq_false q1
      rw [hbl, ea.out, eb.out] at hv
      have hv2 : bn bs = bn a + bn b := by
        have h1 := sa.out
        have h2 := sb.out
        rw [Nat.pow_succ] at hv
        generalize 2 ^ M = P at *
        cases cb
        · simpa using hv
        · simp at hv; omega
      replace hr := Lib.hid hr
      replace hbw := Lib.hid hbw
      replace hv2 := Lib.hid hv2
      replace hbl := Lib.hid hbl
      replace hMi := Lib.hid hMi
      clear hv q1 hk hlt
      go_wp2_with fail
      go_ret
      exact ⟨_, bs, rfl, hr.out, hv2.out, hbl.out, hbw.out⟩
end Go.Proofs.Ytkbpjegmfhmhbaa
