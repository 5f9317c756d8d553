/- The reference's length and divided. -/
import Derived.Test.YtkbpjegmfhmhbaaHalf
namespace Go.Proofs.Ytkbpjegmfhmhbaa
open Go.RowKit Go.Shelf
attribute [local go_sem] Oper.semAt_some

set_option maxHeartbeats 4000000 in
theorem length_any {w : World} {v : Value} {bs : List Bool} (h : Bts w v bs) (hl : bs.length ≤ 1000) :
    Calls Try.prog 44 #[v] w fun e w' => ∃ L : Nat, e = .returned (.int .i64 L) ∧ L ≤ bs.length ∧ bn bs < 2 ^ L ∧ (L ≠ 0 → 2 ^ (L - 1) ≤ bn bs) ∧ ∃ m, w' = w.drewN m := by
  obtain ⟨ad, cap, rfl, h1, h2, hc⟩ := h
  go_enter Try.func44, Try.ntmps44
  go_wp2_with fail
  go_loopw [3] (fun i wr => ∃ k : Nat, k ≤ bs.length ∧ i = .int .i64 k ∧ bn (bs.take k) = bn bs ∧ ∃ m, wr = w.drewN m) (fun i _ => (intOf i).toNat)
  case atStart => exact ⟨bs.length, Nat.le_refl _, rfl, by rw [List.take_length], 0, rfl⟩
  case round =>
    obtain ⟨k, hk, rfl, hv, m, rfl⟩ := hrel
    obtain ⟨wi, hwi⟩ : ∃ wi, w.drewN m = wi := ⟨_, rfl⟩
    have hcw : ∀ a, wi.cell? a = w.cell? a := fun a => by rw [← hwi]; rfl
    rw [hwi]
    replace hwi := Lib.hid hwi
    rcases Nat.eq_zero_or_pos k with rfl | h0
    · have hz : bn bs < 2 ^ 0 := by rw [← hv]; simp [bn]
      replace hz := Lib.hid hz
      clear hc hcw hv
      go_wp2_with fail
      go_ret
      exact ⟨0, rfl, hk, hz.out, fun h => absurd rfl h, m, hwi.out.symm⟩
    · obtain ⟨j, rfl⟩ : ∃ j, k = j + 1 := ⟨k - 1, by omega⟩
      have hj : j < bs.length := by omega
      obtain ⟨g, o, rfl, c0⟩ := hc j hj
      rw [← hcw] at c0
      have hs := bn_take_step bs j
      rw [atB_lt bs j hj] at hs
      have hlt := bn_take_lt bs (j + 1)
      rw [hv] at hlt
      obtain ⟨b, hb⟩ : ∃ b, bs[j] = b := ⟨_, rfl⟩
      rw [hb] at c0 hs
      have i1 : (((j + 1 : Nat) : Int) - 1) = (j : Int) := by omega
      have b1 : (0 : Int) < ((j + 1 : Nat) : Int) := by omega
      have b2 : ((j + 1 : Nat) : Int) = (j : Int) + 1 := by omega
      rw [b2] at b1 ⊢
      clear hc hcw hb i1
      replace hlt := Lib.hid hlt
      replace hs := Lib.hid hs
      replace hv := Lib.hid hv
      replace b2 := Lib.hid b2
      cases b
      · have hn : bn (bs.take j) = bn bs := by have := hs.out; rw [hv.out] at this; simp at this; omega
        replace hn := Lib.hid hn
        go_wp2_with fail
        go_roundw
        case rel => exact ⟨j, by omega, by first | rfl | simp, hn.out, m, hwi.out.symm⟩
        case measure => simp [intOf]; try omega
      · have hn : 2 ^ (j + 1 - 1) ≤ bn bs := by have := hs.out; rw [hv.out] at this; rw [this]; simp
        replace hn := Lib.hid hn
        go_wp2_with fail
        go_ret
        exact ⟨j + 1, by rw [b2.out]; rfl, hk, hlt.out, fun _ => hn.out, m, hwi.out.symm⟩

theorem setCell_heap (W : World) (B i : Nat) (x : Value) (cur : Array Value) (t : TypeId) (hb : W.heap[B]? = some (.cells cur t (0, 0))) :
    (W.setCell ⟨B, i, none⟩ x).heap[B]? = some (.cells (cur.set! i x) t (0, 0)) := by
  obtain ⟨hlt, hk⟩ := Array.getElem?_eq_some_iff.1 hb
  show (W.heap.modify B _)[B]? = _
  rw [Array.getElem?_eq_getElem (by rw [Array.size_modify]; exact hlt), Array.getElem_modify_self, hk]
  rfl
theorem below_setCell {n B i : Nat} {w w' : World} (h : Below n w w') (hB : n ≤ B) (x : Value) : Below n w (w'.setCell ⟨B, i, none⟩ x) :=
  ⟨h.os, h.tape, h.output, by simpa using h.size, fun k hk => (Below.heap_setCell _ _ _ _ (show k ≠ B by omega)).trans (h.block k hk)⟩

theorem made_bits (n : Nat) : madeCells #[.bool false] n = (bcells (List.replicate n false)).toArray := by
  apply Array.ext
  · simp [madeCells, bcells]
  · intro i h1 h2
    simp [madeCells, bcells, Nat.mod_one]
theorem set_bits (qs : List Bool) (j : Nat) (b : Bool) : (bcells qs).toArray.set! j (.bool b) = (bcells (qs.set j b)).toArray := by
  rw [Array.set!_eq_setIfInBounds]
  simp [bcells, List.map_set]
theorem row_of_cells {w : World} {g n l : Nat} {qs : List Bool} (hb : w.heap[g]? = some (.cells (bcells qs).toArray 4 (0, 0))) (hn : n ≤ g) (hl : qs.length = l) (hm : l ≤ maxLen) : Row n w (.slice (some ⟨g, 0, none⟩) l l) qs := by
  subst hl
  refine ⟨by simp [bcells], .inr ⟨g, qs.length, (bcells qs).toArray, rfl, hn, hb, Nat.le_refl _, hm, by simp [bcells], ?_⟩⟩
  simp [bcells]
  exact List.take_of_length_le (by simp)

theorem div_step (X Q R b : Nat) (hX : X = Q * 1000000000 + R) (hR : R < 1000000000) (hb : b ≤ 1) :
    (2 * R + b < 1000000000 → (b + 2 * X) / 1000000000 = 0 + 2 * Q ∧ (b + 2 * X) % 1000000000 = 2 * R + b) ∧ (1000000000 ≤ 2 * R + b → (b + 2 * X) / 1000000000 = 1 + 2 * Q ∧ (b + 2 * X) % 1000000000 = 2 * R + b - 1000000000) := by
  omega

set_option maxRecDepth 100000 in
set_option maxHeartbeats 8000000 in
theorem divided_any {w : World} {v : Value} {bs : List Bool} (h : Bts w v bs) (hl0 : bs.length ≠ 0) (hl : bs.length ≤ 1000) :
    Calls Try.prog 43 #[v, .int .u64 1000000000] w fun e w' => ∃ v' qs, e = .returned (.tuple #[v', .bool (decide (0 < bn bs % 1000000000))]) ∧ Row w.heap.size w' v' qs ∧ qs.length = bs.length ∧ bn qs = bn bs / 1000000000 ∧ Below w.heap.size w w' := by
  obtain ⟨ad, cap, rfl, h1, h2, hc⟩ := h
  obtain ⟨l, hL⟩ : ∃ l, bs.length = l := ⟨_, rfl⟩
  rw [hL] at hl0 hl h1 ⊢
  have hmk := fun W => run_make_row' 54 4 (.bool false) 1 Try.underlying54 info4 rfl .i64 .i64 l (by omega) (by omega) W
  have hmb := made_bits l
  rw [hmb] at hmk
  obtain ⟨A, hA⟩ : ∃ A, bn bs % 1000000000 = A := ⟨_, rfl⟩
  rw [hA]
  replace hA := Lib.hid hA
  replace hL := Lib.hid hL
  replace hmb := Lib.hid hmb
  go_enter Try.func43, Try.ntmps43
  go_wp2_with fail
  go_loopw [7, 8] (fun r i wr => ∃ (k R : Nat) (qs : List Bool), k ≤ l ∧ i = .int .i64 ((k : Int) - 1) ∧ r = .int .u64 R ∧ qs.length = l ∧ wr.heap[w.heap.size]? = some (.cells (bcells qs).toArray 4 (0, 0)) ∧ (∀ j (h : j < qs.length), j < k → qs[j] = false) ∧ bn (qs.drop k) = bn (bs.drop k) / 1000000000 ∧ R = bn (bs.drop k) % 1000000000 ∧ Below w.heap.size w wr) (fun _ i _ => ((intOf i) + 1).toNat)
  case atStart => exact ⟨l, 0, List.replicate l false, by omega, rfl, rfl, List.length_replicate, World.alloc_heap_new _ _, fun j hj _ => List.getElem_replicate _, by rw [List.drop_eq_nil_of_le (by simp), List.drop_eq_nil_of_le (by rw [hL.out]; omega)]; rfl, by rw [List.drop_eq_nil_of_le (by rw [hL.out]; omega)]; rfl, (Below.refl _ _).alloc (Nat.le_refl _) _⟩
  case round =>
    obtain ⟨k, R, qs, hk, rfl, rfl, hq, hb, hf, hd, hR, hbe⟩ := hrel
    clear hmk
    rcases Nat.eq_zero_or_pos k with rfl | h0
    · rw [List.drop_zero, List.drop_zero] at hd
      rw [List.drop_zero, hA.out] at hR
      subst hR
      have hrow := row_of_cells hb (Nat.le_refl _) hq (by unfold maxLen; omega)
      have hp : decide ((0 : Int) < (R : Int)) = decide (0 < R) := by
        by_cases c : 0 < R
        · rw [decide_eq_true c, decide_eq_true (by omega)]
        · rw [decide_eq_false c, decide_eq_false (by omega)]
      replace hd := Lib.hid hd
      replace hb := Lib.hid hb
      replace hbe := Lib.hid hbe
      replace hrow := Lib.hid hrow
      replace hq := Lib.hid hq
      replace hA := Lib.hid hA
      generalize decide (0 < R) = P at *
      clear hc hf
      go_wp2_with fail
      go_ret2
      exact ⟨_, qs, by first | rfl | simp, hrow.out, hq.out, hd.out, hbe.out⟩
    · obtain ⟨j, rfl⟩ : ∃ j, k = j + 1 := ⟨k - 1, by omega⟩
      have hj : j < bs.length := by rw [hL.out]; omega
      have hjq : j < qs.length := by omega
      have hjl : j < l := by omega
      obtain ⟨g, o, rfl, c0⟩ := hc j hj
      have hgl : g < w.heap.size := cell_lt c0
      have d0 : wr.cell? ⟨g, o + j, none⟩ = some (.bool bs[j]) := by
        rw [← c0]
        have := hbe.block g hgl
        unfold World.cell?
        simp [this]
      obtain ⟨b, hbb⟩ : ∃ b, bs[j] = b := ⟨_, rfl⟩
      have hdj : bn (bs.drop j) = b.toNat + 2 * bn (bs.drop (j + 1)) := by rw [← hbb, List.drop_eq_getElem_cons hj, bn]
      rw [hbb] at d0
      have z0 : wr.cell? ⟨w.heap.size, j, none⟩ = some (.bool qs[j]) := by simp [World.cell?, hb, bcells, hjq]
      have z1 : wr.frozen? ⟨w.heap.size, j, none⟩ = false := by simp [World.frozen?, hb]
      have hqj : qs[j] = false := hf j hjq (by omega)
      have hqd : bn (qs.drop j) = 0 + 2 * bn (qs.drop (j + 1)) := by rw [List.drop_eq_getElem_cons hjq, bn, hqj]; rfl
      have hqs : bn ((qs.set j true).drop j) = 1 + 2 * bn (qs.drop (j + 1)) := by
        rw [List.drop_eq_getElem_cons (by simpa using hjq), bn, List.drop_set_of_lt (by omega)]
        simp
      have hf2 : ∀ i (h : i < qs.length), i < j → qs[i] = false := fun i h hi => hf i h (by omega)
      have hf3 : ∀ i (h : i < (qs.set j true).length), i < j → (qs.set j true)[i] = false := fun i h hi => by
        rw [List.getElem_set_ne (by omega)]
        exact hf i (by simpa using h) (by omega)
      obtain ⟨X, hX⟩ : ∃ X, bn (bs.drop (j + 1)) = X := ⟨_, rfl⟩
      rw [hX] at hdj hd hR
      have hRl : R < 1000000000 := by omega
      have hst := div_step X (X / 1000000000) R b.toNat (by omega) hRl (by cases b <;> decide)
      rw [← hdj, ← hd] at hst
      have i1 : (((j + 1 : Nat) : Int) - 1) = (j : Int) := by omega
      rw [i1]
      have hs1 := setCell_heap wr w.heap.size j (.bool true) _ 4 hb
      rw [set_bits] at hs1
      have hs2 := below_setCell (i := j) hbe (Nat.le_refl _) (.bool true)
      have b1 : (0 : Int) ≤ (R : Int) := by omega
      have b2 : (R : Int) < 1000000000 := by omega
      rw [hqj] at z0
      clear hc hf hdj hd hR hX i1 hqj c0 hbb
      replace hb := Lib.hid hb
      replace hbe := Lib.hid hbe
      replace hq := Lib.hid hq
      replace hqd := Lib.hid hqd
      replace hqs := Lib.hid hqs
      replace hf2 := Lib.hid hf2
      replace hf3 := Lib.hid hf3
      replace hs1 := Lib.hid hs1
      replace hs2 := Lib.hid hs2
      by_cases hge : 2 * R + b.toNat < 1000000000
      · obtain ⟨t1, t2⟩ := hst.1 hge
        rw [← hqd.out] at t1
        clear hst
        replace t1 := Lib.hid t1
        replace t2 := Lib.hid t2
        cases b
        · have g1 : ¬ (1000000000 : Int) ≤ (R : Int) * 2 := by have : 2 * R + 0 < 1000000000 := hge; omega
          replace hge := Lib.hid hge
          go_wp2_with fail
          go_roundw
          case rel => exact ⟨j, 2 * R + 0, qs, by omega, by first | rfl | simp, by first | (congr 1; omega) | simp, hq.out, hb.out, hf2.out, t1.out.symm, t2.out.symm, hbe.out⟩
          case measure => simp [intOf]; try omega
        · have g1 : ¬ (1000000000 : Int) ≤ (R : Int) * 2 + 1 := by have : 2 * R + 1 < 1000000000 := hge; omega
          replace hge := Lib.hid hge
          go_wp2_with fail
          go_roundw
          case rel => exact ⟨j, 2 * R + 1, qs, by omega, by first | rfl | simp, by first | (congr 1; omega) | simp, hq.out, hb.out, hf2.out, t1.out.symm, t2.out.symm, hbe.out⟩
          case measure => simp [intOf]; try omega
      · obtain ⟨t1, t2⟩ := hst.2 (by omega)
        rw [← hqs.out] at t1
        clear hst
        replace t1 := Lib.hid t1
        replace t2 := Lib.hid t2
        cases b
        · have g1 : (1000000000 : Int) ≤ (R : Int) * 2 := by have : ¬ 2 * R + 0 < 1000000000 := hge; omega
          have g2 : ((2 * R + 0 - 1000000000 : Nat) : Int) = (R : Int) * 2 - 1000000000 := by omega
          replace hge := Lib.hid hge
          replace g2 := Lib.hid g2
          go_wp2_with fail
          go_roundw
          case rel => exact ⟨j, 2 * R + 0 - 1000000000, qs.set j true, by omega, by first | rfl | simp, by first | rw [g2.out] | simp, by simpa using hq.out, hs1.out, hf3.out, t1.out.symm, t2.out.symm, hs2.out⟩
          case measure => simp [intOf]; try omega
        · have g1 : (1000000000 : Int) ≤ (R : Int) * 2 + 1 := by have : ¬ 2 * R + 1 < 1000000000 := hge; omega
          have g2 : ((2 * R + 1 - 1000000000 : Nat) : Int) = (R : Int) * 2 + 1 - 1000000000 := by omega
          replace hge := Lib.hid hge
          replace g2 := Lib.hid g2
          go_wp2_with fail
          go_roundw
          case rel => exact ⟨j, 2 * R + 1 - 1000000000, qs.set j true, by omega, by first | rfl | simp, by first | rw [g2.out] | simp, by simpa using hq.out, hs1.out, hf3.out, t1.out.symm, t2.out.symm, hs2.out⟩
          case measure => simp [intOf]; try omega
end Go.Proofs.Ytkbpjegmfhmhbaa
