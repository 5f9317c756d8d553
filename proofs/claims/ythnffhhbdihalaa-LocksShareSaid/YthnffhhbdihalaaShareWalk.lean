/- LocksShare returns true: the walk, and why. -/
import Derived.Test.YthnffhhbdihalaaBits
namespace Go.Proofs.Ythnffhhbdihalaa
open Go.RowKit Go.Shelf

variable {w0 w : World} {T : Nat} {R : Int → List Clm} {n₀ : Nat} {L : List Clm} {kk : Int}

def RowI (n₀ : Nat) (w0 w : World) (T : Nat) (kk : Int) (L : List Clm) : Prop := ∃ R, TabI n₀ w0 w T R ∧ R kk = L

theorem findAt_none_of {th : Int} (h : ∀ c ∈ L, c.th ≠ th) : findAt L th = none := by
  unfold findAt
  rw [List.findIdx?_eq_none_iff]
  intro c hc
  simpa using h c hc

theorem RowI.ask (h : RowI n₀ w0 w T kk L) (th' th : Int) (hth : th' = th) (al : Bool) (h1 : 1 ≤ th) (h2 : th ≤ 64) (h3 : 0 ≤ kk) (hn : ∀ c ∈ L, c.th ≠ th) {L' : List Clm} (hL : L ++ [⟨th, al⟩] = L') :
    Calls Try.prog 12 #[.pointer (some ⟨T, 0, none⟩), .int .i64 th', .int .i64 kk, .bool al] w fun e w' => e = .returned (.int .i64 0) ∧ RowI n₀ w0 w' T kk L' := by
  rw [hth]
  subst hL
  obtain ⟨R, hR, rfl⟩ := h
  refine (hR.ask th kk al).mono ?_
  rintro e w' ⟨he, ht⟩
  have hf := findAt_none_of hn
  unfold askE at he
  unfold askR at ht
  rw [if_pos ⟨h1, h2, h3, hf⟩] at he ht
  exact ⟨he, _, ht, by simp [setRow]⟩

theorem RowI.holds (h : RowI n₀ w0 w T kk L) (th : Int) (i : Nat) (hi : i < L.length) (he : (clmAt L i).th = th) {b : Bool} (hb : holdsAt L i = b) :
    Calls Try.prog 16 #[.pointer (some ⟨T, 0, none⟩), .int .i64 th, .int .i64 kk] w fun e w' => e = .returned (.bool b) ∧ RowI n₀ w0 w' T kk L := by
  obtain ⟨R, hR, rfl⟩ := h
  refine (hR.holds th kk).mono ?_
  rintro e w' ⟨h1, ht⟩
  refine ⟨?_, _, ht, rfl⟩
  rw [h1, ← he, holdsV (hR.ths kk).1 hi, hb]

theorem RowI.leave0 {c : Clm} {L' : List Clm} (h : RowI n₀ w0 w T kk L') (hL : L' = c :: L) (th : Int) (he : c.th = th) :
    Calls Try.prog 14 #[.pointer (some ⟨T, 0, none⟩), .int .i64 th, .int .i64 kk] w fun e w' => (∃ v, e = .returned (.int .i64 v)) ∧ RowI n₀ w0 w' T kk L := by
  subst hL
  obtain ⟨R, hR, hl⟩ := h
  refine (hR.leave th kk).mono ?_
  rintro e w' ⟨h1, ht⟩
  refine ⟨⟨_, h1⟩, _, ht, ?_⟩
  have hf : findAt (R kk) th = some 0 := by rw [hl]; unfold findAt; simp [List.findIdx?_cons, he]
  unfold leaveR
  rw [hf]
  simp [setRow, hl]

def seg (a : Int) (n : Nat) : List Clm := (List.range n).map fun i : Nat => ⟨a + (i : Int), false⟩
theorem seg_length (a : Int) (n : Nat) : (seg a n).length = n := by simp [seg]
theorem seg_succ (a : Int) (n : Nat) : seg a (n + 1) = seg a n ++ [⟨a + (n : Int), false⟩] := by simp [seg, List.range_succ]
theorem seg_cons (a : Int) (n : Nat) : seg a (n + 1) = ⟨a, false⟩ :: seg (a + 1) n := by
  unfold seg
  rw [List.range_succ_eq_map, List.map_cons, List.map_map]
  simp only [Int.ofNat_eq_natCast, Int.natCast_zero, Int.add_zero, List.cons.injEq, true_and]
  apply List.map_congr_left
  intro i _
  simp only [Function.comp, Nat.succ_eq_add_one, Clm.mk.injEq, and_true]
  omega
theorem seg_mem {a : Int} {n : Nat} {c : Clm} (h : c ∈ seg a n) : a ≤ c.th ∧ c.th < a + n := by
  obtain ⟨i, hi, rfl⟩ := List.mem_map.1 h
  have := List.mem_range.1 hi
  simp only
  omega
theorem seg_at {a : Int} {n i : Nat} (h : i < n) : clmAt (seg a n) i = ⟨a + i, false⟩ := by simp [clmAt, seg, h]

/-- The row behind k leaves: m - k together, one alone, j together. -/
def full (m k j : Nat) : List Clm := seg (1 + (k : Int)) (m - k) ++ ⟨(m : Int) + 1, true⟩ :: seg ((m : Int) + 2) j
theorem full_length (m k j : Nat) : (full m k j).length = m - k + 1 + j := by simp [full, seg_length]; omega
theorem full_succ (m k j : Nat) : full m k (j + 1) = full m k j ++ [⟨(m : Int) + 2 + j, false⟩] := by unfold full; rw [seg_succ]; simp
theorem full_leave {m k j : Nat} (h : k < m) : full m k j = ⟨1 + (k : Int), false⟩ :: full m (k + 1) j := by
  unfold full
  obtain ⟨d, hd⟩ : ∃ d, m - k = d + 1 := ⟨m - k - 1, by omega⟩
  rw [hd, seg_cons, show m - (k + 1) = d by omega]
  simp only [List.cons_append]
  rw [show 1 + ((k + 1 : Nat) : Int) = 1 + (k : Int) + 1 by omega]
theorem full_at0 {m k j i : Nat} (h : i < m - k) : clmAt (full m k j) i = ⟨1 + (k : Int) + i, false⟩ := by
  unfold full clmAt
  rw [List.getElem?_append_left (by rw [seg_length]; exact h)]
  have := seg_at (a := 1 + (k : Int)) h
  unfold clmAt at this
  exact this
theorem full_at1 {m k j : Nat} : clmAt (full m k j) (m - k) = ⟨(m : Int) + 1, true⟩ := by
  unfold full clmAt
  rw [List.getElem?_append_right (by rw [seg_length]; exact Nat.le_refl _), seg_length]
  simp
theorem full_at2 {m k j i : Nat} (h : i < j) : clmAt (full m k j) (m - k + 1 + i) = ⟨(m : Int) + 2 + i, false⟩ := by
  unfold full clmAt
  rw [List.getElem?_append_right (by rw [seg_length]; omega), seg_length, show m - k + 1 + i - (m - k) = i + 1 by omega, List.getElem?_cons_succ]
  have := seg_at (a := (m : Int) + 2) h
  unfold clmAt at this
  exact this

theorem full_h0 {m j i : Nat} (h : i < m) : holdsAt (full m 0 j) i = true := by
  refine (holds_iff (by rw [full_length]; omega)).2 (.inr fun i' hi' => ?_)
  rw [full_at0 (by omega)]
theorem full_h1 {m j : Nat} (h : 0 < m) : holdsAt (full m 0 j) m = false := by
  cases hh : holdsAt (full m 0 j) m with
  | false => rfl
  | true =>
    rcases (holds_iff (by rw [full_length]; omega)).1 hh with h1 | h1
    · omega
    · have := h1 m (Nat.le_refl _)
      have e := full_at1 (m := m) (k := 0) (j := j)
      rw [Nat.sub_zero] at e
      rw [e] at this
      cases this
theorem full_h2 {m k j : Nat} (h : 0 < j) : holdsAt (full m k j) (m - k + 1) = false := by
  cases hh : holdsAt (full m k j) (m - k + 1) with
  | false => rfl
  | true =>
    rcases (holds_iff (by rw [full_length]; omega)).1 hh with h1 | h1
    · omega
    · have := h1 (m - k) (by omega)
      rw [full_at1] at this
      cases this
theorem seg_holds {a : Int} {n i : Nat} (h : i < n) : holdsAt (seg a n) i = true := by
  refine (holds_iff (by rw [seg_length]; omega)).2 (.inr fun i' hi' => ?_)
  rw [seg_at (by omega)]
theorem full_end (m j : Nat) : full m m j = ⟨(m : Int) + 1, true⟩ :: seg ((m : Int) + 2) j := by unfold full; simp [seg]

set_option maxRecDepth 100000 in
set_option maxHeartbeats 8000000 in
theorem share_walk (key n more : Int) (w : World) :
    Calls Try.prog 7 #[.int .i64 key, .int .i64 n, .int .i64 more] w fun e w' => e = .returned (.bool true) ∧ Below w.heap.size w w' := by
  obtain ⟨kk, hkk, hk0⟩ : ∃ kk, bits BinOp.and IntKind.i64 key 65535 = kk ∧ 0 ≤ kk := ⟨_, rfl, (bits_and_le key 65535 (by omega)).1⟩
  obtain ⟨q, hq, hq1⟩ : ∃ q : Nat, bits BinOp.and IntKind.i64 n 31 = q ∧ q ≤ 31 := by
    have : 0 ≤ bits BinOp.and IntKind.i64 n 31 ∧ bits BinOp.and IntKind.i64 n 31 ≤ 31 := bits_and_le n 31 (by omega)
    exact ⟨(bits BinOp.and IntKind.i64 n 31).toNat, by omega, by omega⟩
  obtain ⟨p, hp, hp1⟩ : ∃ p : Nat, bits BinOp.and IntKind.i64 more 15 = p ∧ p ≤ 15 := by
    have : 0 ≤ bits BinOp.and IntKind.i64 more 15 ∧ bits BinOp.and IntKind.i64 more 15 ≤ 15 := bits_and_le more 15 (by omega)
    exact ⟨(bits BinOp.and IntKind.i64 more 15).toNat, by omega, by omega⟩
  go_enter Try.func7, Try.ntmps7
  go_wp2_with fail
  refine (awake_any _).mono ?_; rintro e w1 ⟨rfl, b1⟩
  go_wp2_with fail
  refine (new_I _).mono ?_; rintro e w2 ⟨rfl, t2⟩
  have t2' : RowI w.heap.size w w2 (w1.heap.size + 1) kk (seg 1 0) := ⟨_, t2.rebase b1 b1.size, rfl⟩
  clear t2
  generalize w1.heap.size + 1 = T at *
  go_wp2_with fail
  obtain ⟨m, hm⟩ : ∃ m : Nat, m = q + 1 := ⟨_, rfl⟩
  have hmq : (m : Int) = 1 + (q : Int) := by omega
  replace hmq := Lib.hid hmq
  replace hm := Lib.hid hm
  go_loopw [10] (fun i wr => ∃ k : Nat, k ≤ m ∧ i = .int .i64 ((k : Int) + 1) ∧ RowI w.heap.size w wr T kk (seg 1 k)) (fun i _ => m + 1 - (intOf i).toNat)
  case atStart => exact ⟨0, Nat.zero_le _, rfl, t2'⟩
  case round =>
    obtain ⟨k, hk, rfl, hR⟩ := hrel
    by_cases hlt : k < m
    · have hz : (k : Int) + 1 ≤ 1 + (q : Int) := by have := hmq.out; omega
      go_wp2_with fail
      refine (hR.ask _ (1 + (k : Int)) (by omega) false (by omega) (by omega) hk0 (fun c hc => by have := seg_mem hc; omega) (seg_succ 1 k).symm).mono ?_; rintro e w3 ⟨rfl, t3⟩
      go_wp2_with fail
      go_roundw
      case rel => exact ⟨k + 1, by omega, by go_num, t3⟩
      case measure => simp [intOf]; omega
    · have hkm : k = m := by omega
      have hz : 1 + (q : Int) < (k : Int) + 1 := by have := hmq.out; omega
      go_wp2_with fail
      refine (hR.ask _ ((m : Int) + 1) (by have := hmq.out; omega) true (by omega) (by have := hmq.out; omega) hk0 (fun c hc => by have := seg_mem hc; omega) (L' := full m 0 0) (by rw [hkm]; simp [full, seg])).mono ?_; rintro e w3 ⟨rfl, t3⟩
      clear hlt hk hkm hz hR
      go_wp2_with fail
      go_loopw [12] (fun i wr => ∃ j : Nat, j ≤ p + 1 ∧ i = .int .i64 (j : Int) ∧ RowI w.heap.size w wr T kk (full m 0 j)) (fun i _ => p + 1 - (intOf i).toNat)
      case atStart => exact ⟨0, Nat.zero_le _, rfl, t3⟩
      case round =>
        obtain ⟨j, hj, rfl, hR⟩ := hrel
        by_cases hlt : j < p + 1
        · have hz : (j : Int) < 1 + (p : Int) := by omega
          go_wp2_with fail
          refine (hR.ask _ ((m : Int) + 2 + j) (by have := hmq.out; omega) false (by omega) (by have := hmq.out; omega) hk0 (fun c hc => ?_) (full_succ m 0 j).symm).mono ?_
          · unfold full at hc
            rcases List.mem_append.1 hc with hc | hc
            · have := seg_mem hc; omega
            · rcases List.mem_cons.1 hc with rfl | hc
              · show (m : Int) + 1 ≠ _; omega
              · have := seg_mem hc; omega
          rintro e w4 ⟨rfl, t4⟩
          go_wp2_with fail
          go_roundw
          case rel => exact ⟨j + 1, by omega, by go_num, t4⟩
          case measure => simp [intOf]; omega
        · have hjp : j = p + 1 := by omega
          have hz : 1 + (p : Int) ≤ (j : Int) := by omega
          rw [hjp] at hR
          clear hlt hj hjp
          go_wp2_with fail
          go_loopw [13] (fun i wr => ∃ k : Nat, k ≤ m ∧ i = .int .i64 ((k : Int) + 1) ∧ RowI w.heap.size w wr T kk (full m 0 (p + 1))) (fun i _ => m + 1 - (intOf i).toNat)
          case atStart => exact ⟨0, Nat.zero_le _, rfl, hR⟩
          case round =>
            obtain ⟨k, hk, rfl, hR⟩ := hrel
            have hfl := full_length m 0 (p + 1)
            by_cases hlt : k < m
            · have hz : (k : Int) + 1 ≤ 1 + (q : Int) := by have := hmq.out; omega
              go_wp2_with fail
              refine (hR.holds _ k (by omega) (by rw [full_at0 (by omega)]; show (1 : Int) + _ + _ = _; omega) (full_h0 hlt)).mono ?_; rintro e w4 ⟨rfl, t4⟩
              go_wp2_with fail
              refine (t4.holds _ m (by omega) (by have e := full_at1 (m := m) (k := 0) (j := p + 1); rw [Nat.sub_zero] at e; rw [e]; have := hmq.out; show (m : Int) + 1 = _; omega) (full_h1 (by omega))).mono ?_; rintro e w5 ⟨rfl, t5⟩
              go_wp2_with fail
              refine (t5.holds _ (m - 0 + 1 + 0) (by omega) (by rw [full_at2 (by omega)]; have := hmq.out; show (m : Int) + 2 + _ = _; omega) (full_h2 (by omega))).mono ?_; rintro e w6 ⟨rfl, t6⟩
              go_wp2_with fail
              go_roundw
              case rel => exact ⟨k + 1, by omega, by go_num, t6⟩
              case measure => simp [intOf]; omega
            · have hz : 1 + (q : Int) < (k : Int) + 1 := by have := hmq.out; omega
              clear hlt hk
              go_wp2_with fail
              go_loopw [14] (fun i wr => ∃ k : Nat, k ≤ m ∧ i = .int .i64 ((k : Int) + 1) ∧ RowI w.heap.size w wr T kk (full m k (p + 1))) (fun i _ => m + 1 - (intOf i).toNat)
              case atStart => exact ⟨0, Nat.zero_le _, rfl, hR⟩
              case round =>
                obtain ⟨k, hk, rfl, hR⟩ := hrel
                by_cases hlt : k < m
                · have hz : (k : Int) + 1 ≤ 1 + (q : Int) := by have := hmq.out; omega
                  go_wp2_with fail
                  refine (hR.leave0 (full_leave hlt) _ (by show 1 + (k : Int) = _; omega)).mono ?_; rintro e w4 ⟨⟨v, rfl⟩, t4⟩
                  go_wp2_with fail
                  go_roundw
                  case rel => exact ⟨k + 1, by omega, by go_num, t4⟩
                  case measure => simp [intOf]; omega
                · have hkm : k = m := by omega
                  have hz : 1 + (q : Int) < (k : Int) + 1 := by have := hmq.out; omega
                  have hR' : RowI w.heap.size w wr T kk (⟨(m : Int) + 1, true⟩ :: seg ((m : Int) + 2) (p + 1)) := by rw [hkm, full_end] at hR; exact hR
                  have hfin := fun h => full_h2 (m := m) (k := m) (j := p + 1) h
                  rw [full_end, Nat.sub_self] at hfin
                  replace hfin := Lib.hid hfin
                  clear hlt hk hR hkm
                  go_wp2_with fail
                  refine (hR'.holds _ 0 (by simp) (by have := hmq.out; show (m : Int) + 1 = _; omega) (b := true) rfl).mono ?_; rintro e w4 ⟨rfl, t4⟩
                  go_wp2_with fail
                  refine (t4.holds _ 1 (by simp [seg_length]) (by rw [seg_cons]; have := hmq.out; show (m : Int) + 2 = _; omega) (hfin.out (by omega))).mono ?_; rintro e w5 ⟨rfl, t5⟩
                  go_wp2_with fail
                  refine (t5.leave0 rfl _ (by have := hmq.out; show (m : Int) + 1 = _; omega)).mono ?_; rintro e w6 ⟨⟨v, rfl⟩, t6⟩
                  go_wp2_with fail
                  go_loopw [15] (fun i wr => ∃ j : Nat, j ≤ p + 1 ∧ i = .int .i64 (j : Int) ∧ RowI w.heap.size w wr T kk (seg ((m : Int) + 2) (p + 1))) (fun i _ => p + 1 - (intOf i).toNat)
                  case atStart => exact ⟨0, Nat.zero_le _, rfl, t6⟩
                  case round =>
                    obtain ⟨j, hj, rfl, hR⟩ := hrel
                    by_cases hlt : j < p + 1
                    · have hz : (j : Int) < 1 + (p : Int) := by omega
                      go_wp2_with fail
                      refine (hR.holds _ j (by rw [seg_length]; exact hlt) (by rw [seg_at hlt]; have := hmq.out; show (m : Int) + 2 + _ = _; omega) (seg_holds hlt)).mono ?_; rintro e w7 ⟨rfl, t7⟩
                      go_wp2_with fail
                      go_roundw
                      case rel => exact ⟨j + 1, by omega, by go_num, t7⟩
                      case measure => simp [intOf]; omega
                    · obtain rfl : j = p + 1 := by omega
                      have hz : 1 + (p : Int) ≤ ((p + 1 : Nat) : Int) := by omega
                      obtain ⟨R', hR', _⟩ := hR
                      go_wp2_with fail
                      go_ret
                      exact ⟨rfl, hR'.frame⟩
end Go.Proofs.Ythnffhhbdihalaa
