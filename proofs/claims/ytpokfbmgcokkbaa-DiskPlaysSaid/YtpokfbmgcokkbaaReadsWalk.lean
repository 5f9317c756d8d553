/- DiskReads returns true: the walk. -/
import Derived.Test.YtpokfbmgcokkbaaMade
namespace Go.Proofs.Ytpokfbmgcokkbaa
open Go.RowKit Go.Shelf
attribute [local go_sem] Oper.semAt_some

variable {n₀ : Nat} {w0 w w' : World} {l : List Th} {D R : Nat} {a : AD}

def rcode (a : AD) (k : Int) : Int := if 0 ≤ k ∧ k < a.n then 0 else 5
def rdX (a : AD) (k : Int) : List Int := if 0 ≤ k ∧ k < a.n then rdA a k else []

theorem rdA_wr (a : AD) (k i : Int) (bs : List Int) : rdA (wrA a k bs) i = if i = k then bs else rdA a i := by
  show (lastB (a.pend ++ [(k, bs)]) i).getD (a.done i) = _
  rw [lastB_snoc]
  by_cases e : i = k
  · simp only [e, if_true]; rfl
  · simp only [e, if_false]; rfl

theorem Hold.dreadX (h : Hold n₀ w0 w l) (i : Nat) (hi : l[i]? = some (Dk D a)) (k : Int) :
    Calls Try.prog 11 #[.pointer (some ⟨D, 0, none⟩), .int .i64 k] w fun e w' => ∃ v, e = .returned (.tuple #[v, .int .i64 (rcode a k)]) ∧ (rdX a k).length ≤ 256 ∧ Hold n₀ w0 w' (l ++ [Rw v (rdX a k)]) := by
  unfold rcode rdX
  by_cases hin : 0 ≤ k ∧ k < a.n
  · simp only [hin, and_self, if_true]
    refine (h.dread i hi k hin.1 hin.2).mono ?_
    rintro e w' ⟨v, he, hl, h1⟩
    exact ⟨v, he, by omega, h1⟩
  · simp only [hin, if_false]
    refine (h.dread_bad i hi k (by omega)).mono ?_
    rintro e w' ⟨he, rfl⟩
    exact ⟨_, he, by simp, h.add (Rw.thing _ _) ⟨World.ownsRow_nil _ _ _ _, fun b hb => by simp [Value.ownBlock] at hb⟩ (Below.refl _ _)⟩

theorem made_facts (blocks : Int) (os : List OpD) : 128 ≤ (madeA blocks os).n ∧ (madeA blocks os).n ≤ 255 ∧ (madeA blocks os).ops ≤ 500 := by
  have hb : 0 ≤ bits .and .i64 blocks 127 ∧ bits .and .i64 blocks 127 ≤ 127 := bits_and_le blocks 127 (by omega)
  have h := foldA_ops (os.take 500) (newA (128 + (bits .and .i64 blocks 127).toNat))
  have hl := List.length_take_le 500 os
  have hn : (newA (128 + (bits .and .i64 blocks 127).toNat)).n = 128 + (bits .and .i64 blocks 127).toNat := rfl
  have ho : (newA (128 + (bits .and .i64 blocks 127).toNat)).ops = 0 := rfl
  unfold madeA
  omega

theorem Hold.made (h : Hold n₀ w0 w l) (blocks : Int) {v : Value} {os : List OpD} (hs : Script n₀ w0 v os) :
    Calls Try.prog 10 #[.int .i64 blocks, v] w fun e w' => ∃ D, e = .returned (.pointer (some ⟨D, 0, none⟩)) ∧ Hold n₀ w0 w' (l ++ [Dk D (madeA blocks os)]) := by
  refine (made_any blocks v os w ((hs.below h.frame).mono h.le)).mono ?_
  rintro e w' ⟨D, he, h1, h2⟩
  exact ⟨D, he, h.add (Dk.thing _ _) h1 h2⟩

theorem Hold.awake (w : World) : Calls Try.prog 9 #[] w fun e w' => e = .returned (.bool true) ∧ Hold w.heap.size w w' [] :=
  (awake_any w).mono fun e w' ⟨he, hb⟩ => ⟨he, (Hold.start w).below hb⟩

set_option maxRecDepth 100000 in
set_option maxHeartbeats 8000000 in
theorem reads_walk (blocks n fill other : Int) (v : Value) (os : List OpD) (w : World) (hs : Script w.heap.size w v os) :
    Calls Try.prog 3 #[.int .i64 blocks, v, .int .i64 n, .int .i64 fill, .int .i64 other] w fun e w' => e = .returned (.bool true) ∧ Below w.heap.size w w' := by
  obtain ⟨hn1, hn2, ho⟩ := made_facts blocks os
  replace hs := Lib.hid hs
  obtain ⟨va, vc, rfl⟩ : ∃ va vc, v = .slice va os.length vc := by obtain ⟨x, y, e, _⟩ := hs.out; exact ⟨x, y, e⟩
  go_enter Try.func3, Try.ntmps3
  go_wp2_with fail
  refine (Hold.awake w).mono ?_; rintro e w1 ⟨rfl, h1⟩
  replace h1 := Lib.hid h1
  go_wp2_with fail
  refine (h1.out.made blocks hs.out).mono ?_; rintro e w2 ⟨D, rfl, h2⟩
  obtain ⟨a, ha⟩ : ∃ a, madeA blocks os = a := ⟨_, rfl⟩
  rw [ha] at h2 hn1 hn2 ho
  replace h2 : Hold w.heap.size w w2 [Dk D a] := h2
  replace h2 := Lib.hid h2
  clear h1 ha
  go_wp2_with fail
  refine (h2.out.dreadX 0 rfl other).mono ?_; rintro e w3 ⟨v1, rfl, hl1, h3⟩
  replace h3 : Hold w.heap.size w w3 [Dk D a, Rw v1 (rdX a other)] := h3
  replace h3 := Lib.hid h3
  replace hl1 := Lib.hid hl1
  clear h2
  go_wp2_with fail
  refine (h3.out.filled fill).mono ?_; rintro e w4 ⟨g, cap, rfl, hcap, h4⟩
  replace h4 : Hold w.heap.size w w4 [Dk D a, Rw v1 (rdX a other), Rw (.slice (some ⟨g, 0, none⟩) 256 cap) (fillB (fill % 256))] := h4
  replace h4 := Lib.hid h4
  clear h3
  go_wp2_with fail
  refine (h4.out.dwriteX 0 rfl (by omega) n (ad := some ⟨g, 0, none⟩) (len := 256) (cap := cap) (m := 0) (bs := fillB (fill % 256)) (fun _ => by obtain ⟨S, hr⟩ := h4.out.get 2 rfl; exact ⟨hr.1, fillB_length _⟩)).mono ?_
  rintro e w5 ⟨rfl, h5⟩
  obtain ⟨a', ha'⟩ : ∃ a', wstep a n 256 (fillB (fill % 256)) = a' := ⟨_, rfl⟩
  rw [ha'] at h5
  replace h5 : Hold w.heap.size w w5 [Dk D a', Rw v1 (rdX a other), Rw (.slice (some ⟨g, 0, none⟩) 256 cap) (fillB (fill % 256))] := h5
  have hn' : a'.n = a.n := by rw [← ha']; exact (wstep_ops _ _ _ _).2
  replace h5 := Lib.hid h5
  replace ha' := Lib.hid ha'
  clear h4
  have hrc : ∀ k, rcode a' k = rcode a k := fun k => by unfold rcode; rw [hn']
  have hwc : wcode a n 256 = rcode a n := by unfold wcode rcode; simp
  rw [hwc]
  have hsame : n ≠ other → rdX a' other = rdX a other := fun hne => by
    unfold rdX
    rw [hn', ← ha'.out]
    by_cases h1 : 0 ≤ other ∧ other < a.n
    · simp only [h1, and_self, if_true]
      unfold wstep
      split
      · simp only [if_true]
        rw [rdA_wr, if_neg (Ne.symm hne)]
      · rfl
    · simp only [h1, if_false]
  have hread : 0 ≤ n ∧ n < a.n → rdX a' n = fillB (fill % 256) := fun hin => by
    unfold rdX
    rw [hn', if_pos hin, ← ha'.out]
    unfold wstep
    rw [if_pos hin]
    simp only [if_true]
    rw [rdA_wr, if_pos rfl]
  have hbl : ∀ w6 l, Hold w.heap.size w w6 (Dk D a' :: l) → Calls Try.prog 14 #[.pointer (some ⟨D, 0, none⟩)] w6 fun e w' => e = .returned (.int .i64 a.n) ∧ w' = w6 := fun w6 l h => by
    have := h.blocks 0 rfl
    rw [hn'] at this
    exact this
  obtain ⟨c, hc⟩ : ∃ c, rcode a n = c := ⟨_, rfl⟩
  obtain ⟨c2, hc2⟩ : ∃ c2, rcode a other = c2 := ⟨_, rfl⟩
  rw [hc, hc2]
  have hcc : (0 ≤ n ∧ n < a.n ∧ c = 0) ∨ (¬ (0 ≤ n ∧ n < a.n) ∧ c = 5) := by
    rw [← hc]
    unfold rcode
    by_cases h : 0 ≤ n ∧ n < a.n
    · exact .inl ⟨h.1, h.2, if_pos h⟩
    · exact .inr ⟨h, if_neg h⟩
  have hd1 := h5.out.dreadX 0 rfl n
  rw [hrc, hc] at hd1
  have hd2 := fun (w6 : World) (l : List Th) (h : Hold w.heap.size w w6 (Dk D a' :: l)) => h.dreadX 0 rfl other
  simp only [hrc, hc2] at hd2
  replace hd1 := Lib.hid hd1
  replace hd2 := Lib.hid hd2
  replace hsame := Lib.hid hsame
  replace hread := Lib.hid hread
  replace hbl := Lib.hid hbl
  replace hn' := Lib.hid hn'
  replace hcc := Lib.hid hcc
  replace hc := Lib.hid hc
  replace hc2 := Lib.hid hc2
  clear hrc hwc
  go_wp2_with fail
  refine hd1.out.mono ?_; rintro e w6 ⟨v2, rfl, hl2, h6⟩
  replace h6 : Hold w.heap.size w w6 [Dk D a', Rw v1 (rdX a other), Rw (.slice (some ⟨g, 0, none⟩) 256 cap) (fillB (fill % 256)), Rw v2 (rdX a' n)] := h6
  replace h6 := Lib.hid h6
  replace hl2 := Lib.hid hl2
  clear h5 hd1
  go_wp2_with fail
  refine (hd2.out _ _ h6.out).mono ?_; rintro e w7 ⟨v3, rfl, hl3, h7⟩
  replace h7 : Hold w.heap.size w w7 [Dk D a', Rw v1 (rdX a other), Rw (.slice (some ⟨g, 0, none⟩) 256 cap) (fillB (fill % 256)), Rw v2 (rdX a' n), Rw v3 (rdX a' other)] := h7
  have hb := hbl.out w7 _ h7
  replace h7 := Lib.hid h7
  replace hb := Lib.hid hb
  replace hl3 := Lib.hid hl3
  clear h6 hd2 hbl
  have q9 : (c2 != c2) = false := by simp
  rcases hcc.out with ⟨p1, p2, rfl⟩ | ⟨p1, rfl⟩
  · clear hcc
    go_wp2_with fail
    refine hb.out.mono ?_; rintro e w8 ⟨rfl, rfl⟩
    go_wp2_with fail
    refine (h7.out.filled fill).mono ?_; rintro e w9 ⟨g2, cap2, rfl, hcap2, h9⟩
    replace h9 : Hold w.heap.size w w9 [Dk D a', Rw v1 (rdX a other), Rw (.slice (some ⟨g, 0, none⟩) 256 cap) (fillB (fill % 256)), Rw v2 (rdX a' n), Rw v3 (rdX a' other), Rw (.slice (some ⟨g2, 0, none⟩) 256 cap2) (fillB (fill % 256))] := h9
    have hs1 := h9.same 3 5 rfl rfl (by have := hl2.out; omega)
    rw [hread.out ⟨p1, p2⟩, beq_self_eq_true] at hs1
    replace h9 := Lib.hid h9
    replace hs1 := Lib.hid hs1
    clear h7
    go_wp2_with fail
    refine hs1.out.mono ?_; rintro e wA ⟨rfl, mA, hmA⟩
    have hA : Hold w.heap.size w wA [Dk D a', Rw v1 (rdX a other), Rw (.slice (some ⟨g, 0, none⟩) 256 cap) (fillB (fill % 256)), Rw v2 (rdX a' n), Rw v3 (rdX a' other), Rw (.slice (some ⟨g2, 0, none⟩) 256 cap2) (fillB (fill % 256))] := by rw [hmA]; exact h9.out.drewN mA
    replace hA := Lib.hid hA
    clear hmA h9 hs1
    by_cases hno : n = other
    · have q4 : (n == other) = true := by simp [hno]
      replace hno := Lib.hid hno
      have hfr := hA.out.frame
      replace hfr := Lib.hid hfr
      go_wp2_with fail
      go_ret
      exact ⟨rfl, hfr.out⟩
    · have q4 : (n == other) = false := by simp [hno]
      have hs2 := hA.out.same 1 4 rfl rfl (by have := hl1.out; omega)
      rw [hsame.out hno, beq_self_eq_true] at hs2
      replace hs2 := Lib.hid hs2
      go_wp2_with fail
      refine hs2.out.mono ?_; rintro e wz ⟨rfl, mz, hmz⟩
      have hfr : Below w.heap.size w wz := by rw [hmz]; exact (hA.out.drewN mz).frame
      replace hfr := Lib.hid hfr
      clear hmz
      go_wp2_with fail
      go_ret
      exact ⟨rfl, hfr.out⟩
  · clear hcc
    by_cases p2 : n < 0
    · clear p1
      by_cases hno : n = other
      · have q4 : (n == other) = true := by simp [hno]
        replace hno := Lib.hid hno
        have hfr := h7.out.frame
        replace hfr := Lib.hid hfr
        go_wp2_with fail
        go_ret
        exact ⟨rfl, hfr.out⟩
      · have q4 : (n == other) = false := by simp [hno]
        have hs2 := h7.out.same 1 4 rfl rfl (by have := hl1.out; omega)
        rw [hsame.out hno, beq_self_eq_true] at hs2
        replace hs2 := Lib.hid hs2
        go_wp2_with fail
        refine hs2.out.mono ?_; rintro e wz ⟨rfl, mz, hmz⟩
        have hfr : Below w.heap.size w wz := by rw [hmz]; exact (h7.out.drewN mz).frame
        replace hfr := Lib.hid hfr
        clear hmz
        go_wp2_with fail
        go_ret
        exact ⟨rfl, hfr.out⟩
    · have p3 : (a.n : Int) ≤ n := by omega
      clear p1
      go_wp2_with fail
      refine hb.out.mono ?_; rintro e w8 ⟨rfl, rfl⟩
      by_cases hno : n = other
      · have q4 : (n == other) = true := by simp [hno]
        replace hno := Lib.hid hno
        have hfr := h7.out.frame
        replace hfr := Lib.hid hfr
        go_wp2_with fail
        go_ret
        exact ⟨rfl, hfr.out⟩
      · have q4 : (n == other) = false := by simp [hno]
        have hs2 := h7.out.same 1 4 rfl rfl (by have := hl1.out; omega)
        rw [hsame.out hno, beq_self_eq_true] at hs2
        replace hs2 := Lib.hid hs2
        go_wp2_with fail
        refine hs2.out.mono ?_; rintro e wz ⟨rfl, mz, hmz⟩
        have hfr : Below w.heap.size w wz := by rw [hmz]; exact (h7.out.drewN mz).frame
        replace hfr := Lib.hid hfr
        clear hmz
        go_wp2_with fail
        go_ret
        exact ⟨rfl, hfr.out⟩
end Go.Proofs.Ytpokfbmgcokkbaa
