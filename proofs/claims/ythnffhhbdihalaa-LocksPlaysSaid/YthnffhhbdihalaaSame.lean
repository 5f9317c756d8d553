/- A key's row is the reference's: the law's own function same. -/
import Derived.Test.YthnffhhbdihalaaBoth
namespace Go.Proofs.Ythnffhhbdihalaa
open Go.RowKit Go.Shelf

variable {Pr : Nat → Prop} {w0 w : World} {T Rb : Nat} {R : Int → List Clm} {l : List RC}

theorem at_row {l : List RC} {k : Nat} (hk : k < l.length) {key : Int} (h2 : (rAt l k).key = key) :
    (keyRow (l.take k) key).length < (keyRow l key).length ∧ clmAt (keyRow l key) (keyRow (l.take k) key).length = ⟨(rAt l k).th, (rAt l k).al⟩ := by
  rw [row_at hk rfl h2]
  constructor
  · simp
  · simp [clmAt]

theorem SameRow.drewN {w : World} {v : Value} {l : List RC} (h : RRow w v l) (n : Nat) : RRow (w.drewN n) v l := h

set_option maxRecDepth 100000 in
set_option maxHeartbeats 4000000 in
theorem same_any (hB : Both Pr w0 w T Rb (keyRow l) l) (hl : l.length ≤ 100000) (key : Int) :
    Calls Try.prog 19 #[.pointer (some ⟨T, 0, none⟩), .pointer (some ⟨Rb, 0, none⟩), .int .i64 key] w fun e w' => e = .returned (.bool true) ∧ Below w.heap.size w w' := by
  have hths := Lib.hid (hB.ths key)
  have hsm := hB.small key
  go_enter Try.func19, Try.ntmps19
  go_wp2_with fail
  refine (hB.claims key).mono ?_
  rintro e wd ⟨cv, rfl, hc, _, hBd, hBx, hbel⟩
  replace hbel := Lib.hid hbel
  obtain ⟨ad, cap, rfl, hx⟩ := hc
  clear hB hBd
  go_wp2_with fail
  go_loopw [8, 9] (fun n i wr => ∃ j : Nat, j ≤ l.length ∧ i = .int .i64 j ∧ n = .int .i64 (keyRow (l.take j) key).length ∧ Both (fun b => Pr b ∨ inBlock (.slice ad (keyRow l key).length cap) b) wd wr T Rb (keyRow l) l ∧ Below w.heap.size w wr) (fun _ i _ => l.length - (intOf i).toNat)
  case atStart => exact ⟨0, Nat.zero_le _, rfl, by simp [keyRow], hBx, hbel.out⟩
  case round =>
    obtain ⟨j, hj, rfl, rfl, hK, hbw⟩ := hrel
    have hbd : ∀ n, Below w.heap.size w (wr.drewN n) := fun n => ⟨hbw.os, hbw.tape, hbw.output, hbw.size, hbw.block⟩
    replace hbw := Lib.hid hbw
    replace hbd := Lib.hid hbd
    obtain ⟨rv, hrc, ra, rcap, rfl, hrr⟩ := hK.row
    have hKd := fun n => hK.drewN n
    have hho := fun n th => (hK.drewN n).rholds hl th key
    by_cases hlt : j < l.length
    · obtain ⟨g0, rfl, c0, c1, c2⟩ := hrr j hlt
      have hts := row_take_succ hlt key
      obtain ⟨x, hxk⟩ : ∃ x, (rAt l j).key = x := ⟨_, rfl⟩
      rw [hxk] at c1 hts
      by_cases hk : x = key
      · have hb : (x == key) = true := by simpa using hk
        obtain ⟨a1, a2⟩ := at_row hlt (hxk.trans hk)
        obtain ⟨A, hA⟩ : ∃ A, (keyRow (l.take j) key).length = A := ⟨_, rfl⟩
        rw [if_pos hk] at hts
        have hts' : (keyRow (l.take (j + 1)) key).length = A + 1 := by rw [hts, List.length_append, hA]; rfl
        rw [hA] at a1 a2 ⊢
        obtain ⟨g, rfl, cur, hgc, d0, d1, d2⟩ := hx A a1
        have hgs : wr.heap[g]? = wd.heap[g]? := hK.fr.same g (.inr rfl)
        have f0 : wr.cell? ⟨g, A * 3, none⟩ = some (.int .i64 (clmAt (keyRow l key) A).th) := (World.cell?_of_block (a := ⟨g, _, none⟩) hgs).trans d0
        have f1 : wr.cell? ⟨g, A * 3 + 1, none⟩ = some (.bool (clmAt (keyRow l key) A).al) := (World.cell?_of_block (a := ⟨g, _, none⟩) hgs).trans d1
        have f2 : wr.cell? ⟨g, A * 3 + 2, none⟩ = some (.bool (holdsAt (keyRow l key) A)) := (World.cell?_of_block (a := ⟨g, _, none⟩) hgs).trans d2
        have hv := holdsV hths.out.1 a1
        rw [a2] at f0 f1 hv
        simp only at f0 f1 hv
        obtain ⟨t, ht⟩ : ∃ t, (rAt l j).th = t := ⟨_, rfl⟩
        obtain ⟨al, hal⟩ : ∃ al, (rAt l j).al = al := ⟨_, rfl⟩
        obtain ⟨hh, hhe⟩ : ∃ hh, holdsAt (keyRow l key) A = hh := ⟨_, rfl⟩
        rw [ht] at c0 f0 hv
        rw [hal] at c2 f1
        rw [hhe] at f2 hv
        have hho' := fun n => hho n t
        rw [hv] at hho'
        replace hho' := Lib.hid hho'
        replace hKd := Lib.hid hKd
        replace hts' := Lib.hid hts'
        replace hxk := Lib.hid hxk
        replace ht := Lib.hid ht
        replace hal := Lib.hid hal
        replace hhe := Lib.hid hhe
        clear hho hv hgs d0 d1 d2 hgc hts a2 hK hrr hk
        have q0 : decide (((keyRow l key).length : Int) ≤ (A : Int)) = false := by simpa using a1
        have q1 : (t != t) = false := by simp
        have q2 : (al != al) = false := by simp
        have q3 : (hh != hh) = false := by simp
        go_wp2_with fail
        go_quiet ((go_at_call 17; exact Calls.quiet_of_same (hho'.out _)))
        go_wp2_with fail
        go_roundw
        case rel => exact ⟨j + 1, by omega, by go_num, by rw [hts'.out]; go_num, hKd.out _, hbd.out _⟩
        case measure => simp [intOf]; omega
      · have hb : (x == key) = false := by simpa using hk
        rw [if_neg hk] at hts
        replace hts := Lib.hid hts
        replace hKd := Lib.hid hKd
        clear hho hx hk c0 c2
        obtain ⟨A, hA⟩ : ∃ A, (keyRow (l.take j) key).length = A := ⟨_, rfl⟩
        rw [hA]
        replace hA := Lib.hid hA
        go_wp2_with fail
        go_roundw
        case rel => exact ⟨j + 1, by omega, by go_num, by rw [hts.out, hA.out], hK, hbw.out⟩
        case measure => simp [intOf]; omega
    · obtain rfl : j = l.length := by omega
      rw [List.take_length]
      clear hho hx hrr
      obtain ⟨N, hN⟩ : ∃ N, (keyRow l key).length = N := ⟨_, rfl⟩
      rw [hN]
      go_wp2_with fail
      go_ret
      exact ⟨by simp, hbw.out⟩
end Go.Proofs.Ythnffhhbdihalaa
