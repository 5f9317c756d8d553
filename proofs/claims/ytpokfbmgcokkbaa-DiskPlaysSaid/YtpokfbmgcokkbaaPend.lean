/- A disk: New, and what is pending (copied, copies, Pending). -/
import Derived.Test.YtpokfbmgcokkbaaCrash
namespace Go.Proofs.Ytpokfbmgcokkbaa
open Go.RowKit Go.Shelf
attribute [local go_sem] Oper.semAt_some

variable {S S' : Nat → Prop} {w w' : World} {D : Nat} {a : AD}

theorem new_bad (n : Int) (hn : n < 128 ∨ 4096 < n) (w : World) : Calls Try.prog 16 #[.int .i64 n] w fun e w' => e = .returned (.tuple #[.pointer none, .int .i64 22]) ∧ w' = w := by
  by_cases h1 : n < 128
  · go_enter Try.func16, Try.ntmps16
    go_wp2_with fail
    go_ret2
    exact ⟨rfl, rfl⟩
  · have h2 : 4096 < n := by omega
    clear hn
    go_enter Try.func16, Try.ntmps16
    go_wp2_with fail
    go_ret2
    exact ⟨rfl, rfl⟩

def newA (n : Nat) : AD := ⟨n, fun _ => fillB 0, [], 0⟩

theorem newA_good {n : Nat} (h1 : 128 ≤ n) (h2 : n ≤ 4096) : Good (newA n) := ⟨h1, h2, fun _ => fillB_length 0, fun p hp => (by cases hp), Nat.le_refl _⟩

theorem new_ok (n : Nat) (h1 : 128 ≤ n) (h2 : n ≤ 4096) (w : World) :
    Calls Try.prog 16 #[.int .i64 (n : Int)] w fun e w' => ∃ D, e = .returned (.tuple #[.pointer (some ⟨D, 0, none⟩), .int .i64 0]) ∧ DRep (fun b => w.heap.size ≤ b) w' D (newA n) ∧ Below w.heap.size w w' := by
  have hmm := @run_makeMap Try.prog
  have q1 : (128 : Int) ≤ (n : Int) := by omega
  have q2 : (n : Int) ≤ 4096 := by omega
  go_enter Try.func16, Try.ntmps16
  go_wp2_with fail
  go_ret2
  have hb : Below w.heap.size w (((w.alloc (.map #[] 0)).alloc (.map #[] 0)).alloc (.cells #[.int .i64 n, .map (some w.heap.size), .slice none 0 0, .map (some (w.heap.size + 1)), .int .i64 0] 51)) :=
    (((Below.refl _ w).alloc (Nat.le_refl _) _).alloc (by simp) _).alloc (by simp; omega) _
  refine ⟨w.heap.size + 1 + 1, rfl, ⟨w.heap.size, w.heap.size + 1, .slice none 0 0, fun _ => none, [], ?_⟩, hb⟩
  refine { hD := by omega, hMd := Nat.le_refl _, hMn := by omega, cell := ?_, md := ?_, mn := ?_, ne := by omega, prow := ⟨World.ownsRow_nil _ _ _ _, fun b hb => by simp [Value.ownBlock] at hb, (fun q hq => by cases hq)⟩, pend := rfl, some_ := (fun i v hv => by cases hv), none_ := fun _ _ => rfl, good := newA_good h1 h2 }
  · have := World.alloc_heap_new ((w.alloc (.map #[] 0)).alloc (.map #[] 0)) (.cells #[.int .i64 n, .map (some w.heap.size), .slice none 0 0, .map (some (w.heap.size + 1)), .int .i64 0] 51)
    rw [World.size_alloc, World.size_alloc] at this
    exact this
  · exact (IMap.made w).of_block ((Below.heap_alloc _ _ _ (by simp; omega)).trans (Below.heap_alloc _ _ _ (by simp)))
  · have := (IMap.made (w.alloc (.map #[] 0))).of_block (w' := ((w.alloc (.map #[] 0)).alloc (.map #[] 0)).alloc (.cells #[.int .i64 n, .map (some w.heap.size), .slice none 0 0, .map (some (w.heap.size + 1)), .int .i64 0] 51)) (Below.heap_alloc _ _ _ (by simp))
    rw [World.size_alloc] at this
    exact this

theorem copied_one {x : Int} {v : Value} {bs : List Int} (hb : BB S w v bs) :
    Calls Try.prog 30 #[.agg #[.int .i64 x, v]] w fun e w' => ∃ v', e = .returned (.agg #[.int .i64 x, v']) ∧ Row w.heap.size w' v' bs ∧ Below w.heap.size w w' := by
  obtain ⟨g, cap, rfl⟩ := hb.shape
  have hcl : ∀ W : World, Below w.heap.size w W → Calls Try.prog 28 #[.slice (some ⟨g, 0, none⟩) 256 cap] W fun e w' => ∃ v', e = .returned v' ∧ Row W.heap.size w' v' bs ∧ Below W.heap.size W w' := fun W hW => clone_any (hb.2.1.below hW) hb.1
  have hl := hb.1
  replace hcl := Lib.hid hcl
  replace hl := Lib.hid hl
  clear hb
  obtain ⟨W2, hW2⟩ : ∃ W2, W2 = (w.alloc (.cells #[.int .i64 x, .slice (some ⟨g, 0, none⟩) 256 cap] 58)).alloc (.cells #[.int .i64 0, .slice none 0 0] 58) := ⟨_, rfl⟩
  have hbe : Below w.heap.size w W2 := by rw [hW2]; exact ((Below.refl _ w).alloc (Nat.le_refl _) _).alloc (by simp) _
  have hA : W2.heap[w.heap.size]? = some (.cells #[.int .i64 x, .slice (some ⟨g, 0, none⟩) 256 cap] 58 (0, 0)) := by rw [hW2]; exact (Below.heap_alloc _ _ _ (by simp)).trans (World.alloc_heap_new _ _)
  have hB : W2.heap[w.heap.size + 1]? = some (.cells #[.int .i64 0, .slice none 0 0] 58 (0, 0)) := by
    rw [hW2]
    have := World.alloc_heap_new (w.alloc (.cells #[.int .i64 x, .slice (some ⟨g, 0, none⟩) 256 cap] 58)) (.cells #[.int .i64 0, .slice none 0 0] 58)
    rw [World.size_alloc] at this
    exact this
  have hsz : W2.heap.size = w.heap.size + 1 + 1 := by rw [hW2]; simp
  have c0 : W2.cell? ⟨w.heap.size, 0, none⟩ = some (.int .i64 x) := by simp [World.cell?, hA]
  have c1 : W2.cell? ⟨w.heap.size, 1, none⟩ = some (.slice (some ⟨g, 0, none⟩) 256 cap) := by simp [World.cell?, hA]
  replace hA := Lib.hid hA
  replace hB := Lib.hid hB
  replace hbe := Lib.hid hbe
  replace hsz := Lib.hid hsz
  go_enter Try.func30, Try.ntmps30
  go_wp2_with fail
  rw [← hW2]
  replace hW2 := Lib.hid hW2
  go_region_held3 (fun y => y.cell? ⟨w.heap.size, 0, none⟩ = some (.int .i64 x) ∧ y.cell? ⟨w.heap.size, 1, none⟩ = some (.slice (some ⟨g, 0, none⟩) 256 cap))
    (first
      | exact ⟨c0, c1⟩
      | exact ⟨k0.out, k1.out⟩
      | go_keep)
    ((go_at_call 28; refine (hcl.out W2.drew ⟨hbe.out.os, hbe.out.tape, hbe.out.output, hbe.out.size, hbe.out.block⟩).mono ?_; rintro e w3 ⟨v', rfl, hrow, hb3⟩
      have hA3 := (hb3.block w.heap.size (show w.heap.size < W2.heap.size by have := hsz.out; omega)).trans hA.out
      have hB3 := (hb3.block (w.heap.size + 1) (show w.heap.size + 1 < W2.heap.size by have := hsz.out; omega)).trans hB.out
      have k0 := Lib.hid (show w3.cell? ⟨w.heap.size, 0, none⟩ = some (.int .i64 x) by simp [World.cell?, hA3])
      have k1 := Lib.hid (show w3.cell? ⟨w.heap.size, 1, none⟩ = some (.slice (some ⟨g, 0, none⟩) 256 cap) by simp [World.cell?, hA3])
      have m0 : w3.cell? ⟨w.heap.size + 1, 0, none⟩ = some (.int .i64 0) := (by simp [World.cell?, hB3])
      have m1 : w3.cell? ⟨w.heap.size + 1, 1, none⟩ = some (.slice none 0 0) := (by simp [World.cell?, hB3])
      have z0 : w3.frozen? ⟨w.heap.size + 1, 0, none⟩ = false := (by simp [World.frozen?, hB3])
      have z1 : w3.frozen? ⟨w.heap.size + 1, 1, none⟩ = false := (by simp [World.frozen?, hB3])
      obtain ⟨gv, capv, rfl, hgv⟩ := hrow.shape6 hl.out
      replace hA3 := Lib.hid hA3
      replace hB3 := Lib.hid hB3
      replace hrow := Lib.hid hrow
      replace hb3 := Lib.hid hb3))
  go_wp2_with fail
  have hB4 := setCell_heap _ _ 1 (.slice (some ⟨gv, 0, none⟩) 256 capv) _ _ (setCell_heap w3 (w.heap.size + 1) 0 (.int .i64 x) _ _ hB3.out)
  refine bodyPost_ret (results_cell_row rfl _ _ (w.heap.size + 1) 58 #[.int .i64 x, .slice (some ⟨gv, 0, none⟩) 256 capv] (0, 0) _ rfl hB4 Try.underlying58 rfl (by kernel_rfl)) rfl ?_
  have hs2 := hsz.out
  have hg1 : W2.heap.size ≤ gv := hgv.1
  refine ⟨_, rfl, (hrow.out.base (show w.heap.size ≤ W2.heap.size by omega)).kept fun b hb => ?_, ?_⟩
  · simp [Value.ownBlock] at hb
    subst hb
    rw [Below.heap_setCell _ _ _ _ (show gv ≠ w.heap.size + 1 by omega), Below.heap_setCell _ _ _ _ (show gv ≠ w.heap.size + 1 by omega)]
  · have h3 : Below w.heap.size w w3 := hbe.out.trans ((show Below w.heap.size W2 w3 from ⟨hb3.out.os, hb3.out.tape, hb3.out.output, hb3.out.size, fun k hk => hb3.out.block k (show k < W2.heap.size by omega)⟩))
    exact below_setCell (below_setCell h3 (by omega) _) (by omega) _
end Go.Proofs.Ytpokfbmgcokkbaa
