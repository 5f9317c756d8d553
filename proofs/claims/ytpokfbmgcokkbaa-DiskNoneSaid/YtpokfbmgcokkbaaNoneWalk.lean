/- DiskNone returns true: the walk. -/
import Derived.Test.YtpokfbmgcokkbaaAwake
namespace Go.Proofs.Ytpokfbmgcokkbaa
open Go.RowKit Go.Shelf
attribute [local go_sem] Oper.semAt_some

/-- p is no disk: it has no blocks, and no count. -/
def NoDisk (w : World) (p : Option Addr) : Prop := ∀ W, Below w.heap.size w W →
  (Calls Try.prog 14 #[.pointer p] W fun e w' => e = .returned (.int .i64 0) ∧ w' = W) ∧ (Calls Try.prog 24 #[.pointer p] W fun e w' => e = .returned (.int .i64 0) ∧ w' = W)

theorem noDisk_nil (w : World) : NoDisk w none := fun W _ => ⟨blocks_nil W, ops_nil W⟩
theorem noDisk_zero {w : World} {Z : Nat} {x y z : Value} (h : w.heap[Z]? = some (.cells #[.int .i64 0, x, y, z, .int .i64 0] 51 (0, 0))) : NoDisk w (some ⟨Z, 0, none⟩) := fun W hW => by
  have hz := (hW.block Z (Array.getElem?_eq_some_iff.1 h).1).trans h
  exact ⟨blocks_cell W Z 0 (by simp [World.cell?, hz]), ops_cell W Z 0 (by simp [World.cell?, hz])⟩
theorem NoDisk.below {w w' : World} {p : Option Addr} (h : NoDisk w p) (hb : Below w.heap.size w w') : NoDisk w' p := fun W hW => h W (hb.trans (hW.mono hb.size))

theorem copy_none (w : World) (p : Option Addr) (hb : Calls Try.prog 14 #[.pointer p] w fun e w' => e = .returned (.int .i64 0) ∧ w' = w) :
    Calls Try.prog 18 #[.pointer p] w fun e w' => e = .returned (.pointer (some ⟨w.heap.size, 0, none⟩)) ∧ w' = w.alloc (.cells #[.int .i64 0, .map none, .slice none 0 0, .map none, .int .i64 0] 51) := by
  replace hb := Lib.hid hb
  go_enter Try.func18, Try.ntmps18
  go_wp2_with (go_at_call 14; refine hb.out.mono ?_; rintro e w' ⟨rfl, rfl⟩)
  go_ret
  exact ⟨rfl, rfl⟩

/-- One round of the law: nothing may be done to what is no disk. -/
theorem NoDisk.has {w : World} {p : Option Addr} (h : NoDisk w p) (i : Int) : Calls Try.prog 27 #[.pointer p, .int .i64 i] w fun e w' => e = .returned (.bool false) ∧ w' = w := by
  have := has_gen w p 0 i (h w (Below.refl _ _)).1
  rw [show decide (0 ≤ i ∧ i < 0) = false from decide_eq_false (by omega)] at this
  exact this

set_option maxRecDepth 100000 in
set_option maxHeartbeats 8000000 in
theorem none_walk (n : Int) (kv : Value) (hkv : ∃ ad l c, kv = .slice ad l c) (w : World) :
    Calls Try.prog 5 #[.int .i64 n, kv] w fun e w' => e = .returned (.bool true) ∧ Below w.heap.size w w' := by
  go_enter Try.func5, Try.ntmps5
  go_wp2_with fail
  refine (awake_any _).mono ?_; rintro e w1 ⟨rfl, b1⟩
  obtain ⟨w2, hw2⟩ : ∃ w2, w2 = w1.alloc (.cells #[.int .i64 0, .map none, .slice none 0 0, .map none, .int .i64 0] 51) := ⟨_, rfl⟩
  have hZ : w2.heap[w1.heap.size]? = some (.cells #[.int .i64 0, .map none, .slice none 0 0, .map none, .int .i64 0] 51 (0, 0)) := by rw [hw2]; exact World.alloc_heap_new _ _
  have b2 : Below w.heap.size w w2 := by rw [hw2]; exact b1.alloc b1.size _
  obtain ⟨w3, hw3⟩ : ∃ w3, w3 = w2.alloc (.cells #[.pointer none, .pointer (some ⟨w1.heap.size, 0, none⟩)] 24) := ⟨_, rfl⟩
  have hL : w3.heap[w2.heap.size]? = some (.cells #[.pointer none, .pointer (some ⟨w1.heap.size, 0, none⟩)] 24 (0, 0)) := by rw [hw3]; exact World.alloc_heap_new _ _
  have b3 : Below w.heap.size w w3 := by rw [hw3]; exact b2.alloc b2.size _
  have b23 : Below w2.heap.size w2 w3 := by rw [hw3]; exact (Below.refl _ _).alloc (Nat.le_refl _) _
  have hz := (noDisk_zero hZ).below b23
  have hs2 : w2.heap.size = w1.heap.size + 1 := by rw [hw2]; simp
  rw [hs2] at hL
  replace b1 := Lib.hid b1
  replace b2 := Lib.hid b2
  replace b3 := Lib.hid b3
  replace b23 := Lib.hid b23
  replace hZ := Lib.hid hZ
  replace hL := Lib.hid hL
  replace hz := Lib.hid hz
  replace hs2 := Lib.hid hs2
  go_wp2_with fail
  rw [← hw2, ← hw3]
  replace hw2 := Lib.hid hw2
  replace hw3 := Lib.hid hw3
  have hps : ∀ k : Nat, k < 2 → ∃ p, w3.cell? ⟨w1.heap.size + 1, k, none⟩ = some (.pointer p) ∧ NoDisk w3 p := fun k hk => by
    obtain rfl | rfl : k = 0 ∨ k = 1 := by omega
    · exact ⟨none, (cell_of_row _ _ 0 _ _ _ hL.out).trans rfl, noDisk_nil _⟩
    · exact ⟨_, (cell_of_row _ _ 1 _ _ _ hL.out).trans rfl, hz.out⟩
  have hLl : w1.heap.size + 1 < w3.heap.size := (Array.getElem?_eq_some_iff.1 hL.out).1
  replace hps := Lib.hid hps
  go_loopw [9] (fun i wr => ∃ k : Nat, k ≤ 2 ∧ i = .int .i64 k ∧ Below w3.heap.size w3 wr) (fun i _ => 2 - (intOf i).toNat)
  case atStart => exact ⟨0, by omega, rfl, Below.refl _ _⟩
  case round =>
    obtain ⟨k, hk, rfl, hbe⟩ := hrel
    by_cases hlt : k < 2
    · have q1 : (k : Int) < 2 := by omega
      obtain ⟨p, hc, hno⟩ := hps.out k hlt
      have d0 : wr.cell? ⟨w1.heap.size + 1, k, none⟩ = some (.pointer p) := (hbe.cell (p := ⟨w1.heap.size + 1, k, none⟩) hLl).trans hc
      have h1 := hno.below hbe
      replace h1 := Lib.hid h1
      replace hbe := Lib.hid hbe
      replace hno := Lib.hid hno
      clear hc
      go_wp2_with fail
      refine (flush_none _ p (h1.out _ (Below.refl _ _)).1).mono ?_; rintro e wa ⟨rfl, rfl⟩
      go_wp2_with fail
      refine (crash_none _ p kv hkv (fun o => (h1.out _ ((Below.refl _ _).alloc (Nat.le_refl _) o)).1)).mono ?_; rintro e wb ⟨rfl, hb1⟩
      have h2 := h1.out.below hb1
      have hbe2 := hbe.out.trans (hb1.mono hbe.out.size)
      replace h2 := Lib.hid h2
      replace hbe2 := Lib.hid hbe2
      clear h1 hbe hb1 d0
      go_wp2_with fail
      refine (read_bad _ p n (h2.out.has n)).mono ?_; rintro e wc ⟨rfl, rfl⟩
      go_wp2_with fail
      refine (filled_any n _).mono ?_; rintro e wd ⟨vd, rfl, rd, hbd⟩
      have h3 := h2.out.below hbd
      have hbe3 := hbe2.out.trans (hbd.mono hbe2.out.size)
      replace h3 := Lib.hid h3
      replace hbe3 := Lib.hid hbe3
      clear h2 hbe2 hbd rd
      go_wp2_with fail
      refine (write_bad _ p n vd (h3.out.has n)).mono ?_; rintro e we ⟨rfl, rfl⟩
      go_wp2_with fail
      refine (h3.out _ (Below.refl _ _)).1.mono ?_; rintro e wf ⟨rfl, rfl⟩
      go_wp2_with fail
      refine (h3.out _ (Below.refl _ _)).2.mono ?_; rintro e wf ⟨rfl, rfl⟩
      go_wp2_with fail
      refine (pending_none _ p (h3.out _ (Below.refl _ _)).1).mono ?_; rintro e wg ⟨rfl, rfl⟩
      go_wp2_with fail
      refine (copy_none _ p (h3.out _ (Below.refl _ _)).1).mono ?_; rintro e wh ⟨rfl, hwh⟩
      have hblk : Calls Try.prog 14 #[.pointer (some ⟨wg.heap.size, 0, none⟩)] wh fun e w' => e = .returned (.int .i64 0) ∧ w' = wh := blocks_cell _ _ _ (by rw [hwh]; exact (cell_of_row _ _ 0 _ _ _ (World.alloc_heap_new _ _)).trans rfl)
      have hbeh : Below w3.heap.size w3 wh := by rw [hwh]; exact hbe3.out.alloc hbe3.out.size _
      replace hblk := Lib.hid hblk
      replace hbeh := Lib.hid hbeh
      clear hwh
      go_wp2_with fail
      refine hblk.out.mono ?_; rintro e wi ⟨rfl, rfl⟩
      go_wp2_with fail
      go_roundw
      case rel => exact ⟨k + 1, by omega, by go_num, hbeh.out⟩
      case measure => simp [intOf]; omega
    · obtain rfl : k = 2 := by omega
      have hfin := b3.out.trans (hbe.mono b3.out.size)
      replace hfin := Lib.hid hfin
      clear hbe
      go_wp2_with fail
      go_ret
      exact ⟨rfl, hfin.out⟩
end Go.Proofs.Ytpokfbmgcokkbaa
