/- A disk: Read. -/
import Derived.Test.YtpokfbmgcokkbaaRep
namespace Go.Proofs.Ytpokfbmgcokkbaa
open Go.RowKit Go.Shelf
attribute [local go_sem] Oper.semAt_some

theorem zero26 (w : World) : (zeroValue 26).run Try.prog w = .ok (.slice none 0 0) w := by kernel_rfl

variable {S S' : Nat → Prop} {w w' : World} {D : Nat} {a : AD}

theorem make_row : ∃ Z : Array Value, Z.size = 256 ∧ (∀ j, j < 256 → Z[j]? = some (.int .u8 0)) ∧ ∀ w : World, (Instr.makeSlice 26 (.int .i64 256) (.int .i64 256)).run Try.prog w = .ok (.slice (some ⟨w.heap.size, 0, none⟩) 256 256) (w.alloc (.cells Z 5)) :=
  ⟨madeCells #[.int .u8 0] 256, by simp [madeCells], fun j hj => by simp [madeCells, hj, Nat.mod_one], fun w => run_make_row' 26 5 (.int .u8 0) 1 Try.underlying26 info5 rfl .i64 .i64 256 (by omega) (by omega) w⟩

theorem BB.shape {v : Value} {bs : List Int} (h : BB S w v bs) : ∃ g cap, v = .slice (some ⟨g, 0, none⟩) 256 cap := by
  obtain ⟨h1, h2, h3⟩ := h
  obtain ⟨g, cap, _, rfl, _⟩ := h2.shape (by omega)
  exact ⟨g, cap, by rw [h1]⟩

theorem eq_nil26 (g cap : Nat) (w : World) (m : Nat) : (binOp .eql 26 (.slice (some ⟨g, 0, none⟩) m cap) (.slice none 0 0)).run Try.prog w = .ok (.bool false) w := by
  have := Lib.run_eql_slice_nil (P := Try.prog) w 26 5 (some ⟨g, 0, none⟩) m cap 0 0 Try.underlying26
  simpa using this
theorem eq_nil26' (w : World) : (binOp .eql 26 (.slice none 0 0) (.slice none 0 0)).run Try.prog w = .ok (.bool true) w := by
  have := Lib.run_eql_slice_nil (P := Try.prog) w 26 5 none 0 0 0 0 Try.underlying26
  simpa using this

set_option maxHeartbeats 1000000 in
theorem DRep.read_ok (h : DRep S w D a) (i : Int) (h0 : 0 ≤ i) (h1 : i < a.n) :
    Calls Try.prog 11 #[.pointer (some ⟨D, 0, none⟩), .int .i64 i] w fun e w' => ∃ v, e = .returned (.tuple #[v, .int .i64 0]) ∧ Row w.heap.size w' v (rdA a i) ∧ (rdA a i).length = 256 ∧ Below w.heap.size w w' := by
  have hhas := h.has i
  rw [show decide (0 ≤ i ∧ i < (a.n : Int)) = true by simp [h0, h1]] at hhas
  obtain ⟨Md, Mn, pv, fd, qs, hr⟩ := h
  have c1 : w.cell? ⟨D, 1, none⟩ = some (.map (some Md)) := by simp [World.cell?, hr.cell]
  have c3 : w.cell? ⟨D, 3, none⟩ = some (.map (some Mn)) := by simp [World.cell?, hr.cell]
  have hl1 := hr.mn.lookup (P := Try.prog) Try.underlying48 Try.underlying3 (zero26 w) i
  have hl2 := hr.md.lookup (P := Try.prog) Try.underlying48 Try.underlying3 (zero26 w) i
  have hrd : rdA a i = (lastB (plain qs) i).getD (a.done i) := by unfold rdA; rw [hr.pend]
  rw [hrd]
  obtain ⟨Z, hZs, hZ, hmk⟩ := make_row
  have hn26 := eq_nil26
  have hn26' := eq_nil26'
  replace hhas := Lib.hid hhas
  rcases last_cases hr.prow.2.2 i with ⟨hv, hb⟩ | ⟨q, hq, hv, hb⟩
  · rw [hv] at hl1
    rw [hb]
    simp only [Option.getD_none] at hl1 ⊢
    cases hf : fd i with
    | none =>
      rw [hf] at hl2
      simp only [Option.getD_none] at hl2
      have hd := hr.none_ i hf
      rw [hd]
      replace hZ := Lib.hid hZ
      replace hZs := Lib.hid hZs
      clear hr hrd hd hf hv hb
      go_enter Try.func11, Try.ntmps11
      go_wp2_with (go_at_call 27; refine hhas.out.mono ?_; rintro e w' ⟨rfl, rfl⟩)
      go_ret2
      refine ⟨_, rfl, ?_, fillB_length 0, (Below.refl _ _).alloc (Nat.le_refl _) _⟩
      have := row_of_block (bs := fillB 0) (cap := 256) (World.alloc_heap_new w' (.cells Z 5)) (Nat.le_refl _) (by rw [fillB_length]; exact Nat.le_refl _) (by unfold maxLen; omega) hZs.out (fun j hj => by
        rw [fillB_get]; exact hZ.out j (by rw [fillB_length] at hj; exact hj))
      rw [fillB_length] at this
      exact this
    | some v =>
      rw [hf] at hl2
      simp only [Option.getD_some] at hl2
      have hbb := hr.some_ i v hf
      obtain ⟨g, cap, rfl⟩ := hbb.shape
      have hcl := clone_any hbb.2.1 hbb.1
      have hlen := hbb.1
      replace hcl := Lib.hid hcl
      replace hlen := Lib.hid hlen
      clear hr hrd hf hv hb hbb hmk hZ hZs
      go_enter Try.func11, Try.ntmps11
      go_wp2_with (first
        | (go_at_call 27; refine hhas.out.mono ?_; rintro e w' ⟨rfl, rfl⟩)
        | (go_at_call 28; refine hcl.out.mono ?_; rintro e w3 ⟨v', rfl, hrow, hbe⟩))
      go_ret2
      exact ⟨_, rfl, hrow, hlen.out, hbe⟩
  · rw [hv] at hl1
    rw [hb]
    simp only [Option.getD_some] at hl1 ⊢
    obtain ⟨g, cap, hvs⟩ := hq.shape
    have hcl := clone_any hq.2.1 hq.1
    rw [hvs] at hl1 hcl
    have hlen := hq.1
    replace hcl := Lib.hid hcl
    replace hlen := Lib.hid hlen
    clear hr hrd hv hb hq hmk hZ hZs hvs
    go_enter Try.func11, Try.ntmps11
    go_wp2_with (first
      | (go_at_call 27; refine hhas.out.mono ?_; rintro e w' ⟨rfl, rfl⟩)
      | (go_at_call 28; refine hcl.out.mono ?_; rintro e w3 ⟨v', rfl, hrow, hbe⟩))
    go_ret2
    exact ⟨_, rfl, hrow, hlen.out, hbe⟩

theorem read_bad (w : World) (p : Option Addr) (i : Int) (hh : Calls Try.prog 27 #[.pointer p, .int .i64 i] w fun e w' => e = .returned (.bool false) ∧ w' = w) :
    Calls Try.prog 11 #[.pointer p, .int .i64 i] w fun e w' => e = .returned (.tuple #[.slice none 0 0, .int .i64 5]) ∧ w' = w := by
  replace hh := Lib.hid hh
  go_enter Try.func11, Try.ntmps11
  go_wp2_with (go_at_call 27; refine hh.out.mono ?_; rintro e w' ⟨rfl, rfl⟩)
  go_ret2
  exact ⟨rfl, rfl⟩
end Go.Proofs.Ytpokfbmgcokkbaa
