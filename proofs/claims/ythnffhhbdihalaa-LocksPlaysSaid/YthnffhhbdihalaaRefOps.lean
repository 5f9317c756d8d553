/- The reference's table: Ask and Leave. -/
import Derived.Test.YthnffhhbdihalaaRef
import Derived.Maps.AppendAt
namespace Go.Proofs.Ythnffhhbdihalaa
open Go.RowKit Go.Shelf
attribute [local go_sem] Oper.semAt_some

theorem info63 : (Try.prog.info? 63).map (fun i => (i.zero, i.size, i.bytes)) = some (some (.agg #[.int .i64 0, .int .i64 0, .bool false]), 3, 24) := by kernel_rfl

/-- The reference's table reads as l' now; it lies where it lay, or in new blocks. -/
def RefDone (w : World) (Rb : Nat) (v : Value) (l' : List RC) (w' : World) : Prop :=
  ∃ v', RefAt w' Rb v' l' ∧ (∀ b, v'.ownBlock = some b → v.ownBlock = some b ∨ w.heap.size ≤ b) ∧ Kept (fun b => b = Rb ∨ v.ownBlock = some b) w w'

theorem rCells_append (a b : List RC) : rCells (a ++ b) = rCells a ++ rCells b := by simp [rCells]

theorem RefAt.done {w : World} {Rb : Nat} {v : Value} {l : List RC} (h : RefAt w Rb v l) : RefDone w Rb v l w := ⟨v, h, fun b hb => .inl hb, Kept.refl _ _⟩

theorem rask_bad (w : World) (Rb : Nat) (th key : Int) (al : Bool) (h : ¬ (1 ≤ th ∧ th ≤ 64 ∧ 0 ≤ key)) :
    Calls Try.prog 13 #[.pointer (some ⟨Rb, 0, none⟩), .int .i64 th, .int .i64 key, .bool al] w fun e w' => e = .returned (.int .i64 22) ∧ w' = w := by
  by_cases h1 : th < 1
  · go_enter Try.func13, Try.ntmps13
    go_wp2_with fail
    go_ret
    exact ⟨rfl, rfl⟩
  · by_cases h2 : 64 < th
    · go_enter Try.func13, Try.ntmps13
      go_wp2_with fail
      go_ret
      exact ⟨rfl, rfl⟩
    · have h3 : key < 0 := by omega
      clear h
      go_enter Try.func13, Try.ntmps13
      go_wp2_with fail
      go_ret
      exact ⟨rfl, rfl⟩

theorem rask_has (w : World) (Rb : Nat) (v : Value) (l : List RC) (hr : RefAt w Rb v l) (hl : l.length ≤ 100000) (th key : Int) (al : Bool) (k : Nat) (h : rIdx l th key = k)
    (h1 : 1 ≤ th) (h2 : th ≤ 64) (h3 : 0 ≤ key) :
    Calls Try.prog 13 #[.pointer (some ⟨Rb, 0, none⟩), .int .i64 th, .int .i64 key, .bool al] w fun e w' => e = .returned (.int .i64 22) ∧ w' = w := by
  have hat := Lib.hid (at_any w Rb v l th key (Boxed.cell hr.cell) hr.row hl)
  rw [h] at hat
  have hk : (0 : Int) ≤ (k : Int) := Int.natCast_nonneg _
  clear h hr
  go_enter Try.func13, Try.ntmps13
  go_wp2_with (go_at_call 25; refine hat.out.mono ?_; rintro e w' ⟨rfl, rfl⟩)
  go_ret
  exact ⟨rfl, rfl⟩

set_option maxHeartbeats 1000000 in
theorem rask_ok (w : World) (Rb : Nat) (v : Value) (l : List RC) (hr : RefAt w Rb v l) (hl : l.length ≤ 100000) (th key : Int) (al : Bool) (h : rIdx l th key = -1)
    (h1 : 1 ≤ th) (h2 : th ≤ 64) (h3 : 0 ≤ key) :
    Calls Try.prog 13 #[.pointer (some ⟨Rb, 0, none⟩), .int .i64 th, .int .i64 key, .bool al] w fun e w' => e = .returned (.int .i64 0) ∧ RefDone w Rb v (l ++ [⟨th, key, al⟩]) w' := by
  have hat := Lib.hid (at_any w Rb v l th key (Boxed.cell hr.cell) hr.row hl)
  rw [h] at hat
  have hbox : Boxed w Rb 29 v := hr.cell
  have hown := hr.own
  obtain ⟨i0, hi, hz0, hz1, hz2⟩ := info_parts info63
  have hvc := hbox.cell
  replace hbox := Lib.hid hbox
  replace hown := Lib.hid hown
  clear h hr
  go_enter Try.func13, Try.ntmps13
  go_wp2_with (first
    | (go_at_call 25; refine hat.out.mono ?_; rintro e w' ⟨rfl, rfl⟩)
    | (refine wpList_append_own_at _ rfl _ _ 27 rfl 0 63 i0 _ 3 24 Try.underlying27 hi hz0 hz1 hz2 rfl (by decide) v _ _ rfl (hown.out.alloc _) ⟨_, 0, none⟩ 1 1 [.int .i64 th, .int .i64 key, .bool al] rfl rfl (cells3_new _ _ _ _ _) (by simp [Value.oneCell']) (by unfold maxLen; omega) (by omega) (Nat.zero_le _) ?_; intro v' w1 hown' hgrow _ hat'; obtain ⟨g', cap', rfl⟩ := ownsRow_succ hown'; have hv1 := (hbox.out.alloc _).kept hgrow (hbox.out.not_row (by decide) hown.out); have hc1 := hv1.cell; have hf1 := hv1.frozen; replace hv1 := Lib.hid hv1; replace hown' := Lib.hid hown'))
  go_ret
  replace hown' := hown'.out
  have hg1 : w'.grownBy w1 v.ownBlock := ⟨hgrow.os, hgrow.tape, hgrow.output, Nat.le_trans (by simp) hgrow.size, fun k hk hn => (hgrow.block k (by simp; omega) hn).trans (Below.heap_alloc _ _ _ hk)⟩
  refine ⟨rfl, .slice (some ⟨g', 0, none⟩) (l.length + 1) cap', ⟨hv1.out.set _, ?_⟩, ?_, ?_⟩
  · have := hown'.kept (grownBy_setCell' w1 Rb (.slice (some ⟨g', 0, none⟩) (l.length + 1) cap')) (.inr (hv1.out.not_row (by decide) hown').symm)
    rw [rCells_append, List.length_append]
    exact this
  · intro b hb
    rcases hat' with h | h
    · exact .inl (h ▸ hb)
    · right
      rw [hb] at h
      obtain rfl := Option.some.inj h
      simp
  · exact (Kept.of_grown hg1 (fun k hk _ => .inr hk)).setCell (p := ⟨Rb, 0, none⟩) (fun _ => .inl rfl) _
end Go.Proofs.Ythnffhhbdihalaa
