/- The reference's table: Leave. -/
import Derived.Test.YthnffhhbdihalaaRefOps
namespace Go.Proofs.Ythnffhhbdihalaa
open Go.RowKit Go.Shelf
attribute [local go_sem] Oper.semAt_some

theorem rCells_take (l : List RC) : ∀ i, rCells (l.take i) = (rCells l).take (i * 3) := by
  induction l with
  | nil => intro i; simp [rCells]
  | cons c r ih =>
    intro i
    have e : rCells (c :: r) = [.int .i64 c.th, .int .i64 c.key, .bool c.al] ++ rCells r := rfl
    cases i with
    | zero => simp [rCells]
    | succ j =>
      have e2 : rCells ((c :: r).take (j + 1)) = [.int .i64 c.th, .int .i64 c.key, .bool c.al] ++ rCells (r.take j) := rfl
      rw [e2, ih, e, show (j + 1) * 3 = j * 3 + 1 + 1 + 1 by omega]
      rfl

theorem rCells_drop (l : List RC) : ∀ i, rCells (l.drop i) = (rCells l).drop (i * 3) := by
  induction l with
  | nil => intro i; simp [rCells]
  | cons c r ih =>
    intro i
    have e : rCells (c :: r) = [.int .i64 c.th, .int .i64 c.key, .bool c.al] ++ rCells r := rfl
    cases i with
    | zero => simp
    | succ j =>
      rw [List.drop_succ_cons, ih, e, show (j + 1) * 3 = j * 3 + 1 + 1 + 1 by omega]
      rfl

theorem rCells_erase (l : List RC) (i : Nat) : rCells (l.eraseIdx i) = (rCells l).take (i * 3) ++ (rCells l).drop ((i + 1) * 3) := by
  rw [List.eraseIdx_eq_take_drop_succ, ← rCells_take, ← rCells_drop]
  simp [rCells]

theorem owns_shape {w : World} {b : Nat} {e : TypeId} {s : Nat} {v : Value} {n : Nat} {xs : List Value} (h : w.ownsRow b e s v n xs) : ∃ ad cap, v = .slice ad n cap := by
  rcases h.2 with ⟨rfl, rfl⟩ | ⟨g, cap, cur, rfl, _⟩
  · exact ⟨_, _, rfl⟩
  · exact ⟨_, _, rfl⟩

theorem rleave_hasnt (w : World) (Rb : Nat) (v : Value) (l : List RC) (hr : RefAt w Rb v l) (hl : l.length ≤ 100000) (th key : Int) (h : rIdx l th key = -1) :
    Calls Try.prog 15 #[.pointer (some ⟨Rb, 0, none⟩), .int .i64 th, .int .i64 key] w fun e w' => e = .returned (.int .i64 22) ∧ w' = w := by
  have hat := Lib.hid (at_any w Rb v l th key (Boxed.cell hr.cell) hr.row hl)
  rw [h] at hat
  clear h hr
  go_enter Try.func15, Try.ntmps15
  go_wp2_with (go_at_call 25; refine hat.out.mono ?_; rintro e w' ⟨rfl, rfl⟩)
  go_ret
  exact ⟨rfl, rfl⟩

set_option maxRecDepth 100000 in
set_option maxHeartbeats 2000000 in
theorem rleave_ok (w : World) (Rb : Nat) (v : Value) (l : List RC) (hr : RefAt w Rb v l) (hl : l.length ≤ 100000) (th key : Int) (k : Nat) (h : rIdx l th key = k) (hk : k < l.length) :
    Calls Try.prog 15 #[.pointer (some ⟨Rb, 0, none⟩), .int .i64 th, .int .i64 key] w fun e w' => e = .returned (.int .i64 0) ∧ RefDone w Rb v (l.eraseIdx k) w' := by
  have hat := Lib.hid (at_any w Rb v l th key (Boxed.cell hr.cell) hr.row hl)
  rw [h] at hat
  have hbox : Boxed w Rb 29 v := hr.cell
  obtain ⟨i0, hi, hz0, hz1, hz2⟩ := info_parts info63
  rcases hr.own.2 with ⟨rfl, h0⟩ | ⟨g, cap, cur, rfl, _, hgb, g1, g2, g3, g4⟩
  · omega
  obtain ⟨m, hm⟩ : ∃ m, l.length = k + 1 + m := ⟨l.length - (k + 1), by omega⟩
  have hcl := rCells_length l
  have hcell : ∀ (j : Nat) (u : Value), (rCells l)[j]? = some u → cur[j]? = some u := by
    intro j u hu
    have hj : j < l.length * 3 := by rw [← hcl]; exact (List.getElem?_eq_some_iff.1 hu).1
    rw [← g4, List.getElem?_take_of_lt hj] at hu
    simpa using hu
  have h1c : ∀ u ∈ rCells l, u.oneCell' = true := by
    intro u hu
    unfold rCells at hu
    obtain ⟨c, _, hu⟩ := List.mem_flatMap.1 hu
    simp at hu
    rcases hu with rfl | rfl | rfl <;> rfl
  have hn1 : Hid (∀ j u, ((rCells l).take (k * 3))[j]? = some u → w.cell? ((⟨g, 0, none⟩ : Addr).add j) = some u) := by
    intro j u hu
    have hj : j < k * 3 := by have := (List.getElem?_eq_some_iff.1 hu).1; rw [List.length_take] at this; omega
    rw [List.getElem?_take_of_lt hj] at hu
    have hc := hcell j u hu
    rw [Addr.add_lit]
    simp [World.cell?, hgb, hc]
  obtain ⟨A, hA, hn2⟩ : ∃ A : Addr, (if cap = k + 1 then some (⟨g, 0, none⟩ : Addr) else some ⟨g, (k + 1) * 3, none⟩) = some A ∧ Hid (∀ w1 : World, w1.heap[g]? = w.heap[g]? → ∀ j u, ((rCells l).drop ((k + 1) * 3))[j]? = some u → w1.cell? (A.add j) = some u) := by
    by_cases hcap : cap = k + 1
    · refine ⟨⟨g, 0, none⟩, by simp [hcap], fun w1 _ j u hu => ?_⟩
      rw [List.drop_eq_nil_of_le (by omega)] at hu
      simp at hu
    · refine ⟨⟨g, (k + 1) * 3, none⟩, by simp [hcap], fun w1 hw j u hu => ?_⟩
      rw [List.getElem?_drop] at hu
      rw [Addr.add_lit]
      have hc := hcell _ u hu
      simp [World.cell?, hw, hgb, hc]
  have s1 : Hid (((rCells l).take (k * 3)).length = k * 3) := by show _ = _; rw [List.length_take]; omega
  have s2 : Hid (((rCells l).drop ((k + 1) * 3)).length = m * 3) := by show _ = _; rw [List.length_drop]; omega
  have s3 : Hid (∀ u ∈ (rCells l).take (k * 3), u.oneCell' = true) := fun u hu => h1c u (List.mem_of_mem_take hu)
  have s4 : Hid (∀ u ∈ (rCells l).drop ((k + 1) * 3), u.oneCell' = true) := fun u hu => h1c u (List.mem_of_mem_drop hu)
  have hglt : g < w.heap.size := (Array.getElem?_eq_some_iff.1 hgb).1
  have hRg : Rb ≠ g := fun e => by have := hbox; unfold Boxed at this; rw [e, hgb] at this; simp at this
  have hvc := hbox.cell
  have hRlt := hbox.lt
  rw [hm] at hvc g1
  have hbox : Hid (Boxed w Rb 29 (.slice (some ⟨g, 0, none⟩) (k + 1 + m) cap)) := hm ▸ hbox
  replace hgb := Lib.hid hgb
  clear h hr hcell g3 g4 hk
  have hk0 : (0 : Int) ≤ (k : Int) := Int.natCast_nonneg _
  have hwr : IntKind.i64.wrap ((k : Int) + 1) = (k : Int) + 1 := by rw [IntKind.wrap_i64]; omega
  have hkc : k ≤ cap := by omega
  have hp0 : (0 : Int) ≤ (k : Int) + 1 := by omega
  have hp1 : (k : Int) + 1 ≤ ((k + 1 + m : Nat) : Int) := by omega
  have hp2 : ((k : Int) + 1).toNat = k + 1 := by omega
  have hp4 : (k : Int) + 1 ≤ (k : Int) + 1 + (m : Int) := by omega
  have hkl : k + m ≤ 100000 := by omega
  replace hm := Lib.hid hm
  go_enter Try.func15, Try.ntmps15
  go_wp2_with (first
    | (go_at_call 25; refine hat.out.mono ?_; rintro e w' ⟨rfl, rfl⟩)
    | (refine wpList_append_own_at _ rfl _ _ 27 rfl 0 63 i0 _ 3 24 Try.underlying27 hi hz0 hz1 hz2 rfl (by decide) (.slice none 0 0) 0 [] rfl (World.ownsRow_nil _ _ _ _) ⟨g, 0, none⟩ k cap ((rCells l).take (k * 3)) rfl s1.out hn1.out s3.out (by unfold maxLen; omega) (by omega) (Nat.zero_le _) ?_; intro v1 w1 hown1 hgrow1 _ hat1; obtain ⟨ad1, cap1, rfl⟩ := owns_shape hown1
       have hbox1 := hbox.out.kept hgrow1 (by simp [Value.ownBlock]); have hvc1 := hbox1.cell; replace hbox1 := Lib.hid hbox1; replace hown1 := Lib.hid hown1; replace hat1 := Lib.hid hat1
       have hg1 := Lib.hid (hgrow1.block g hglt (by simp [Value.ownBlock])))
    | (refine wpList_append_own_at _ rfl _ _ 27 rfl 0 63 i0 _ 3 24 Try.underlying27 hi hz0 hz1 hz2 rfl (by decide) (.slice ad1 (0 + k) cap1) (0 + k) ([] ++ (rCells l).take (k * 3)) (by simp [Act.eval, Act.put]) hown1.out A m (cap - (k + 1)) ((rCells l).drop ((k + 1) * 3)) (by simp [Act.eval, Act.put]) s2.out (hn2.out _ hg1.out) s4.out (by unfold maxLen; omega) (by omega) (Nat.zero_le _) ?_; intro v2 w2 hown2 hgrow2 _ hat2; obtain ⟨ad2, cap2, rfl⟩ := owns_shape hown2; have hbox2 := hbox1.out.kept hgrow2 (hbox1.out.not_row (by decide) hown1.out); have hvc2 := hbox2.cell; have hf2 := hbox2.frozen; replace hbox2 := Lib.hid hbox2; replace hown2 := Lib.hid hown2; replace hat2 := Lib.hid hat2))
  go_ret
  have hown2' := hown2.out
  have hat1' := hat1.out
  have hat2' := hat2.out
  have hm' := hm.out
  have hsz : w'.heap.size ≤ w1.heap.size := hgrow1.size
  have e0 : 0 + k + m = k + m := by omega
  rw [e0] at hown2' hat2'
  have hlen : (l.eraseIdx k).length = k + m := by rw [List.length_eraseIdx_of_lt (by omega)]; omega
  have hk2 : w'.grownBy w2 none := ⟨hgrow2.os.trans hgrow1.os, hgrow2.tape.trans hgrow1.tape, hgrow2.output.trans hgrow1.output, Nat.le_trans hsz hgrow2.size, fun j hj _ => (hgrow2.block j (by omega) (fun e => by
    rcases hat1' with h | h
    · rw [← e] at h; simp [Value.ownBlock] at h
    · rw [← e] at h; simp at h; omega)).trans (hgrow1.block j hj (by simp [Value.ownBlock]))⟩
  refine ⟨rfl, .slice ad2 (k + m) cap2, ⟨hbox2.out.set _, ?_⟩, ?_, ?_⟩
  · have := hown2'.kept (grownBy_setCell' w2 Rb (.slice ad2 (k + m) cap2)) (.inr (hbox2.out.not_row (by decide) hown2').symm)
    rw [rCells_erase, hlen]
    exact this
  · intro b hb
    right
    rcases hat2' with h | h
    · rcases hat1' with h' | h'
      · rw [hb, h'] at h; simp [Value.ownBlock] at h
      · rw [hb, h'] at h; obtain rfl := Option.some.inj h; exact Nat.le_refl _
    · rw [hb] at h; obtain rfl := Option.some.inj h; exact hsz
  · exact (Kept.of_grown hk2 (fun k' hk' _ => by simp at hk')).setCell (p := ⟨Rb, 0, none⟩) (fun _ => .inl rfl) _
end Go.Proofs.Ythnffhhbdihalaa
