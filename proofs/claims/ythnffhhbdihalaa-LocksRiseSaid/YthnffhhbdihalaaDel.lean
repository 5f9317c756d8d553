/- slices.Delete of one claim: the row without it, in the same block. -/
import Derived.Test.YthnffhhbdihalaaPut
import Derived.Deep.RegionLaw
import Derived.ArgAppend
import Derived.Lib.SliceRun
namespace Go.Proofs.Ythnffhhbdihalaa
open Go.RowKit Go.Shelf

/-- The block behind a row of stores. -/
theorem setCells_block (g : Nat) : ∀ (vs : List Value) (o : Nat) (w : World) (cur : Array Value) (t : TypeId) (fz : Nat × Nat), w.heap[g]? = some (.cells cur t fz) →
    ∃ cur', (w.setCells g o vs).heap[g]? = some (.cells cur' t fz) ∧ cur'.size = cur.size ∧ (∀ j, (j < o ∨ o + vs.length ≤ j) → cur'[j]? = cur[j]?) ∧ (∀ j, j < vs.length → o + j < cur.size → cur'[o + j]? = vs[j]?)
  | [], o, w, cur, t, fz, h => ⟨cur, h, rfl, fun _ _ => rfl, fun j hj => by simp at hj⟩
  | v :: r, o, w, cur, t, fz, h => by
    have h1 : (w.setCell ⟨g, o, none⟩ v).heap[g]? = some (.cells (cur.setIfInBounds o v) t fz) := by
      obtain ⟨hlt, hk⟩ := Array.getElem?_eq_some_iff.1 h
      show (w.heap.modify g _)[g]? = _
      rw [Array.getElem?_eq_getElem (by rw [Array.size_modify]; exact hlt), Array.getElem_modify_self, hk]
      rfl
    obtain ⟨cur', h2, h3, h4, h5⟩ := setCells_block g r (o + 1) _ _ t fz h1
    refine ⟨cur', h2, by rw [h3]; simp, fun j hj => ?_, fun j hj hlt => ?_⟩
    · rw [h4 j (by simp at hj; omega), Array.getElem?_setIfInBounds_ne (by simp at hj; omega)]
    · cases j with
      | zero =>
        rw [h4 (o + 0) (by omega)]
        simp at hlt ⊢
        simp [hlt]
      | succ j =>
        have := h5 j (by simpa using hj) (by simp; omega)
        rw [show o + (j + 1) = o + 1 + j by omega, this]
        simp

theorem setCells_grown (g : Nat) : ∀ (vs : List Value) (o : Nat) (w : World), w.grownBy (w.setCells g o vs) (some g)
  | [], _, w => ⟨rfl, rfl, rfl, Nat.le_refl _, fun _ _ _ => rfl⟩
  | v :: r, o, w => by
    have h := setCells_grown g r (o + 1) (w.setCell ⟨g, o, none⟩ v)
    refine ⟨h.os, h.tape, h.output, by have := h.size; rw [World.size_setCell] at this; exact this, fun k hk hne => (h.block k (by simpa using hk) hne).trans (Below.heap_setCell _ _ _ _ (fun e => hne (by rw [e])))⟩

theorem info_36 : Try.prog.underlying 36 = some (.slice 39) := Try.underlying36
theorem zero39 (w : World) : (zeroValue 39).run Try.prog w = .ok (.agg #[.int .i64 0, .bool false, .bool false]) w := by kernel_rfl

theorem run_clear3 (w : World) (ty : TypeId) (b o c : Nat)
    (hc : ∀ j, j < 3 → (w.cell? ⟨b, o + j, none⟩).isSome = true) (hf : ∀ j, j < 3 → w.frozen? ⟨b, o + j, none⟩ = false) :
    (Builtin.clear_ #[36] ty #[.slice (some ⟨b, o, none⟩) 1 c]).run Try.prog w = .ok (.tuple #[]) (w.setCells b o [.int .i64 0, .bool false, .bool false]) := by
  have hzc : (Builtin.zeroCells (Value.agg #[.int .i64 0, .bool false, .bool false]).cells 1).toList = [.int .i64 0, .bool false, .bool false] := by
    simp only [Builtin.zeroCells, Value.cells]
    apply List.ext_getElem?
    intro j
    rcases j with _ | _ | _ | j <;> simp
  have hst := run_storeCells_cells (P := Try.prog) b o [.int .i64 0, .bool false, .bool false] 0 w (by simpa using hc) (by simpa using hf) (by simp [Value.oneCell'])
  simp only [Nat.add_zero] at hst
  simp [Builtin.clear_, run_underlying Try.underlying36, zero39, hzc, hst]

/-- A builtin at the operation, by its run. -/
theorem wpList_builtin1 {P : Program} (w : World) {ops : Array Oper} {rest : List Oper} {o : Oper} {a : Act} {Q : Exit → Act → World → Prop}
    (hg : o.guard = none) (b : Builtin) (x : Operand) (ts : Array TypeId) (hop : o.op = Op.call { callee := Callee.builtin b, args := #[x], argTypes := ts }) (u v : Value) (w1 : World) (hx : a.eval x = u)
    (hrun : ∀ cs, (builtin b ts o.type cs #[u]).run P w = .ok (.value v) w1) (hK : wpList P ops Q rest (a.put o.dst v) w1) :
    wpList P ops Q (o :: rest) a w := by
  refine wpList_plain hg fun K' hK' => ?_
  unfold Oper.wp
  simp [execOp, hop, hx, resolve, invoke, hrun, Result.andThen]
  exact hK' _ _ hK

set_option maxRecDepth 100000 in
set_option maxHeartbeats 2000000 in
theorem del_walk (g i m cap : Nat) (xs : List Value) (w : World) (hxs : xs.length = (i + 1 + m) * 3) (h1c : ∀ u ∈ xs, u.oneCell' = true) (hcap : i + 1 + m ≤ cap) (hmax : i + m ≤ 64)
    (hc : ∀ j, j < cap * 3 → (w.cell? ⟨g, j, none⟩).isSome = true) (hf : ∀ j, w.frozen? ⟨g, j, none⟩ = false) (hx : ∀ j u, xs[j]? = some u → w.cell? ⟨g, j, none⟩ = some u) :
    Calls Try.prog 26 #[.slice (some ⟨g, 0, none⟩) (i + 1 + m) cap, .int .i64 i, .int .i64 ((i : Int) + 1)] w fun e w' =>
      e = .returned (.slice (some ⟨g, 0, none⟩) (i + m) cap) ∧ w' = (w.drew.setCells g (i * 3) (xs.drop ((i + 1) * 3))).setCells g ((i + m) * 3) [.int .i64 0, .bool false, .bool false] := by
  obtain ⟨i0, hi0, hz0, hz1, hz2⟩ := info_parts info39
  obtain ⟨A, hA, hnews⟩ : ∃ A : Addr, (if cap = i + 1 then some (⟨g, 0, none⟩ : Addr) else some ⟨g, (i + 1) * 3, none⟩) = some A ∧ Hid (∀ j u, (xs.drop ((i + 1) * 3))[j]? = some u → w.drew.cell? (A.add j) = some u) := by
    by_cases h : cap = i + 1
    · refine ⟨⟨g, 0, none⟩, by simp [h], fun j u hu => ?_⟩
      rw [List.drop_eq_nil_of_le (by omega)] at hu
      simp at hu
    · refine ⟨⟨g, (i + 1) * 3, none⟩, by simp [h], fun j u hu => ?_⟩
      rw [List.getElem?_drop] at hu
      rw [Addr.add_lit]
      exact hx _ _ hu
  have s1 : Hid ((xs.drop ((i + 1) * 3)).length = m * 3) := by show _ = _; rw [List.length_drop]; omega
  have s2 : Hid (∀ u ∈ xs.drop ((i + 1) * 3), u.oneCell' = true) := fun u hu => h1c u (List.mem_of_mem_drop hu)
  have s3 : Hid (∀ j, j < (xs.drop ((i + 1) * 3)).length → (w.drew.cell? ⟨g, 0 + i * 3 + j, none⟩).isSome = true ∧ w.drew.frozen? ⟨g, 0 + i * 3 + j, none⟩ = false) := by
    intro j hj
    rw [List.length_drop] at hj
    exact ⟨hc _ (by omega), hf _⟩
  have hic : i ≤ cap := by omega
  have hwr : IntKind.i64.wrap ((i : Int) + 1) = (i : Int) + 1 := by rw [IntKind.wrap_i64]; omega
  have hp0 : (0 : Int) ≤ (i : Int) + 1 := by omega
  have hp1 : (i : Int) + 1 ≤ ((i + 1 + m : Nat) : Int) := by omega
  have hp2 : ((i : Int) + 1).toNat = i + 1 := by omega
  have hp3 : ((i : Int) == (i : Int) + 1) = false := by simp; omega
  have hclr := Lib.hid (show ∀ ty c, (builtin .clear #[36] ty c #[.slice (some ⟨g, (i + m) * 3, none⟩) (i + 1 + m - (i + m)) (cap - (i + m))]).run Try.prog (w.drew.setCells g (i * 3) (xs.drop ((i + 1) * 3))) =
      .ok (.value (.tuple #[])) ((w.drew.setCells g (i * 3) (xs.drop ((i + 1) * 3))).setCells g ((i + m) * 3) [.int .i64 0, .bool false, .bool false]) from fun ty c => by
    rw [show i + 1 + m - (i + m) = 1 by omega]
    have := run_clear3 (w.drew.setCells g (i * 3) (xs.drop ((i + 1) * 3))) ty g ((i + m) * 3) (cap - (i + m)) (fun j hj => by
      by_cases hin : (i + m) * 3 + j < i * 3 + (xs.drop ((i + 1) * 3)).length ∧ i * 3 ≤ (i + m) * 3 + j
      · have hk := World.cell?_setCells_in g (xs.drop ((i + 1) * 3)) (i * 3) w.drew (fun j hj => by rw [List.length_drop] at hj; exact hc _ (by omega)) ((i + m) * 3 + j - (i * 3)) (by omega)
        rw [show i * 3 + ((i + m) * 3 + j - (i * 3)) = (i + m) * 3 + j by omega] at hk
        rw [hk]; rfl
      · rw [World.cell?_setCells_out g _ _ _ _ (fun _ _ => by show (i + m) * 3 + j < _ ∨ _ ≤ (i + m) * 3 + j; omega)]
        exact hc _ (by omega)) (fun j hj => by rw [World.frozen?_setCells]; exact hf _)
    simp [builtin, this])
  have hp4 : (i : Int) + 1 ≤ (i : Int) + 1 + (m : Int) := by omega
  clear hc hf
  go_enter Try.func26, Try.ntmps26
  go_wp2_with fail
  go_region_law (refine step_append_room rfl (.tmp 22) (.tmp 25) 36 rfl 39 i0 3 Try.underlying36 hi0 hz1 g 0 i cap (by simp [Act.eval, Act.put]) A m (cap - (i + 1)) (xs.drop ((i + 1) * 3)) (by simp [Act.eval, Act.put]) s1.out hnews.out s2.out (by omega) s3.out ?_)
  have hm1 : ¬ (cap = i + m) := by omega
  go_wp2_with (refine wpList_builtin1 _ rfl .clear (.tmp 31) #[36] rfl (.slice (some ⟨g, (i + m) * 3, none⟩) (i + 1 + m - (i + m)) (cap - (i + m))) (.tuple #[]) _ rfl (fun cs => hclr.out _ _) ?_)
  go_ret
  exact ⟨rfl, rfl⟩

theorem clmCells_take (l : List Clm) : ∀ i, clmCells (l.take i) = (clmCells l).take (i * 3) := by
  induction l with
  | nil => intro i; simp [clmCells]
  | cons c r ih =>
    intro i
    have e : clmCells (c :: r) = [.int .i64 c.th, .bool c.al, .bool false] ++ clmCells r := rfl
    cases i with
    | zero => simp [clmCells]
    | succ j =>
      have e2 : clmCells ((c :: r).take (j + 1)) = [.int .i64 c.th, .bool c.al, .bool false] ++ clmCells (r.take j) := rfl
      rw [e2, ih, e, show (j + 1) * 3 = j * 3 + 1 + 1 + 1 by omega]
      rfl

theorem clmCells_drop (l : List Clm) : ∀ i, clmCells (l.drop i) = (clmCells l).drop (i * 3) := by
  induction l with
  | nil => intro i; simp [clmCells]
  | cons c r ih =>
    intro i
    have e : clmCells (c :: r) = [.int .i64 c.th, .bool c.al, .bool false] ++ clmCells r := rfl
    cases i with
    | zero => simp
    | succ j =>
      rw [List.drop_succ_cons, ih, e, show (j + 1) * 3 = j * 3 + 1 + 1 + 1 by omega]
      rfl

theorem clmCells_erase (l : List Clm) (i : Nat) : clmCells (l.eraseIdx i) = (clmCells l).take (i * 3) ++ (clmCells l).drop ((i + 1) * 3) := by
  rw [List.eraseIdx_eq_take_drop_succ, ← clmCells_take, ← clmCells_drop]
  simp [clmCells]

theorem del_row {w w0 : World} {l : List Clm} {i m g cap : Nat} {cur : Array Value} (hi : i < l.length) (hm : l.length = i + 1 + m) (hb0 : w0.heap[g]? = some (.cells cur 39 (0, 0))) (h1 : l.length ≤ cap) (h2 : cap ≤ maxLen) (h3 : cur.size = cap * 3)
    (h4 : cur.toList.take (l.length * 3) = clmCells l) (hg0 : w0.grownBy w (some g)) (hb : w.heap[g]? = some (.cells cur 39 (0, 0))) :
    ((w.setCells g (i * 3) ((clmCells l).drop ((i + 1) * 3))).setCells g ((i + m) * 3) [.int .i64 0, .bool false, .bool false]).ownsRow 0 39 3 (.slice (some ⟨g, 0, none⟩) (l.length - 1) cap) (l.length - 1) (clmCells (l.eraseIdx i)) ∧
    w0.grownBy ((w.setCells g (i * 3) ((clmCells l).drop ((i + 1) * 3))).setCells g ((i + m) * 3) [.int .i64 0, .bool false, .bool false]) (some g) := by
  have hcl := clmCells_length l
  have g1 := setCells_grown g ((clmCells l).drop ((i + 1) * 3)) (i * 3) w
  obtain ⟨cur1, a1, a2, a3, a4⟩ := setCells_block g ((clmCells l).drop ((i + 1) * 3)) (i * 3) w cur 39 (0, 0) hb
  generalize w.setCells g (i * 3) ((clmCells l).drop ((i + 1) * 3)) = W1 at *
  have g2 := setCells_grown g [.int .i64 0, .bool false, .bool false] ((i + m) * 3) W1
  obtain ⟨cur2, b1, b2, b3, b4⟩ := setCells_block g [.int .i64 0, .bool false, .bool false] ((i + m) * 3) W1 cur1 39 (0, 0) a1
  generalize W1.setCells g ((i + m) * 3) [.int .i64 0, .bool false, .bool false] = W2 at *
  clear b4
  have her : (l.eraseIdx i).length = l.length - 1 := List.length_eraseIdx_of_lt hi
  refine ⟨⟨by rw [clmCells_length, her], .inr ⟨g, cap, cur2, rfl, Nat.zero_le _, b1, by omega, h2, by omega, ?_⟩⟩, ?_⟩
  · rw [clmCells_erase]
    apply List.ext_getElem?
    intro j
    by_cases hj : j < (l.length - 1) * 3
    · rw [List.getElem?_take_of_lt hj]
      have e1 : cur2.toList[j]? = cur1.toList[j]? := by simpa using b3 j (.inl (by omega))
      rw [e1]
      by_cases hj2 : j < i * 3
      · have e2 : cur1.toList[j]? = cur.toList[j]? := by simpa using a3 j (.inl hj2)
        rw [e2, List.getElem?_append_left (by rw [List.length_take]; omega), List.getElem?_take_of_lt hj2, ← h4, List.getElem?_take_of_lt (by omega)]
      · have e2 : cur1.toList[j]? = ((clmCells l).drop ((i + 1) * 3))[j - i * 3]? := by
          have := a4 (j - i * 3) (by rw [List.length_drop]; omega) (by omega)
          rw [show i * 3 + (j - i * 3) = j by omega] at this
          simpa using this
        rw [e2, List.getElem?_append_right (by rw [List.length_take]; omega)]
        congr 1
        rw [List.length_take]; omega
    · rw [List.getElem?_eq_none (by rw [List.length_take]; omega), List.getElem?_eq_none (by rw [List.length_append, List.length_take, List.length_drop]; omega)]
  · exact ⟨g2.os.trans (g1.os.trans hg0.os), g2.tape.trans (g1.tape.trans hg0.tape), g2.output.trans (g1.output.trans hg0.output), Nat.le_trans hg0.size (Nat.le_trans g1.size g2.size), fun k hk hne => (g2.block k (Nat.lt_of_lt_of_le hk (Nat.le_trans hg0.size g1.size)) hne).trans ((g1.block k (Nat.lt_of_lt_of_le hk hg0.size) hne).trans (hg0.block k hk hne))⟩

/-- slices.Delete of the claim at i, over a row that is owned. -/
theorem delete_any {w : World} {v : Value} {l : List Clm} (hown : w.ownsRow 0 39 3 v l.length (clmCells l)) (i : Nat) (hi : i < l.length) (hl : l.length ≤ 64) :
    ∃ g cap, v = .slice (some ⟨g, 0, none⟩) l.length cap ∧ Calls Try.prog 26 #[v, .int .i64 i, .int .i64 ((i : Int) + 1)] w fun e w' =>
      e = .returned (.slice (some ⟨g, 0, none⟩) (l.length - 1) cap) ∧ w'.ownsRow 0 39 3 (.slice (some ⟨g, 0, none⟩) (l.length - 1) cap) (l.length - 1) (clmCells (l.eraseIdx i)) ∧ w.grownBy w' (some g) := by
  obtain ⟨g, cap, cur, rfl, hb, h1, h2, h3, h4⟩ := own_block hown (by omega)
  refine ⟨g, cap, rfl, ?_⟩
  obtain ⟨m, hm⟩ : ∃ m, l.length = i + 1 + m := ⟨l.length - (i + 1), by omega⟩
  have hcl := clmCells_length l
  have h1c : ∀ u ∈ clmCells l, u.oneCell' = true := by
    intro u hu
    unfold clmCells at hu
    obtain ⟨c, _, hu⟩ := List.mem_flatMap.1 hu
    simp at hu
    rcases hu with rfl | rfl | rfl <;> rfl
  have hx : ∀ j u, (clmCells l)[j]? = some u → w.cell? ⟨g, j, none⟩ = some u := by
    intro j u hu
    rw [← h4] at hu
    have hj := (List.getElem?_eq_some_iff.1 hu).1
    rw [List.length_take] at hj
    rw [List.getElem?_take_of_lt (by omega)] at hu
    simp [World.cell?, hb]
    simpa using hu
  have hw := del_walk g i m cap (clmCells l) w (by omega) h1c (by omega) (by omega) (fun j hj => by simp [World.cell?, hb]; omega) (fun j => by simp [World.frozen?, hb]) hx
  rw [← hm] at hw
  refine hw.mono ?_
  rintro e w' ⟨rfl, rfl⟩
  exact ⟨by rw [show i + m = l.length - 1 by omega], del_row hi hm hb h1 h2 h3 h4 ⟨rfl, rfl, rfl, Nat.le_refl _, fun _ _ _ => rfl⟩ hb⟩
end Go.Proofs.Ythnffhhbdihalaa
