/- The table's operations leave any blocks that are not the table's as they are: the same contracts over a word that protects blocks. -/
import Derived.Test.YthnffhhbdihalaaLeftWalk
import Derived.Laws.StructEq
namespace Go.Proofs.Ythnffhhbdihalaa
open Go.RowKit Go.Shelf

/-- T is a table that reads as R, none of it in the blocks Pr, which are as they were in w0. -/
structure TabK (Pr : Nat → Prop) (w0 w : World) (T : Nat) (R : Int → List Clm) : Prop where
  tab : ∃ S M f, Tab S w T M f R ∧ ∀ b, S b → ¬ Pr b
  lt : ∀ b, Pr b → b < w0.heap.size
  os : w.os = w0.os
  tape : w.tape = w0.tape
  output : w.output = w0.output
  size : w0.heap.size ≤ w.heap.size
  same : ∀ b, Pr b → w.heap[b]? = w0.heap[b]?

variable {Pr : Nat → Prop} {w0 w : World} {T : Nat} {R : Int → List Clm}

theorem TabK.below {w' : World} (h : TabK Pr w0 w T R) (hb : Below w.heap.size w w') : TabK Pr w0 w' T R := by
  obtain ⟨S, M, f, ht, hs⟩ := h.tab
  exact ⟨⟨S, M, f, ht.below hb, hs⟩, h.lt, hb.os.trans h.os, hb.tape.trans h.tape, hb.output.trans h.output, Nat.le_trans h.size hb.size, fun b hp => (hb.block b (Nat.lt_of_lt_of_le (h.lt b hp) h.size)).trans (h.same b hp)⟩

theorem TabK.kept {w' : World} {S S' : Nat → Prop} {M : Nat} {f' : Int → Option Value} {R' : Int → List Clm} (h : TabK Pr w0 w T R) (hs : ∀ b, S b → ¬ Pr b) (ht : Tab S' w' T M f' R') (h1 : ∀ b, S' b → S b ∨ w.heap.size ≤ b) (h2 : Kept S w w') : TabK Pr w0 w' T R' :=
  ⟨⟨S', M, f', ht, fun b hb hp => (h1 b hb).elim (fun x => hs b x hp) (fun x => by have := h.lt b hp; have := h.size; omega)⟩, h.lt, h2.os.trans h.os, h2.tape.trans h.tape, h2.output.trans h.output, Nat.le_trans h.size h2.size,
    fun b hp => (h2.block b (Nat.lt_of_lt_of_le (h.lt b hp) h.size) (fun x => hs b x hp)).trans (h.same b hp)⟩

theorem TabK.ask (h : TabK Pr w0 w T R) (th key : Int) (al : Bool) :
    Calls Try.prog 12 #[.pointer (some ⟨T, 0, none⟩), .int .i64 th, .int .i64 key, .bool al] w fun e w' => e = .returned (.int .i64 (askE R th key)) ∧ TabK Pr w0 w' T (askR R th key al) := by
  obtain ⟨S, M, f, ht, hs⟩ := h.tab
  exact (ht.ask th key al).mono fun e w' ⟨he, f', S', h1, h2, h3⟩ => ⟨he, h.kept hs h1 h2 h3⟩
theorem TabK.leave (h : TabK Pr w0 w T R) (th key : Int) :
    Calls Try.prog 14 #[.pointer (some ⟨T, 0, none⟩), .int .i64 th, .int .i64 key] w fun e w' => e = .returned (.int .i64 (leaveE R th key)) ∧ TabK Pr w0 w' T (leaveR R th key) := by
  obtain ⟨S, M, f, ht, hs⟩ := h.tab
  exact (ht.leave th key).mono fun e w' ⟨he, f', S', h1, h2, h3⟩ => ⟨he, h.kept hs h1 h2 h3⟩
theorem TabK.holds (h : TabK Pr w0 w T R) (th key : Int) :
    Calls Try.prog 16 #[.pointer (some ⟨T, 0, none⟩), .int .i64 th, .int .i64 key] w fun e w' => e = .returned (.bool (findV (R key) th).2.2) ∧ TabK Pr w0 w' T R := by
  obtain ⟨S, M, f, ht, hs⟩ := h.tab
  exact (ht.holds th key).mono fun e w' ⟨he, hb⟩ => ⟨he, h.below hb⟩
theorem TabK.ths (h : TabK Pr w0 w T R) (key : Int) : ((R key).map Clm.th).Nodup ∧ ∀ c ∈ R key, 1 ≤ c.th ∧ c.th ≤ 64 := by obtain ⟨S, M, f, ht, _⟩ := h.tab; exact ht.ths key
theorem TabK.small (h : TabK Pr w0 w T R) (key : Int) : (R key).length ≤ 64 := by obtain ⟨S, M, f, ht, _⟩ := h.tab; exact ht.small key
theorem TabK.free (h : TabK Pr w0 w T R) :
    Calls Try.prog 20 #[.pointer (some ⟨T, 0, none⟩)] w fun e w' => ∃ b, e = .returned (.bool b) ∧ (b = true ↔ isFree R) ∧ w' = w := by
  obtain ⟨S, M, f, ht, hs⟩ := h.tab
  exact ht.free
theorem TabK.weaken {Pr' : Nat → Prop} (h : TabK Pr w0 w T R) (hp : ∀ b, Pr' b → Pr b) : TabK Pr' w0 w T R := by
  obtain ⟨S, M, f, ht, hs⟩ := h.tab
  exact ⟨⟨S, M, f, ht, fun b hb hq => hs b hb (hp b hq)⟩, fun b hb => h.lt b (hp b hb), h.os, h.tape, h.output, h.size, fun b hb => h.same b (hp b hb)⟩

/-- A slice of claims as Claims hands it back: its cells, where there are any. -/
def ClaimsAt (w : World) (v : Value) (l : List Clm) : Prop :=
  ∃ ad cap, v = .slice ad l.length cap ∧ ∀ i, i < l.length → ∃ g, ad = some ⟨g, 0, none⟩ ∧ ∃ cur, w.heap[g]? = some (.cells cur 39 (0, 0)) ∧
    w.cell? ⟨g, i * 3, none⟩ = some (.int .i64 (clmAt l i).th) ∧ w.cell? ⟨g, i * 3 + 1, none⟩ = some (.bool (clmAt l i).al) ∧ w.cell? ⟨g, i * 3 + 2, none⟩ = some (.bool (holdsAt l i))

/-- The block of a slice's. -/
def inBlock (v : Value) (b : Nat) : Prop := v.ownBlock = some b

theorem ClaimsAt.kept {w' : World} {v : Value} {l : List Clm} (h : ClaimsAt w v l) (hk : ∀ b, inBlock v b → w'.heap[b]? = w.heap[b]?) : ClaimsAt w' v l := by
  obtain ⟨ad, cap, rfl, hc⟩ := h
  refine ⟨ad, cap, rfl, fun i hi => ?_⟩
  obtain ⟨g, rfl, cur, hb, c0, c1, c2⟩ := hc i hi
  have hg := hk g rfl
  exact ⟨g, rfl, cur, hg.trans hb, (World.cell?_of_block (a := ⟨g, _, none⟩) hg).trans c0, (World.cell?_of_block (a := ⟨g, _, none⟩) hg).trans c1, (World.cell?_of_block (a := ⟨g, _, none⟩) hg).trans c2⟩

theorem itemCells_at (l : List Clm) : ∀ k i, i < k → (itemCells (itemsTo l k))[i * 3]? = some (.int .i64 (clmAt l i).th) ∧ (itemCells (itemsTo l k))[i * 3 + 1]? = some (.bool (clmAt l i).al) ∧ (itemCells (itemsTo l k))[i * 3 + 2]? = some (.bool (holdsAt l i)) := by
  intro k
  have hlen : ∀ k, (itemCells (itemsTo l k)).length = k * 3 := by
    intro k
    induction k with
    | zero => rfl
    | succ k ih => rw [itemsTo_succ, itemCells_snoc, List.length_append, ih]; simp; omega
  induction k with
  | zero => intro i hi; omega
  | succ k ih =>
    intro i hi
    rw [itemsTo_succ, itemCells_snoc]
    by_cases h : i < k
    · obtain ⟨a, b, c⟩ := ih i h
      refine ⟨?_, ?_, ?_⟩
      · rw [List.getElem?_append_left (by rw [hlen]; omega)]; exact a
      · rw [List.getElem?_append_left (by rw [hlen]; omega)]; exact b
      · rw [List.getElem?_append_left (by rw [hlen]; omega)]; exact c
    · obtain rfl : i = k := by omega
      refine ⟨?_, ?_, ?_⟩
      · rw [List.getElem?_append_right (by rw [hlen]; omega), hlen]; simp [itemAt]
      · rw [List.getElem?_append_right (by rw [hlen]; omega), hlen, show i * 3 + 1 - i * 3 = 1 by omega]; simp [itemAt]
      · rw [List.getElem?_append_right (by rw [hlen]; omega), hlen, show i * 3 + 2 - i * 3 = 2 by omega]; simp [itemAt]

theorem ClaimsAt.of_owns {n : Nat} {v : Value} {l : List Clm} (h : w.ownsRow n 39 3 v l.length (itemCells (itemsTo l l.length))) : ClaimsAt w v l ∧ ∀ b, inBlock v b → n ≤ b ∧ b < w.heap.size := by
  rcases h.2 with ⟨rfl, h0⟩ | ⟨g, cap, cur, rfl, hn, hb, h1, h2, h3, h4⟩
  · refine ⟨⟨none, 0, by rw [h0], fun i hi => by omega⟩, fun b hb => by simp [inBlock, Value.ownBlock] at hb⟩
  · refine ⟨⟨_, cap, rfl, fun i hi => ⟨g, rfl, cur, hb, ?_⟩⟩, fun b hb' => ?_⟩
    · obtain ⟨a1, a2, a3⟩ := itemCells_at l l.length i hi
      have key : ∀ j v, j < l.length * 3 → (itemCells (itemsTo l l.length))[j]? = some v → w.cell? ⟨g, j, none⟩ = some v := by
        intro j v hj hv
        rw [← h4, List.getElem?_take_of_lt hj] at hv
        simp [World.cell?, hb]
        simpa using hv
      exact ⟨key _ _ (by omega) a1, key _ _ (by omega) a2, key _ _ (by omega) a3⟩
    · simp [inBlock, Value.ownBlock] at hb'; subst hb'
      exact ⟨hn, (Array.getElem?_eq_some_iff.1 hb).1⟩

/-- Claims: what it hands back is protected from then on. -/
theorem TabK.claims (h : TabK Pr w0 w T R) (key : Int) :
    Calls Try.prog 18 #[.pointer (some ⟨T, 0, none⟩), .int .i64 key] w fun e w' =>
      ∃ v, e = .returned v ∧ ClaimsAt w' v (R key) ∧ (∀ b, inBlock v b → w.heap.size ≤ b) ∧ TabK Pr w0 w' T R ∧ TabK (fun b => Pr b ∨ inBlock v b) w' w' T R := by
  have h' := h
  obtain ⟨S, M, f, ht, hs⟩ := h.tab
  refine (ht.claims key).mono ?_
  rintro e w' ⟨v, he, ho, hb⟩
  obtain ⟨hc, hi⟩ := ClaimsAt.of_owns ho
  refine ⟨v, he, hc, fun b hb => (hi b hb).1, h'.below hb, ⟨⟨S, M, f, ht.below hb, fun b hb' hp => ?_⟩, fun b hp => ?_, rfl, rfl, rfl, Nat.le_refl _, fun _ _ => rfl⟩⟩
  · rcases hp with hp | hp
    · exact hs b hb' hp
    · have := ht.lt b hb'; have := (hi b hp).1; omega
  · rcases hp with hp | hp
    · have := h'.lt b hp; have := h'.size; have := hb.size; omega
    · exact (hi b hp).2

theorem TabI.toK {n₀ : Nat} (h : TabI n₀ w0 w T R) : TabK (fun b => b < n₀) w w T R := by
  have hsz := h.size
  obtain ⟨S, M, f, ht, hs, hb⟩ := h
  exact ⟨⟨S, M, f, ht, fun b hb hp => by have := hs b hb; omega⟩, fun b hp => by omega, rfl, rfl, rfl, Nat.le_refl _, fun _ _ => rfl⟩

theorem TabK.toBelow {n₀ : Nat} (h : TabK Pr w0 w T R) (hp : ∀ b, b < n₀ → Pr b) : Below n₀ w0 w := ⟨h.os, h.tape, h.output, h.size, fun k hk => h.same k (hp k hk)⟩

theorem neq39 (w : World) (a : Int) (b c : Bool) : (binOp .neq 39 (.agg #[.int .i64 a, .bool b, .bool c]) (.agg #[.int .i64 a, .bool b, .bool c])).run Try.prog w = .ok (.bool false) w := by
  have hf : (Try.prog.fieldsOf 39).toList = [{ name := "Thread", type := 3, offset := 0, embedded := false, tag := "", pkgPath := "", byteOffset := 0 }, { name := "Alone", type := 4, offset := 1, embedded := false, tag := "", pkgPath := "", byteOffset := 8 }, { name := "Holds", type := 4, offset := 2, embedded := false, tag := "", pkgPath := "", byteOffset := 9 }] := by kernel_rfl
  rw [run_neq_struct, run_equalIn_agg w 9999 39 _ _ (by kernel_rfl) (by kernel_rfl), hf]
  have i3 : (isAgg 3).run Try.prog w = .ok false w := by kernel_rfl
  have i4 : (isAgg 4).run Try.prog w = .ok false w := by kernel_rfl
  have e3 : ∀ x y : Int, (Op.equalIn 9999 3 (.int .i64 x) (.int .i64 y)).run Try.prog w = .ok (x == y) w := fun x y => run_equalIn_int w 9998 3 .i64 .i64 x y Try.underlying3
  have e4 : ∀ x y : Bool, (Op.equalIn 9999 4 (.bool x) (.bool y)).run Try.prog w = .ok (x == y) w := fun x y => run_equalIn_bool' w 9998 4 x y Try.underlying4
  simp [Op.eqFields, part, i3, i4, e3, e4]
theorem guard39 (w : World) (x y : Operand) (xs ys : Array Value) : (eqGuard .neq 39 x y (.agg xs) (.agg ys)).run Try.prog w = .ok () w := run_eqGuard_agg w .neq 39 x y xs ys (by kernel_rfl)
end Go.Proofs.Ythnffhhbdihalaa
