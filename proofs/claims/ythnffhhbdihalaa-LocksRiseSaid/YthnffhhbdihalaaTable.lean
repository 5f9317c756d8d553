/- A table of locks in memory, whole: its map, its rows, and that no two rows share a block. -/
import Derived.Test.YthnffhhbdihalaaClaims
namespace Go.Proofs.Ythnffhhbdihalaa
open Go.RowKit Go.Shelf

def clmCells (l : List Clm) : List Value := l.flatMap fun c => [.int .i64 c.th, .bool c.al, .bool false]

theorem nodup_bound : ∀ (n : Nat) (l : List Int), l.Nodup → (∀ x ∈ l, 1 ≤ x ∧ x ≤ (n : Int)) → l.length ≤ n
  | 0, l, _, h => by
    cases l with
    | nil => simp
    | cons x r => have := h x (by simp); omega
  | n + 1, l, hn, h => by
    have h1 := nodup_bound n (l.erase ((n + 1 : Nat) : Int)) (hn.erase _) (fun x hx => by
      have h2 := (List.Nodup.mem_erase_iff hn).1 hx
      have h3 := h x h2.2
      have := h2.1
      omega)
    rw [List.length_erase] at h1
    split at h1 <;> omega

theorem clmCells_length (l : List Clm) : (clmCells l).length = l.length * 3 := by
  induction l with
  | nil => rfl
  | cons c r ih => simp only [clmCells, List.flatMap_cons, List.length_append, List.length_cons, List.length_nil] at ih ⊢; omega

theorem clmCells_at (l : List Clm) : ∀ i, i < l.length → (clmCells l)[i * 3]? = some (.int .i64 (clmAt l i).th) ∧ (clmCells l)[i * 3 + 1]? = some (.bool (clmAt l i).al) ∧ (clmCells l)[i * 3 + 2]? = some (.bool false) := by
  induction l with
  | nil => intro i hi; simp at hi
  | cons c r ih =>
    intro i hi
    have e : clmCells (c :: r) = [.int .i64 c.th, .bool c.al, .bool false] ++ clmCells r := rfl
    cases i with
    | zero => rw [e]; exact ⟨rfl, rfl, rfl⟩
    | succ j =>
      have hj : j < r.length := by simpa using hi
      obtain ⟨h1, h2, h3⟩ := ih j hj
      have ec : clmAt (c :: r) (j + 1) = clmAt r j := by simp [clmAt]
      rw [e, ec]
      refine ⟨?_, ?_, ?_⟩
      · rw [List.getElem?_append_right (by simp; omega), ← h1]; congr 1; simp; omega
      · rw [List.getElem?_append_right (by simp; omega), ← h2]; congr 1; simp; omega
      · rw [List.getElem?_append_right (by simp; omega), ← h3]; congr 1; simp; omega

structure Tab (S : Nat → Prop) (w : World) (T M : Nat) (f : Int → Option Value) (R : Int → List Clm) : Prop where
  hT : S T
  hM : S M
  foot : ∀ k v b, f k = some v → v.ownBlock = some b → S b
  lt : ∀ b, S b → b < w.heap.size
  cT : w.heap[T]? = some (.cells #[.map (some M)] 58 (0, 0))
  map : IMap w M f
  empty : ∀ k, f k = none → R k = []
  rows : ∀ k v, f k = some v → R k ≠ [] ∧ w.ownsRow 0 39 3 v (R k).length (clmCells (R k))
  apart : ∀ k k' v v', f k = some v → f k' = some v' → k ≠ k' → v.ownBlock ≠ v'.ownBlock
  ths : ∀ k, ((R k).map Clm.th).Nodup ∧ ∀ c ∈ R k, 1 ≤ c.th ∧ c.th ≤ 64

theorem Tab.small {S : Nat → Prop} {w : World} {T M : Nat} {f : Int → Option Value} {R : Int → List Clm} (h : Tab S w T M f R) (k : Int) : (R k).length ≤ 64 := by
  have := nodup_bound 64 _ (h.ths k).1 (fun x hx => by
    obtain ⟨c, hc, rfl⟩ := List.mem_map.1 hx
    exact (h.ths k).2 c hc)
  simpa using this

/-- A row that is not empty lies in a block. -/
theorem own_block {w : World} {v : Value} {n : Nat} {xs : List Value} (h : w.ownsRow 0 39 3 v n xs) (hn : n ≠ 0) : ∃ g cap cur, v = .slice (some ⟨g, 0, none⟩) n cap ∧ w.heap[g]? = some (.cells cur 39 (0, 0)) ∧ n ≤ cap ∧ cap ≤ maxLen ∧ cur.size = cap * 3 ∧ cur.toList.take (n * 3) = xs := by
  rcases h.2 with ⟨_, h0⟩ | ⟨g, cap, cur, h1, _, h2, h3, h4, h5, h6⟩
  · exact absurd h0 hn
  · exact ⟨g, cap, cur, h1, h2, h3, h4, h5, h6⟩

theorem Tab.reads {S : Nat → Prop} {w : World} {T M : Nat} {f : Int → Option Value} {R : Int → List Clm} (h : Tab S w T M f R) (k : Int) : Reads w.heap.size w T k (R k) := by
  refine ⟨h.lt _ h.hT, M, f, h.lt _ h.hM, h.cT, h.map, ?_⟩
  cases hf : f k with
  | none => exact .inl ⟨rfl, h.empty k hf⟩
  | some v =>
    obtain ⟨hne, hrow⟩ := h.rows k v hf
    obtain ⟨g, cap, cur, rfl, hb, h1, h2, h3, h4⟩ := own_block hrow (by simpa using hne)
    refine .inr ⟨g, cap, h.lt g (h.foot k _ g hf rfl), rfl, fun i hi => ?_, by have := h.small k; omega⟩
    obtain ⟨a1, a2, a3⟩ := clmCells_at (R k) i hi
    have key : ∀ j v, j < (R k).length * 3 → (clmCells (R k))[j]? = some v → w.cell? ⟨g, j, none⟩ = some v := by
      intro j v hj hv
      rw [← h4, List.getElem?_take_of_lt hj] at hv
      simp [World.cell?, hb]
      simpa using hv
    exact ⟨key _ _ (by omega) a1, key _ _ (by omega) a2, key _ _ (by omega) a3⟩

/-- Nothing of the table's has turned. -/
theorem Tab.kept {S S' : Nat → Prop} {w w' : World} {T M : Nat} {f : Int → Option Value} {R : Int → List Clm} (h : Tab S w T M f R) (hk : Kept S' w w') (hd : ∀ b, S b → ¬ S' b) : Tab S w' T M f R where
  hT := h.hT
  hM := h.hM
  foot := h.foot
  lt b hb := Nat.lt_of_lt_of_le (h.lt b hb) hk.size
  cT := (hk.block T (h.lt _ h.hT) (hd _ h.hT)).trans h.cT
  map := h.map.of_block (hk.block M (h.lt _ h.hM) (hd _ h.hM))
  empty := h.empty
  rows k v hf := by
    obtain ⟨h1, h2, h3⟩ := h.rows k v hf
    refine ⟨h1, h2, ?_⟩
    rcases h3 with h3 | ⟨g, cap, cur, rfl, h4, h5, h6⟩
    · exact .inl h3
    · have hg := h.foot k _ g hf rfl
      exact .inr ⟨g, cap, cur, rfl, h4, (hk.block g (h.lt g hg) (hd g hg)).trans h5, h6⟩
  apart := h.apart
  ths := h.ths

theorem Tab.below {S : Nat → Prop} {w w' : World} {T M : Nat} {f : Int → Option Value} {R : Int → List Clm} (h : Tab S w T M f R) (hb : Below w.heap.size w w') : Tab S w' T M f R :=
  h.kept (Kept.of_below (S := fun _ => False) hb) (fun _ _ h => h)

def setRow (R : Int → List Clm) (k : Int) (l : List Clm) : Int → List Clm := fun i => if i = k then l else R i

/-- find, Holds and Claims on a table. -/
theorem Tab.holds {S : Nat → Prop} {w : World} {T M : Nat} {f : Int → Option Value} {R : Int → List Clm} (h : Tab S w T M f R) (th key : Int) :
    Calls Try.prog 16 #[.pointer (some ⟨T, 0, none⟩), .int .i64 th, .int .i64 key] w fun e w' =>
      e = .returned (.bool (findV (R key) th).2.2) ∧ Below w.heap.size w w' := holds_any T th key (R key) w (h.reads key)

theorem Tab.claims {S : Nat → Prop} {w : World} {T M : Nat} {f : Int → Option Value} {R : Int → List Clm} (h : Tab S w T M f R) (key : Int) :
    Calls Try.prog 18 #[.pointer (some ⟨T, 0, none⟩), .int .i64 key] w fun e w' =>
      ∃ v, e = .returned v ∧ w'.ownsRow w.heap.size 39 3 v (R key).length (itemCells (itemsTo (R key) (R key).length)) ∧ Below w.heap.size w w' := by
  refine (callsIn_wide (n := 3)).1 ?_
  refine claims_gen Fence.wide 3 trivial trivial trivial rfl (by omega) _ key (R key) (by have := h.small key; omega) w ?_
  refine iter_stops Fence.wide _ trivial rfl (by omega) _ _ _ T key (R key) _ (by simp) (by simp) ?_ ?_ ((h.reads key).below ?_) (by simp; omega)
  · have := ((Boxed.new (w.alloc (.cells #[.slice none 0 0] 36)) 24 (.pointer (some ⟨T, 0, none⟩))).alloc (.cells #[.int .i64 key] 3)).cell
    rw [World.size_alloc] at this; exact this
  · have := (Boxed.new ((w.alloc (.cells #[.slice none 0 0] 36)).alloc (.cells #[.pointer (some ⟨T, 0, none⟩)] 24)) 3 (.int .i64 key)).cell
    rw [World.size_alloc, World.size_alloc] at this; exact this
  · exact ((((Below.refl _ w).alloc (Nat.le_refl _) _).alloc (by simp) _).alloc (by simp only [World.size_alloc]; omega) _)

theorem claims_nil (key : Int) (w : World) :
    Calls Try.prog 18 #[.pointer none, .int .i64 key] w fun e w' =>
      ∃ a c, e = .returned (.slice a 0 c) ∧ Below w.heap.size w w' := by
  refine (callsIn_wide (n := 3)).1 ?_
  refine (claims_gen Fence.wide 3 trivial trivial trivial rfl (by omega) none key [] (by simp) w ?_).mono ?_
  · refine iter_stops_nil Fence.wide _ trivial rfl _ _ _ _ (by simp) ?_
    have := ((Boxed.new (w.alloc (.cells #[.slice none 0 0] 36)) 24 (.pointer none)).alloc (.cells #[.int .i64 key] 3)).cell
    rw [World.size_alloc] at this; exact this
  · rintro e w' ⟨v, rfl, h1, h2⟩
    rcases h1.2 with ⟨rfl, _⟩ | ⟨g, cap, cur, rfl, _⟩
    · exact ⟨_, _, rfl, h2⟩
    · exact ⟨_, _, rfl, h2⟩
end Go.Proofs.Ythnffhhbdihalaa
