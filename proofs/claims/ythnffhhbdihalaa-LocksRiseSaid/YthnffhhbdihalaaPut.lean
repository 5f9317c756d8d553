/- A row put into a table: the table is whole again. -/
import Derived.Test.YthnffhhbdihalaaTable
namespace Go.Proofs.Ythnffhhbdihalaa
open Go.RowKit Go.Shelf

/-- What Ask leaves: block M turned, the key told a row of n cells' claims xs; the row lies where the old one v0 lay, or in a new block. -/
def AskDone (w : World) (M : Nat) (f : Int → Option Value) (key : Int) (v0 : Value) (n : Nat) (xs : List Value) (w' : World) : Prop :=
  ∃ g cap o w1, w' = w1.putObj M o ∧ IMap w' M (upd f key (some (.slice (some ⟨g, 0, none⟩) n cap))) ∧ w1.ownsRow 0 39 3 (.slice (some ⟨g, 0, none⟩) n cap) n xs ∧
    (v0.ownBlock = some g ∨ w.heap.size ≤ g) ∧ g < w1.heap.size ∧ Kept (fun b => v0.ownBlock = some b) w w1

theorem clmCells_append (l : List Clm) (c : Clm) : clmCells (l ++ [c]) = clmCells l ++ [.int .i64 c.th, .bool c.al, .bool false] := by simp [clmCells]

theorem findAt_none {l : List Clm} {th : Int} (h : findAt l th = none) : ∀ c ∈ l, c.th ≠ th := by
  unfold findAt at h
  rw [List.findIdx?_eq_none_iff] at h
  intro c hc
  simpa using h c hc

/-- A block that is a row of the table's after AskDone. -/
theorem AskDone.tab {S : Nat → Prop} {w : World} {T M : Nat} {f : Int → Option Value} {R : Int → List Clm} (ht : Tab S w T M f R) {key : Int} {v0 : Value} (hv0 : (f key).getD (.slice none 0 0) = v0) {l : List Clm} (hl : l ≠ []) {w' : World}
    (hths : (l.map Clm.th).Nodup ∧ ∀ c ∈ l, 1 ≤ c.th ∧ c.th ≤ 64) (h : AskDone w M f key v0 l.length (clmCells l) w') :
    ∃ f' S', Tab S' w' T M f' (setRow R key l) ∧ (∀ b, S' b → S b ∨ w.heap.size ≤ b) ∧ Kept S w w' := by
  obtain ⟨g, cap, o, w1, rfl, him, hown, hat, hlt, hk⟩ := h
  have hv0S : ∀ b, v0.ownBlock = some b → S b := fun b hb => by
    cases hfk : f key with
    | none => rw [hfk] at hv0; rw [← hv0] at hb; cases hb
    | some v => rw [hfk] at hv0; exact ht.foot key v b hfk (by rw [show v = v0 from hv0]; exact hb)
  have hMl := ht.lt _ ht.hM
  have hTl := ht.lt _ ht.hT
  obtain ⟨es, ck, hm, _⟩ := ht.map
  have hTM : T ≠ M := fun e => by have := ht.cT; rw [e, hm] at this; cases this
  -- v0 is no block of another row's, nor T, nor M
  have hv0T : v0.ownBlock ≠ some T := fun e => by
    cases hfk : f key with
    | none => rw [hfk] at hv0; rw [← hv0] at e; cases e
    | some v =>
      rw [hfk] at hv0
      obtain ⟨hne, hrow⟩ := ht.rows key v hfk
      obtain ⟨g, cap, cur, rfl, hgb, _⟩ := own_block hrow (by simpa using hne)
      rw [← hv0] at e; simp [Value.ownBlock] at e; subst e; rw [ht.cT] at hgb; cases hgb
  have hv0M : v0.ownBlock ≠ some M := fun e => by
    cases hfk : f key with
    | none => rw [hfk] at hv0; rw [← hv0] at e; cases e
    | some v =>
      rw [hfk] at hv0
      obtain ⟨hne, hrow⟩ := ht.rows key v hfk
      obtain ⟨g, cap, cur, rfl, hgb, _⟩ := own_block hrow (by simpa using hne)
      rw [← hv0] at e; simp [Value.ownBlock] at e; subst e; rw [hm] at hgb; cases hgb
  have hv0o : ∀ k v, k ≠ key → f k = some v → ∀ b, v.ownBlock = some b → v0.ownBlock ≠ some b := fun k v hk hf b hb e => by
    cases hfk : f key with
    | none => rw [hfk] at hv0; rw [← hv0] at e; cases e
    | some u =>
      rw [hfk] at hv0
      exact ht.apart k key v u hf hfk hk (by rw [hb, show u = v0 from hv0, e])
  have hgM : g ≠ M := fun e => by
    rcases hat with hat | hat
    · exact hv0M (by rw [hat, e])
    · omega
  have hgT : g ≠ T := fun e => by
    rcases hat with hat | hat
    · exact hv0T (by rw [hat, e])
    · omega
  have hgS : S g ∨ w.heap.size ≤ g := hat.imp (hv0S g) id
  have hgo : ∀ k v, k ≠ key → f k = some v → v.ownBlock ≠ some g := fun k v hk hf e => by
    rcases hat with hat | hat
    · exact hv0o k v hk hf g e hat
    · have := ht.lt g (ht.foot k v g hf e); omega
  have hsz : w.heap.size ≤ w1.heap.size := hk.size
  have hlen : l.length ≠ 0 := by simpa using hl
  refine ⟨upd f key (some (.slice (some ⟨g, 0, none⟩) l.length cap)), fun b => S b ∨ b = g, ?_, fun b hb => ?_, ?_⟩
  · refine { hT := .inl ht.hT, hM := .inl ht.hM, map := him, foot := ?_, lt := ?_, cT := ?_, empty := ?_, rows := ?_, apart := ?_, ths := ?_ }
    · intro k v b hf hb
      unfold upd at hf
      by_cases hk' : k = key
      · rw [if_pos hk'] at hf
        obtain rfl := Option.some.inj hf
        simp [Value.ownBlock] at hb
        exact .inr hb.symm
      · rw [if_neg hk'] at hf; exact .inl (ht.foot k v b hf hb)
    · intro b hb
      rw [World.putObj_size]
      rcases hb with hb | rfl
      · have := ht.lt b hb; omega
      · exact hlt
    · exact (World.putObj_heap_other hTM).trans ((hk.block T hTl hv0T).trans ht.cT)
    · intro k hf
      unfold upd at hf
      unfold setRow
      by_cases hk' : k = key
      · rw [if_pos hk'] at hf; cases hf
      · rw [if_neg hk'] at hf ⊢; exact ht.empty k hf
    · intro k v hf
      unfold upd at hf
      unfold setRow
      by_cases hk' : k = key
      · rw [if_pos hk'] at hf ⊢
        obtain rfl := Option.some.inj hf
        refine ⟨hl, hown.1, ?_⟩
        rcases hown.2 with ⟨h1, _⟩ | ⟨g', cap', cur, h1, h2, h3, h4⟩
        · cases h1
        · obtain rfl : g = g' := by simpa using (Value.slice.inj h1).1
          exact .inr ⟨g, cap', cur, h1, h2, (World.putObj_heap_other hgM).trans h3, h4⟩
      · rw [if_neg hk'] at hf ⊢
        obtain ⟨h1, h2, h3⟩ := ht.rows k v hf
        refine ⟨h1, h2, ?_⟩
        rcases h3 with h3 | ⟨g', cap', cur, rfl, h4, h5, h6⟩
        · exact .inl h3
        · have hg'M : g' ≠ M := fun e => by subst e; rw [hm] at h5; cases h5
          refine .inr ⟨g', cap', cur, rfl, h4, (World.putObj_heap_other hg'M).trans ((hk.block g' (ht.lt _ (ht.foot k _ g' hf rfl)) (hv0o k _ hk' hf g' rfl)).trans h5), h6⟩
    · intro k k' v v' hf hf' hne
      unfold upd at hf hf'
      by_cases h1 : k = key
      · rw [if_pos h1] at hf
        obtain rfl := Option.some.inj hf
        rw [if_neg (fun e => hne (h1.trans e.symm))] at hf'
        exact fun e => hgo k' v' (fun e => hne (h1.trans e.symm)) hf' e.symm
      · rw [if_neg h1] at hf
        by_cases h2 : k' = key
        · rw [if_pos h2] at hf'
          obtain rfl := Option.some.inj hf'
          exact hgo k v h1 hf
        · rw [if_neg h2] at hf'
          exact ht.apart k k' v v' hf hf' hne
    · intro k
      unfold setRow
      by_cases h1 : k = key
      · rw [if_pos h1]; exact hths
      · rw [if_neg h1]; exact ht.ths k
  · rcases hb with hb | rfl
    · exact .inl hb
    · exact hgS
  · exact (hk.mono (fun k _ h => hv0S k h)).putObj (fun _ => ht.hM) o

end Go.Proofs.Ythnffhhbdihalaa
