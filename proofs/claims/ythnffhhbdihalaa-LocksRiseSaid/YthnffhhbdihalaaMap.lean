/- A map with int keys, as a block of the heap: what look-up, store, delete and length do to it. Plain laws of the model, for every program. -/
import Derived.Maps.OwnSet
import Derived.Maps.OwnIn
import Derived.WalkKit
import Derived.RangeFuncRecord
namespace Go.Proofs.Ythnffhhbdihalaa
open Go.RowKit Go.Maps Go.MapKept

/-- All blocks outside S are as they were. -/
structure Kept (S : Nat → Prop) (w w' : World) : Prop where
  os : w'.os = w.os
  tape : w'.tape = w.tape
  output : w'.output = w.output
  size : w.heap.size ≤ w'.heap.size
  block : ∀ k, k < w.heap.size → ¬ S k → w'.heap[k]? = w.heap[k]?

theorem Kept.refl (S : Nat → Prop) (w : World) : Kept S w w := ⟨rfl, rfl, rfl, Nat.le_refl _, fun _ _ _ => rfl⟩
theorem Kept.trans {S : Nat → Prop} {a b c : World} (h : Kept S a b) (k : Kept S b c) : Kept S a c :=
  ⟨k.os.trans h.os, k.tape.trans h.tape, k.output.trans h.output, Nat.le_trans h.size k.size,
    fun i hi hs => (k.block i (Nat.lt_of_lt_of_le hi h.size) hs).trans (h.block i hi hs)⟩
theorem Kept.mono {S S' : Nat → Prop} {a b : World} (h : Kept S a b) (hs : ∀ k, k < a.heap.size → S k → S' k) : Kept S' a b :=
  ⟨h.os, h.tape, h.output, h.size, fun i hi hn => h.block i hi (fun x => hn (hs i hi x))⟩
theorem Kept.of_below {S : Nat → Prop} {a b : World} (h : Below a.heap.size a b) : Kept S a b :=
  ⟨h.os, h.tape, h.output, h.size, fun i hi _ => h.block i hi⟩
theorem Kept.below {S : Nat → Prop} {a b : World} {B : Nat} (h : Kept S a b) (hB : B ≤ a.heap.size) (hs : ∀ k, k < B → ¬ S k) : Below B a b :=
  ⟨h.os, h.tape, h.output, h.size, fun i hi => h.block i (Nat.lt_of_lt_of_le hi hB) (hs i hi)⟩
theorem Kept.of_grown {S : Nat → Prop} {a b : World} {r : Option Nat} (h : a.grownBy b r) (hs : ∀ k, r = some k → k < a.heap.size → S k) : Kept S a b :=
  ⟨h.os, h.tape, h.output, h.size, fun i hi hn => h.block i hi (fun e => hn (hs i e.symm hi))⟩
theorem Kept.drew {S : Nat → Prop} {a b : World} (h : Kept S a b) : Kept S a b.drew := ⟨h.os, h.tape, h.output, h.size, h.block⟩
theorem Kept.alloc {S : Nat → Prop} {a b : World} (h : Kept S a b) (o : Obj) : Kept S a (b.alloc o) :=
  h.trans ⟨rfl, rfl, rfl, by simp, fun k hk _ => Below.heap_alloc _ _ _ hk⟩
theorem Kept.setCell {S : Nat → Prop} {a b : World} (h : Kept S a b) {p : Addr} (hp : p.block < a.heap.size → S p.block) (u : Value) : Kept S a (b.setCell p u) :=
  ⟨h.os, h.tape, h.output, by simpa using h.size, fun k hk hs => (Below.heap_setCell _ _ _ _ (fun e => hs (by rw [e]; exact hp (by rw [← e]; exact hk)))).trans (h.block k hk hs)⟩
theorem Kept.putObj {S : Nat → Prop} {a b : World} (h : Kept S a b) {r : Nat} (hr : r < a.heap.size → S r) (o : Obj) : Kept S a (b.putObj r o) :=
  ⟨h.os, h.tape, h.output, by simpa using h.size, fun k hk hs => (World.putObj_heap_other (fun e => hs (by rw [e]; exact hr (by rw [← e]; exact hk)))).trans (h.block k hk hs)⟩

/-- The entries of a block read as the function f. -/
def EntOk (l : List MapEntry) (f : Int → Option Value) : Prop :=
  (∀ e ∈ l, ∃ k : Int, e.key = .int .i64 k) ∧ l.Pairwise (fun a b => a.key ≠ b.key) ∧ ∀ k v, f k = some v ↔ ∃ e ∈ l, e.key = .int .i64 k ∧ e.val = v

/-- Block M of w is a map with int keys that reads as f. -/
def IMap (w : World) (M : Nat) (f : Int → Option Value) : Prop := ∃ es clock, w.heap[M]? = some (.map es clock) ∧ EntOk es.toList f

theorem IMap.of_block {w w' : World} {M : Nat} {f : Int → Option Value} (h : IMap w M f) (e : w'.heap[M]? = w.heap[M]?) : IMap w' M f := by
  obtain ⟨es, c, h1, h2⟩ := h
  exact ⟨es, c, e.trans h1, h2⟩

theorem EntOk.find {l : List MapEntry} {f : Int → Option Value} (h : EntOk l f) (k : Int) :
    (f k = none ∧ Instr.findNow (.int .i64) (.int .i64 k) l 0 = some none) ∨
    (∃ j e, l[j]? = some e ∧ e.key = .int .i64 k ∧ f k = some e.val ∧ Instr.findNow (.int .i64) (.int .i64 k) l 0 = some (some (j, e.val))) := by
  have hk : ∀ x ∈ l, IsKey (.int .i64) x.key := fun x hx => by obtain ⟨q, hq⟩ := h.1 x hx; rw [hq]; simp [IsKey]
  rcases findNow_spec (d := .int .i64) (k := .int .i64 k) (by simp [IsKey]) l 0 hk with ⟨h1, h2⟩ | ⟨j, e, h1, h2, h3⟩
  · refine .inl ⟨?_, h1⟩
    cases hf : f k with
    | none => rfl
    | some v =>
      obtain ⟨e, he, hek, _⟩ := (h.2.2 k v).1 hf
      exact absurd hek (h2 e he)
  · refine .inr ⟨j, e, h2, h3, (h.2.2 k _).2 ⟨e, List.mem_of_getElem? h2, h3, rfl⟩, ?_⟩
    simpa using h1

section
variable {P : Program} {w : World} {M : Nat} {f : Int → Option Value} {t kt et : TypeId}

theorem IMap.lookup (h : IMap w M f) (ht : P.underlying t = some (.map kt et)) (hk : P.underlying kt = some (.int .i64)) {z : Value} (hz : (zeroValue et).run P w = .ok z w) (k : Int) :
    (Instr.lookup t (.map (some M)) (.int .i64 k) false).run P w = .ok ((f k).getD z) w := by
  obtain ⟨es, clock, hb, ho⟩ := h
  unfold Instr.lookup
  simp only [Sem.run_bind, run_underlying ht, Result.andThen, MapKept.run_getObj_map hb]
  simp only [Sem.run_pure, Result.andThen, Sem.run_bind]
  rw [MapKept.run_checkKey (n := 9999) hk (by simp [IsKey])]
  simp only [Result.andThen]
  rcases ho.find k with ⟨h1, h2⟩ | ⟨j, e, h1, h2, h3, h4⟩
  · rw [MapKept.run_findKey hk h2]
    simp [Result.andThen, hz, h1]
  · rw [MapKept.run_findKey hk h4]
    simp [Result.andThen, h3]

theorem IMap.lookup_ok (h : IMap w M f) (ht : P.underlying t = some (.map kt et)) (hk : P.underlying kt = some (.int .i64)) {z : Value} (hz : (zeroValue et).run P w = .ok z w) (k : Int) :
    (Instr.lookup t (.map (some M)) (.int .i64 k) true).run P w = .ok (.tuple #[(f k).getD z, .bool (f k).isSome]) w := by
  obtain ⟨es, clock, hb, ho⟩ := h
  unfold Instr.lookup
  simp only [Sem.run_bind, run_underlying ht, Result.andThen, MapKept.run_getObj_map hb]
  simp only [Sem.run_pure, Result.andThen, Sem.run_bind]
  rw [MapKept.run_checkKey (n := 9999) hk (by simp [IsKey])]
  simp only [Result.andThen]
  rcases ho.find k with ⟨h1, h2⟩ | ⟨j, e, h1, h2, h3, h4⟩
  · rw [MapKept.run_findKey hk h2]
    simp [Result.andThen, hz, h1]
  · rw [MapKept.run_findKey hk h4]
    simp [Result.andThen, h3]

/-- f with k told v. -/
def upd (f : Int → Option Value) (k : Int) (v : Option Value) : Int → Option Value := fun i => if i = k then v else f i

theorem keyThatStays_int (k : Int) : (Instr.keyThatStays (.int .i64 k) (.int .i64 k)).run P w = .ok (.int .i64 k) w := by
  simp [Instr.keyThatStays, Instr.sameBits]

theorem IMap.update (h : IMap w M f) (ht : P.underlying t = some (.map kt et)) (hk : P.underlying kt = some (.int .i64)) (k : Int) (v : Value) :
    ∃ o, (Instr.mapUpdate t (.map (some M)) (.int .i64 k) v).run P w = .ok () (w.putObj M o) ∧ IMap (w.putObj M o) M (upd f k (some v)) := by
  obtain ⟨es, clock, hb, ho⟩ := h
  have hlt : M < w.heap.size := (Array.getElem?_eq_some_iff.1 hb).1
  unfold Instr.mapUpdate
  simp only [Sem.run_bind, run_underlying ht, Result.andThen, MapKept.run_getObj_map hb]
  rw [MapKept.run_checkKey (n := 9999) hk (by simp [IsKey])]
  simp only [Result.andThen]
  rcases ho.find k with ⟨h1, h2⟩ | ⟨j, e, h1, h2, h3, h4⟩
  · rw [MapKept.run_findKey hk h2]
    simp only [Result.andThen, MapKept.run_setObj_map _ hb]
    refine ⟨_, rfl, _, _, World.putObj_heap_same hlt, ?_⟩
    have hnew : ∀ e ∈ es.toList, e.key ≠ .int .i64 k := fun e he hek => by
      have := (ho.2.2 k e.val).2 ⟨e, he, hek, rfl⟩
      rw [h1] at this; cases this
    rw [Array.toList_push]
    refine ⟨?_, ?_, ?_⟩
    · intro e he
      rcases List.mem_append.1 he with he | he
      · exact ho.1 e he
      · simp at he; subst he; exact ⟨k, rfl⟩
    · rw [List.pairwise_append]
      refine ⟨ho.2.1, by simp, fun a ha b hb' => ?_⟩
      simp at hb'; subst hb'; exact hnew a ha
    · intro k' v'
      unfold upd
      by_cases hkk : k' = k
      · subst hkk
        rw [if_pos rfl]
        constructor
        · intro hv; cases hv; exact ⟨_, List.mem_append_right _ (List.mem_singleton.2 rfl), rfl, rfl⟩
        · rintro ⟨e, he, hek, hev⟩
          rcases List.mem_append.1 he with he | he
          · exact absurd hek (hnew e he)
          · simp at he; subst he; rw [← hev]
      · rw [if_neg hkk]
        rw [ho.2.2]
        constructor
        · rintro ⟨e, he, hek, hev⟩; exact ⟨e, List.mem_append_left _ he, hek, hev⟩
        · rintro ⟨e, he, hek, hev⟩
          rcases List.mem_append.1 he with he | he
          · exact ⟨e, he, hek, hev⟩
          · simp at he; subst he; simp at hek; exact absurd hek.symm hkk
  · rw [MapKept.run_findKey hk h4]
    have hj : es[j]? = some e := by simpa using h1
    simp only [Result.andThen, Sem.run_bind, hj, Option.map_some, Option.getD_some, h2, keyThatStays_int, MapKept.run_setObj_map _ hb]
    refine ⟨_, rfl, _, _, World.putObj_heap_same hlt, ?_⟩
    have hmod : (es.modify j (fun e => { e with key := .int .i64 k, val := v })).toList = es.toList.set j { e with key := .int .i64 k, val := v } := by
      rw [Array.toList_modify]
      apply List.ext_getElem?
      intro i
      rw [List.getElem?_modify, List.getElem?_set]
      by_cases hi : j = i
      · subst hi
        have : j < es.toList.length := (List.getElem?_eq_some_iff.1 h1).1
        simp [h1, this]
        simpa using this
      · simp [hi]
    rw [hmod]
    have hjl : j < es.toList.length := (List.getElem?_eq_some_iff.1 h1).1
    have hkeys : (es.toList.set j { e with key := .int .i64 k, val := v }).map (·.key) = es.toList.map (·.key) := by
      rw [List.map_set]
      apply List.ext_getElem?
      intro i
      rw [List.getElem?_set]
      split
      · rename_i hi; subst hi
        simp [h1, h2]
        simpa using hjl
      · rfl
    have hpw : (es.toList.set j { e with key := .int .i64 k, val := v }).Pairwise (fun a b => a.key ≠ b.key) := by
      have a1 := (List.pairwise_map (f := fun x : MapEntry => x.key) (R := fun a b => a ≠ b) (l := es.toList)).2 ho.2.1
      rw [← hkeys] at a1
      exact List.pairwise_map.1 a1
    refine ⟨?_, hpw, ?_⟩
    · intro x hx
      rcases List.mem_or_eq_of_mem_set hx with hx | hx
      · exact ho.1 x hx
      · subst hx; exact ⟨k, rfl⟩
    · intro k' v'
      unfold upd
      have hmem : { e with key := .int .i64 k, val := v } ∈ es.toList.set j { e with key := .int .i64 k, val := v } := List.mem_set hjl _
      by_cases hkk : k' = k
      · subst hkk
        rw [if_pos rfl]
        constructor
        · intro hv; cases hv; exact ⟨_, hmem, rfl, rfl⟩
        · rintro ⟨x, hx, hxk, hxv⟩
          by_cases hne : x = { e with key := .int .i64 k', val := v }
          · rw [hne] at hxv; rw [← hxv]
          · exfalso
            obtain ⟨i1, hi1, rfl⟩ := List.getElem_of_mem hx
            obtain ⟨i2, hi2, he2⟩ := List.getElem_of_mem hmem
            have hii : i1 ≠ i2 := fun q => hne (by subst q; exact he2)
            have hpw' := List.pairwise_iff_getElem.1 hpw
            rcases Nat.lt_or_ge i1 i2 with hlt' | hge
            · exact hpw' i1 i2 hi1 hi2 hlt' (by rw [hxk, he2])
            · exact hpw' i2 i1 hi2 hi1 (by omega) (by rw [hxk, he2])
      · rw [if_neg hkk, ho.2.2]
        constructor
        · rintro ⟨x, hx, hxk, hxv⟩
          obtain ⟨i, hi, rfl⟩ := List.getElem_of_mem hx
          have hij : j ≠ i := fun q => by
            subst q
            rw [List.getElem?_eq_getElem hi] at h1
            cases h1
            rw [h2] at hxk; simp at hxk; exact hkk hxk.symm
          refine ⟨es.toList[i], ?_, hxk, hxv⟩
          rw [List.mem_iff_getElem]
          exact ⟨i, by simpa using hi, by rw [List.getElem_set_ne hij]⟩
        · rintro ⟨x, hx, hxk, hxv⟩
          rcases List.mem_or_eq_of_mem_set hx with hx | hx
          · exact ⟨x, hx, hxk, hxv⟩
          · subst hx; simp at hxk; exact absurd hxk.symm hkk

theorem IMap.delete (h : IMap w M f) (ht : P.underlying t = some (.map kt et)) (hk : P.underlying kt = some (.int .i64)) (k : Int) (kt' ty : TypeId) :
    ∃ o, (Builtin.delete_ #[t, kt'] ty #[.map (some M), .int .i64 k]).run P w = .ok (.tuple #[]) (w.putObj M o) ∧ IMap (w.putObj M o) M (upd f k none) := by
  obtain ⟨es, clock, hb, ho⟩ := h
  have hlt : M < w.heap.size := (Array.getElem?_eq_some_iff.1 hb).1
  unfold Builtin.delete_
  simp [Sem.run_bind, run_underlying ht, Result.andThen, MapKept.run_getObj_map hb]
  rw [MapKept.run_checkKey (n := 9999) hk (by simp [IsKey])]
  simp only [Result.andThen]
  rcases ho.find k with ⟨h1, h2⟩ | ⟨j, e, h1, h2, h3, h4⟩
  · rw [MapKept.run_findKey hk h2]
    simp only [Result.andThen, map_eq_pure_bind, Sem.run_bind, MapKept.run_setObj_map _ hb, Sem.run_pure]
    refine ⟨_, rfl, _, _, World.putObj_heap_same hlt, ho.1, ho.2.1, ?_⟩
    intro k' v'
    unfold upd
    by_cases hkk : k' = k
    · subst hkk
      rw [if_pos rfl]
      rw [← ho.2.2, h1]
    · rw [if_neg hkk]; exact ho.2.2 k' v'
  · rw [MapKept.run_findKey hk h4]
    simp only [Result.andThen, map_eq_pure_bind, Sem.run_bind, MapKept.run_setObj_map _ hb, Sem.run_pure]
    refine ⟨_, rfl, _, _, World.putObj_heap_same hlt, ?_⟩
    have hjl : j < es.toList.length := (List.getElem?_eq_some_iff.1 h1).1
    have hjs : j < es.size := by simpa using hjl
    have hel : (es.eraseIdxIfInBounds j).toList = es.toList.eraseIdx j := by
      unfold Array.eraseIdxIfInBounds
      rw [dif_pos hjs]; simp
    rw [hel]
    have hsub : (es.toList.eraseIdx j).Sublist es.toList := List.eraseIdx_sublist _ _
    refine ⟨fun x hx => ho.1 x (hsub.subset hx), ho.2.1.sublist hsub, ?_⟩
    intro k' v'
    unfold upd
    have hpw' := List.pairwise_iff_getElem.1 ho.2.1
    have hj1 : es.toList[j] = e := by rw [List.getElem?_eq_getElem hjl] at h1; exact Option.some.inj h1
    by_cases hkk : k' = k
    · subst hkk
      rw [if_pos rfl]
      constructor
      · intro q; cases q
      · rintro ⟨x, hx, hxk, _⟩
        exfalso
        obtain ⟨i, hi, rfl⟩ := List.getElem_of_mem hx
        rw [List.getElem_eraseIdx] at hxk
        have hi' : i < es.toList.length - 1 := by rw [List.length_eraseIdx_of_lt hjl] at hi; exact hi
        split at hxk
        · rename_i hlt'
          exact hpw' i j (by omega) hjl hlt' (by rw [hxk, hj1, h2])
        · rename_i hge
          exact hpw' j (i + 1) hjl (by omega) (by omega) (by rw [hxk, hj1, h2])
    · rw [if_neg hkk, ho.2.2]
      constructor
      · rintro ⟨x, hx, hxk, hxv⟩
        refine ⟨x, ?_, hxk, hxv⟩
        obtain ⟨i, hi, rfl⟩ := List.getElem_of_mem hx
        rw [List.mem_eraseIdx_iff_getElem]
        refine ⟨i, hi, fun q => ?_, rfl⟩
        subst q
        rw [hj1, h2] at hxk; simp at hxk; exact hkk hxk.symm
      · rintro ⟨x, hx, hxk, hxv⟩
        exact ⟨x, hsub.subset hx, hxk, hxv⟩

theorem IMap.made (w : World) : IMap (w.alloc (.map #[] 0)) w.heap.size (fun _ => none) :=
  ⟨#[], 0, World.alloc_heap_new w _, by simp, by simp, by simp⟩

theorem IMap.lt (h : IMap w M f) : M < w.heap.size := by obtain ⟨_, _, hb, _⟩ := h; exact (Array.getElem?_eq_some_iff.1 hb).1

end
end Go.Proofs.Ythnffhhbdihalaa
