/- A map with int keys, as a block of the heap: what look-up, store, delete and length do to it. Plain laws of the model, for every program. -/
import Derived.Maps.OwnSet
import Derived.Maps.OwnIn
import Derived.WalkKit
import Derived.RangeFuncRecord
import Derived.Maps.RangeRun
namespace Go.Proofs.Ytpokfbmgcokkbaa
open Go.RowKit Go.Maps Go.MapKept

/-- All blocks outside S are as they were. -/
structure Kept (S : Nat → Prop) (w w' : World) : Prop where
  os : w'.os = w.os
  tape : w'.tape = w.tape
  output : w'.output = w.output
  size : w.heap.size ≤ w'.heap.size
  block : ∀ k, k < w.heap.size → ¬ S k → w'.heap[k]? = w.heap[k]?

theorem Kept.refl (S : Nat → Prop) (w : World) : Kept S w w := ⟨rfl, rfl, rfl, Nat.le_refl _, fun _ _ _ => rfl⟩
theorem Kept.trans {S : Nat → Prop} {a b c : World} (h : Kept S a b) (k : Kept S b c) : Kept S a c :=
  ⟨k.os.trans h.os, k.tape.trans h.tape, k.output.trans h.output, Nat.le_trans h.size k.size,
    fun i hi hs => (k.block i (Nat.lt_of_lt_of_le hi h.size) hs).trans (h.block i hi hs)⟩
theorem Kept.mono {S S' : Nat → Prop} {a b : World} (h : Kept S a b) (hs : ∀ k, k < a.heap.size → S k → S' k) : Kept S' a b :=
  ⟨h.os, h.tape, h.output, h.size, fun i hi hn => h.block i hi (fun x => hn (hs i hi x))⟩
theorem Kept.of_below {S : Nat → Prop} {a b : World} (h : Below a.heap.size a b) : Kept S a b :=
  ⟨h.os, h.tape, h.output, h.size, fun i hi _ => h.block i hi⟩
theorem Kept.below {S : Nat → Prop} {a b : World} {B : Nat} (h : Kept S a b) (hB : B ≤ a.heap.size) (hs : ∀ k, k < B → ¬ S k) : Below B a b :=
  ⟨h.os, h.tape, h.output, h.size, fun i hi => h.block i (Nat.lt_of_lt_of_le hi hB) (hs i hi)⟩
theorem Kept.of_grown {S : Nat → Prop} {a b : World} {r : Option Nat} (h : a.grownBy b r) (hs : ∀ k, r = some k → k < a.heap.size → S k) : Kept S a b :=
  ⟨h.os, h.tape, h.output, h.size, fun i hi hn => h.block i hi (fun e => hn (hs i e.symm hi))⟩
theorem Kept.drew {S : Nat → Prop} {a b : World} (h : Kept S a b) : Kept S a b.drew := ⟨h.os, h.tape, h.output, h.size, h.block⟩
theorem Kept.alloc {S : Nat → Prop} {a b : World} (h : Kept S a b) (o : Obj) : Kept S a (b.alloc o) :=
  h.trans ⟨rfl, rfl, rfl, by simp, fun k hk _ => Below.heap_alloc _ _ _ hk⟩
theorem Kept.setCell {S : Nat → Prop} {a b : World} (h : Kept S a b) {p : Addr} (hp : p.block < a.heap.size → S p.block) (u : Value) : Kept S a (b.setCell p u) :=
  ⟨h.os, h.tape, h.output, by simpa using h.size, fun k hk hs => (Below.heap_setCell _ _ _ _ (fun e => hs (by rw [e]; exact hp (by rw [← e]; exact hk)))).trans (h.block k hk hs)⟩
theorem Kept.putObj {S : Nat → Prop} {a b : World} (h : Kept S a b) {r : Nat} (hr : r < a.heap.size → S r) (o : Obj) : Kept S a (b.putObj r o) :=
  ⟨h.os, h.tape, h.output, by simpa using h.size, fun k hk hs => (World.putObj_heap_other (fun e => hs (by rw [e]; exact hr (by rw [← e]; exact hk)))).trans (h.block k hk hs)⟩

/-- The entries of a block read as the function f. -/
def EntOk (l : List MapEntry) (f : Int → Option Value) : Prop :=
  (∀ e ∈ l, ∃ k : Int, e.key = .int .i64 k) ∧ l.Pairwise (fun a b => a.key ≠ b.key) ∧ ∀ k v, f k = some v ↔ ∃ e ∈ l, e.key = .int .i64 k ∧ e.val = v

/-- Each entry bears a stamp of its own, elder than the clock. -/
def Born (es : Array MapEntry) (clock : Nat) : Prop := (∀ x ∈ es.toList, x.born < clock) ∧ (es.toList.map (·.born)).Nodup

theorem born_push {es : Array MapEntry} {clock : Nat} (h : Born es clock) (key val : Value) : Born (es.push { key, val, born := clock }) (clock + 1) := by
  obtain ⟨h1, h2⟩ := h
  refine ⟨?_, ?_⟩
  · intro x hx
    rw [Array.toList_push] at hx
    rcases List.mem_append.1 hx with hx | hx
    · have := h1 x hx; omega
    · simp at hx; subst hx; exact Nat.lt_succ_self _
  · rw [Array.toList_push, List.map_append, List.nodup_append]
    refine ⟨h2, by simp, fun a ha b hb => ?_⟩
    obtain ⟨x, hx, rfl⟩ := List.mem_map.1 ha
    simp at hb; subst hb
    have := h1 x hx; omega

theorem born_same {es es' : Array MapEntry} {clock : Nat} (h : Born es clock) (he : es'.toList.map (·.born) = es.toList.map (·.born)) : Born es' clock := by
  obtain ⟨h1, h2⟩ := h
  refine ⟨fun x hx => ?_, by rw [he]; exact h2⟩
  have : x.born ∈ es.toList.map (·.born) := by rw [← he]; exact List.mem_map.2 ⟨x, hx, rfl⟩
  obtain ⟨y, hy, e⟩ := List.mem_map.1 this
  rw [← e]; exact h1 y hy

/-- Block M of w is a map with int keys that reads as f. -/
def IMap (w : World) (M : Nat) (f : Int → Option Value) : Prop := ∃ es clock, w.heap[M]? = some (.map es clock) ∧ EntOk es.toList f ∧ Born es clock

theorem IMap.of_block {w w' : World} {M : Nat} {f : Int → Option Value} (h : IMap w M f) (e : w'.heap[M]? = w.heap[M]?) : IMap w' M f := by
  obtain ⟨es, c, h1, h2, h3⟩ := h
  exact ⟨es, c, e.trans h1, h2, h3⟩

theorem EntOk.find {l : List MapEntry} {f : Int → Option Value} (h : EntOk l f) (k : Int) :
    (f k = none ∧ Instr.findNow (.int .i64) (.int .i64 k) l 0 = some none) ∨
    (∃ j e, l[j]? = some e ∧ e.key = .int .i64 k ∧ f k = some e.val ∧ Instr.findNow (.int .i64) (.int .i64 k) l 0 = some (some (j, e.val))) := by
  have hk : ∀ x ∈ l, IsKey (.int .i64) x.key := fun x hx => by obtain ⟨q, hq⟩ := h.1 x hx; rw [hq]; simp [IsKey]
  rcases findNow_spec (d := .int .i64) (k := .int .i64 k) (by simp [IsKey]) l 0 hk with ⟨h1, h2⟩ | ⟨j, e, h1, h2, h3⟩
  · refine .inl ⟨?_, h1⟩
    cases hf : f k with
    | none => rfl
    | some v =>
      obtain ⟨e, he, hek, _⟩ := (h.2.2 k v).1 hf
      exact absurd hek (h2 e he)
  · refine .inr ⟨j, e, h2, h3, (h.2.2 k _).2 ⟨e, List.mem_of_getElem? h2, h3, rfl⟩, ?_⟩
    simpa using h1

section
variable {P : Program} {w : World} {M : Nat} {f : Int → Option Value} {t kt et : TypeId}

theorem IMap.lookup (h : IMap w M f) (ht : P.underlying t = some (.map kt et)) (hk : P.underlying kt = some (.int .i64)) {z : Value} (hz : (zeroValue et).run P w = .ok z w) (k : Int) :
    (Instr.lookup t (.map (some M)) (.int .i64 k) false).run P w = .ok ((f k).getD z) w := by
  obtain ⟨es, clock, hb, ho, hbn⟩ := h
  unfold Instr.lookup
  simp only [Sem.run_bind, run_underlying ht, Result.andThen, MapKept.run_getObj_map hb]
  simp only [Sem.run_pure, Result.andThen, Sem.run_bind]
  rw [MapKept.run_checkKey (n := 9999) hk (by simp [IsKey])]
  simp only [Result.andThen]
  rcases ho.find k with ⟨h1, h2⟩ | ⟨j, e, h1, h2, h3, h4⟩
  · rw [MapKept.run_findKey hk h2]
    simp [Result.andThen, hz, h1]
  · rw [MapKept.run_findKey hk h4]
    simp [Result.andThen, h3]

theorem IMap.lookup_ok (h : IMap w M f) (ht : P.underlying t = some (.map kt et)) (hk : P.underlying kt = some (.int .i64)) {z : Value} (hz : (zeroValue et).run P w = .ok z w) (k : Int) :
    (Instr.lookup t (.map (some M)) (.int .i64 k) true).run P w = .ok (.tuple #[(f k).getD z, .bool (f k).isSome]) w := by
  obtain ⟨es, clock, hb, ho, hbn⟩ := h
  unfold Instr.lookup
  simp only [Sem.run_bind, run_underlying ht, Result.andThen, MapKept.run_getObj_map hb]
  simp only [Sem.run_pure, Result.andThen, Sem.run_bind]
  rw [MapKept.run_checkKey (n := 9999) hk (by simp [IsKey])]
  simp only [Result.andThen]
  rcases ho.find k with ⟨h1, h2⟩ | ⟨j, e, h1, h2, h3, h4⟩
  · rw [MapKept.run_findKey hk h2]
    simp [Result.andThen, hz, h1]
  · rw [MapKept.run_findKey hk h4]
    simp [Result.andThen, h3]

/-- f with k told v. -/
def upd (f : Int → Option Value) (k : Int) (v : Option Value) : Int → Option Value := fun i => if i = k then v else f i

theorem keyThatStays_int (k : Int) : (Instr.keyThatStays (.int .i64 k) (.int .i64 k)).run P w = .ok (.int .i64 k) w := by
  simp [Instr.keyThatStays, Instr.sameBits]

theorem IMap.update (h : IMap w M f) (ht : P.underlying t = some (.map kt et)) (hk : P.underlying kt = some (.int .i64)) (k : Int) (v : Value) :
    ∃ o, (Instr.mapUpdate t (.map (some M)) (.int .i64 k) v).run P w = .ok () (w.putObj M o) ∧ IMap (w.putObj M o) M (upd f k (some v)) := by
  obtain ⟨es, clock, hb, ho, hbn⟩ := h
  have hlt : M < w.heap.size := (Array.getElem?_eq_some_iff.1 hb).1
  unfold Instr.mapUpdate
  simp only [Sem.run_bind, run_underlying ht, Result.andThen, MapKept.run_getObj_map hb]
  rw [MapKept.run_checkKey (n := 9999) hk (by simp [IsKey])]
  simp only [Result.andThen]
  rcases ho.find k with ⟨h1, h2⟩ | ⟨j, e, h1, h2, h3, h4⟩
  · rw [MapKept.run_findKey hk h2]
    simp only [Result.andThen, MapKept.run_setObj_map _ hb]
    refine ⟨_, rfl, _, _, World.putObj_heap_same hlt, ?_, born_push hbn _ _⟩
    have hnew : ∀ e ∈ es.toList, e.key ≠ .int .i64 k := fun e he hek => by
      have := (ho.2.2 k e.val).2 ⟨e, he, hek, rfl⟩
      rw [h1] at this; cases this
    rw [Array.toList_push]
    refine ⟨?_, ?_, ?_⟩
    · intro e he
      rcases List.mem_append.1 he with he | he
      · exact ho.1 e he
      · simp at he; subst he; exact ⟨k, rfl⟩
    · rw [List.pairwise_append]
      refine ⟨ho.2.1, by simp, fun a ha b hb' => ?_⟩
      simp at hb'; subst hb'; exact hnew a ha
    · intro k' v'
      unfold upd
      by_cases hkk : k' = k
      · subst hkk
        rw [if_pos rfl]
        constructor
        · intro hv; cases hv; exact ⟨_, List.mem_append_right _ (List.mem_singleton.2 rfl), rfl, rfl⟩
        · rintro ⟨e, he, hek, hev⟩
          rcases List.mem_append.1 he with he | he
          · exact absurd hek (hnew e he)
          · simp at he; subst he; rw [← hev]
      · rw [if_neg hkk]
        rw [ho.2.2]
        constructor
        · rintro ⟨e, he, hek, hev⟩; exact ⟨e, List.mem_append_left _ he, hek, hev⟩
        · rintro ⟨e, he, hek, hev⟩
          rcases List.mem_append.1 he with he | he
          · exact ⟨e, he, hek, hev⟩
          · simp at he; subst he; simp at hek; exact absurd hek.symm hkk
  · rw [MapKept.run_findKey hk h4]
    have hj : es[j]? = some e := by simpa using h1
    simp only [Result.andThen, Sem.run_bind, hj, Option.map_some, Option.getD_some, h2, keyThatStays_int, MapKept.run_setObj_map _ hb]
    refine ⟨_, rfl, _, _, World.putObj_heap_same hlt, ?_, ?_⟩
    rotate_left
    · refine born_same hbn ?_
      rw [Array.toList_modify]
      apply List.ext_getElem?
      intro i
      rw [List.getElem?_map, List.getElem?_map, List.getElem?_modify]
      cases es.toList[i]? <;> simp <;> split <;> rfl
    have hmod : (es.modify j (fun e => { e with key := .int .i64 k, val := v })).toList = es.toList.set j { e with key := .int .i64 k, val := v } := by
      rw [Array.toList_modify]
      apply List.ext_getElem?
      intro i
      rw [List.getElem?_modify, List.getElem?_set]
      by_cases hi : j = i
      · subst hi
        have : j < es.toList.length := (List.getElem?_eq_some_iff.1 h1).1
        simp [h1, this]
        simpa using this
      · simp [hi]
    rw [hmod]
    have hjl : j < es.toList.length := (List.getElem?_eq_some_iff.1 h1).1
    have hkeys : (es.toList.set j { e with key := .int .i64 k, val := v }).map (·.key) = es.toList.map (·.key) := by
      rw [List.map_set]
      apply List.ext_getElem?
      intro i
      rw [List.getElem?_set]
      split
      · rename_i hi; subst hi
        simp [h1, h2]
        simpa using hjl
      · rfl
    have hpw : (es.toList.set j { e with key := .int .i64 k, val := v }).Pairwise (fun a b => a.key ≠ b.key) := by
      have a1 := (List.pairwise_map (f := fun x : MapEntry => x.key) (R := fun a b => a ≠ b) (l := es.toList)).2 ho.2.1
      rw [← hkeys] at a1
      exact List.pairwise_map.1 a1
    refine ⟨?_, hpw, ?_⟩
    · intro x hx
      rcases List.mem_or_eq_of_mem_set hx with hx | hx
      · exact ho.1 x hx
      · subst hx; exact ⟨k, rfl⟩
    · intro k' v'
      unfold upd
      have hmem : { e with key := .int .i64 k, val := v } ∈ es.toList.set j { e with key := .int .i64 k, val := v } := List.mem_set hjl _
      by_cases hkk : k' = k
      · subst hkk
        rw [if_pos rfl]
        constructor
        · intro hv; cases hv; exact ⟨_, hmem, rfl, rfl⟩
        · rintro ⟨x, hx, hxk, hxv⟩
          by_cases hne : x = { e with key := .int .i64 k', val := v }
          · rw [hne] at hxv; rw [← hxv]
          · exfalso
            obtain ⟨i1, hi1, rfl⟩ := List.getElem_of_mem hx
            obtain ⟨i2, hi2, he2⟩ := List.getElem_of_mem hmem
            have hii : i1 ≠ i2 := fun q => hne (by subst q; exact he2)
            have hpw' := List.pairwise_iff_getElem.1 hpw
            rcases Nat.lt_or_ge i1 i2 with hlt' | hge
            · exact hpw' i1 i2 hi1 hi2 hlt' (by rw [hxk, he2])
            · exact hpw' i2 i1 hi2 hi1 (by omega) (by rw [hxk, he2])
      · rw [if_neg hkk, ho.2.2]
        constructor
        · rintro ⟨x, hx, hxk, hxv⟩
          obtain ⟨i, hi, rfl⟩ := List.getElem_of_mem hx
          have hij : j ≠ i := fun q => by
            subst q
            rw [List.getElem?_eq_getElem hi] at h1
            cases h1
            rw [h2] at hxk; simp at hxk; exact hkk hxk.symm
          refine ⟨es.toList[i], ?_, hxk, hxv⟩
          rw [List.mem_iff_getElem]
          exact ⟨i, by simpa using hi, by rw [List.getElem_set_ne hij]⟩
        · rintro ⟨x, hx, hxk, hxv⟩
          rcases List.mem_or_eq_of_mem_set hx with hx | hx
          · exact ⟨x, hx, hxk, hxv⟩
          · subst hx; simp at hxk; exact absurd hxk.symm hkk

theorem IMap.made (w : World) : IMap (w.alloc (.map #[] 0)) w.heap.size (fun _ => none) :=
  ⟨#[], 0, World.alloc_heap_new w _, ⟨by simp, by simp, by simp⟩, by simp, by simp⟩

theorem IMap.clear (h : IMap w M f) (ht : P.underlying t = some (.map kt et)) (ty : TypeId) :
    ∃ o, (Builtin.clear_ #[t] ty #[.map (some M)]).run P w = .ok (.tuple #[]) (w.putObj M o) ∧ IMap (w.putObj M o) M (fun _ => none) := by
  obtain ⟨es, clock, hb, ho, hbn⟩ := h
  have hlt : M < w.heap.size := (Array.getElem?_eq_some_iff.1 hb).1
  refine ⟨.map #[] clock, ?_, #[], clock, World.putObj_heap_same hlt, ⟨by simp, by simp, by simp⟩, by simp, by simp⟩
  simp [Builtin.clear_, run_underlying ht, Result.andThen, MapKept.run_getObj_map hb, MapKept.run_setObj_map _ hb]
  rfl

/-! a range over the map -/
/-- Block r is an iterator over the map in block M, which reads as f; left: the keys that are still to come. -/
def IRange (w : World) (M r : Nat) (f : Int → Option Value) (left : Int → Bool) (cnt : Nat) : Prop :=
  ∃ es clock since seen c0, w.heap[M]? = some (.map es clock) ∧ EntOk es.toList f ∧ Born es clock ∧ w.heap[r]? = some (.mapIter (some M) since seen c0) ∧ (∀ x ∈ es.toList, x.born < since) ∧ (since ≤ c0 ∧ since ≤ clock) ∧
    (∀ x ∈ es.toList, ∀ k : Int, x.key = .int .i64 k → left k = !seen.contains x.born) ∧ (∀ k, left k = true → (f k).isSome = true) ∧ (leftOf es seen).size = cnt

theorem IRange.kept {w' : World} {row : Option Nat} {r : Nat} {left : Int → Bool} {cnt : Nat} (h : IRange w M r f left cnt) (h1 : w'.heap[M]? = w.heap[M]?) (h2 : w'.heap[r]? = w.heap[r]?) : IRange w' M r f left cnt := by
  obtain ⟨es, clock, since, seen, c0, a1, a2, a3, a4, a5⟩ := h
  exact ⟨es, clock, since, seen, c0, h1.trans a1, a2, a3, h2.trans a4, a5⟩

theorem IMap.range (h : IMap w M f) (ht : P.underlying t = some (.map kt et)) :
    ∃ o, (Instr.range t (.map (some M))).run P w = .ok (.pointer (some ⟨w.heap.size, 0, none⟩)) (w.alloc o) ∧ ∃ cnt, IRange (w.alloc o) M w.heap.size f (fun k => (f k).isSome) cnt := by
  obtain ⟨es, clock, hb, ho, hbn⟩ := h
  have hlt : M < w.heap.size := (Array.getElem?_eq_some_iff.1 hb).1
  refine ⟨_, run_range_map w t kt et M es clock ht hb, _, es, clock, clock, #[], clock, (Below.heap_alloc _ _ _ hlt).trans hb, ho, hbn, World.alloc_heap_new _ _, hbn.1, ⟨Nat.le_refl _, Nat.le_refl _⟩, fun x hx k hk => ?_, fun k hk => hk, rfl⟩
  have := (ho.2.2 k x.val).2 ⟨x, hx, hk, rfl⟩
  simp [this]

theorem IRange.next {r : Nat} {left : Int → Bool} {cnt : Nat} (h : IRange w M r f left cnt) (ty : TypeId) :
    ((∀ k, left k = false) ∧ (Instr.next (.pointer (some ⟨r, 0, none⟩)) false ty).run P w = .ok (.tuple #[.bool false]) w) ∨
    ∃ k v w' cnt', f k = some v ∧ left k = true ∧ (Instr.next (.pointer (some ⟨r, 0, none⟩)) false ty).run P w = .ok (.tuple #[.bool true, .int .i64 k, v]) w' ∧ IRange w' M r f (fun x => left x && !(x == k)) cnt' ∧ cnt' < cnt ∧ w.grownBy w' (some r) ∧
      (Instr.entry (.pointer (some ⟨r, 0, none⟩))).run P w' = .ok (.tuple #[.int .i64 k, v]) w' := by
  obtain ⟨es, clock, since, seen, c0, hb, ho, hbn, hr, hold, ⟨hsc, hsk⟩, hl, hls, rfl⟩ := h
  have hne : M ≠ r := fun e => by rw [e, hr] at hb; cases hb
  rcases run_next_at (P := P) w ty r M since c0 seen es clock hr hb hold hsc with ⟨h0, hrun⟩ | ⟨e, he, w1, hal, hrun⟩
  · refine .inl ⟨fun k => ?_, hrun⟩
    cases hk : left k
    · rfl
    · have hs := hls k hk
      cases hf : f k with
      | none => rw [hf] at hs; cases hs
      | some v =>
        obtain ⟨x, hx, hxk, _⟩ := (ho.2.2 k v).1 hf
        rw [hl x hx k hxk, all_seen es seen h0 x hx] at hk
        cases hk
  · obtain ⟨hem, hes⟩ := mem_left he
    obtain ⟨k, hk⟩ := ho.1 e hem
    have hfk := (ho.2.2 k e.val).2 ⟨e, hem, hk, rfl⟩
    rw [hk] at hrun
    have hr1 : w1.heap[r]? = some (.mapIter (some M) since seen c0) := by rcases hal with rfl | rfl <;> exact hr
    have hb1 : w1.heap[M]? = some (.map es clock) := by rcases hal with rfl | rfl <;> exact hb
    have hset := heap_set (o' := .mapIter (some M) since (seen.push e.born) clock) hr1
    have hb' := (hset.2 M hne).trans hb1
    refine .inr ⟨k, e.val, _, _, hfk, by rw [hl e hem k hk, hes]; rfl, hrun, ⟨es, clock, since, seen.push e.born, clock, hb', ho, hbn, hset.1, hold, ⟨hsk, hsk⟩, fun x hx k' hk' => ?_, fun k' hk' => hls k' (by simp at hk'; exact hk'.1), rfl⟩, left_shrinks es seen e he, ?_, ?_⟩
    · show (left k' && !(k' == k)) = _
      rw [hl x hx k' hk', contains_push]
      by_cases hxe : x = e
      · subst hxe
        rw [hk] at hk'
        simp at hk'
        simp [hk']
      · have h1 : (x.born == e.born) = false := by
          rw [beq_eq_false_iff_ne]
          exact fun q => hxe (born_inj hbn.2 hx hem q)
        have h2 : (k' == k) = false := by
          rw [beq_eq_false_iff_ne]
          intro q
          subst q
          obtain ⟨i, hi, rfl⟩ := List.getElem_of_mem hx
          obtain ⟨j, hj, rfl⟩ := List.getElem_of_mem hem
          have hpw := List.pairwise_iff_getElem.1 ho.2.1
          rcases Nat.lt_trichotomy i j with q | q | q
          · exact hpw i j hi hj q (hk'.trans hk.symm)
          · subst q; exact hxe rfl
          · exact hpw j i hj hi q (hk.trans hk'.symm)
        rw [h1, h2]
        simp
    · rcases hal with rfl | rfl <;> exact ⟨rfl, rfl, rfl, by simp [ChangeMaps.setBlock], fun i _ hi => hset.2 i (fun e1 => hi (by rw [e1]))⟩
    · have := run_entry_at (P := P) (ChangeMaps.setBlock w1 r (.mapIter (some M) since (seen.push e.born) clock)) r M since seen es clock e hset.1 hb' hem hbn.2
      rw [hk] at this
      exact this

theorem IMap.lt (h : IMap w M f) : M < w.heap.size := by obtain ⟨_, _, hb, _⟩ := h; exact (Array.getElem?_eq_some_iff.1 hb).1

end
end Go.Proofs.Ytpokfbmgcokkbaa
