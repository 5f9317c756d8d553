/- A script of operations among the arguments: its cells, element by element. -/
import Derived.Test.YthnffhhbdihalaaAwake
import Derived.Deep.Slices
import Derived.Deep.Fields
import Derived.ProofKit
import Derived.OpenShut
namespace Go.Proofs.Ythnffhhbdihalaa
open Go.RowKit Go.Shelf Go.ChangeShapes Go.WideShapes Go.Deep

structure OpD where
  what : Int
  th : Int
  key : Int
  al : Bool

/-- The value v is a slice of the operations os, in a block below n. -/
def Script (n : Nat) (w : World) (v : Value) (os : List OpD) : Prop :=
  ∃ ad cap, v = .slice ad os.length cap ∧ os.length ≤ 9223372036854775807 ∧ ∀ (i : Nat) (h : i < os.length), ∃ b off, ad = some ⟨b, off, none⟩ ∧ b < n ∧
    w.cell? ⟨b, off + i * 4, none⟩ = some (.int .i64 os[i].what) ∧ w.cell? ⟨b, off + i * 4 + 1, none⟩ = some (.int .i64 os[i].th) ∧ w.cell? ⟨b, off + i * 4 + 2, none⟩ = some (.int .i64 os[i].key) ∧ w.cell? ⟨b, off + i * 4 + 3, none⟩ = some (.bool os[i].al)

theorem Script.below {n : Nat} {w w' : World} {v : Value} {os : List OpD} (h : Script n w v os) (hb : Below n w w') : Script n w' v os := by
  obtain ⟨ad, cap, h1, h2, h3⟩ := h
  refine ⟨ad, cap, h1, h2, fun i hi => ?_⟩
  obtain ⟨b, off, e, hbn, c0, c1, c2, c3⟩ := h3 i hi
  exact ⟨b, off, e, hbn, (hb.cell (p := ⟨b, _, none⟩) hbn).trans c0, (hb.cell (p := ⟨b, _, none⟩) hbn).trans c1, (hb.cell (p := ⟨b, _, none⟩) hbn).trans c2, (hb.cell (p := ⟨b, _, none⟩) hbn).trans c3⟩

theorem cell_spot {w : World} {a : Addr} {v : Value} (h : w.cell? a = some v) : a = ⟨a.block, a.off, none⟩ := by
  obtain ⟨b, o, s⟩ := a
  cases s with
  | none => rfl
  | some x =>
    unfold World.cell? at h
    split at h
    · simp at h
    · cases h

section
variable {H : Type} {enc : TypeId × Value → H} {w : World}
theorem open_script {v : Value} {d : DataW H} {p : List MemPlace} (hv : ∃ a len cap, v = .slice a len cap) (h : DataW.Trod enc Try.prog w 0 (fun _ => true) true 22 v d p) : ∃ os, Script w.heap.size w v os := by
  obtain ⟨a0, l0, c0, rfl⟩ := hv
  obtain ⟨fuel, hf⟩ := h
  rcases open_slice Try.underlying22 hf with ⟨hcs, _⟩ | ⟨a, len, cap, m, n, D, Pl, hcs, _, hl, hm, hmm, _, hi⟩
  · have e0 : Value.slice a0 l0 c0 = .slice none 0 0 := by simpa [Value.cells] using hcs
    rw [e0]
    exact ⟨[], none, 0, rfl, by simp, fun i hi => by simp at hi⟩
  · obtain ⟨rfl, rfl, rfl⟩ : a0 = some a ∧ l0 = len ∧ c0 = cap := by simpa [Value.cells] using hcs
    have hml : l0 ≤ m := by rw [hmm]; simp; omega
    have hC : Try.prog.cellsOf 31 = 4 := by kernel_rfl
    have h3 : Try.prog.cellsOf 3 = 1 := by kernel_rfl
    have h4 : Try.prog.cellsOf 4 = 1 := by kernel_rfl
    have hsp : 0 < l0 → a = ⟨a.block, a.off, none⟩ := by
      intro h0
      obtain ⟨cs, hc, _⟩ := hi 0 (by omega)
      rw [hC] at hc
      obtain ⟨_, hcl, hat⟩ := World.cells?_some hc
      have q := hat 0 (by omega)
      rw [List.getElem?_eq_getElem (by omega)] at q
      have q' := cell_spot q
      simpa [Addr.add] using q'
    have hel : ∀ i, i < l0 → ∃ o : OpD, ∃ b off, some a = some (⟨b, off, none⟩ : Addr) ∧ b < w.heap.size ∧
        w.cell? ⟨b, off + i * 4, none⟩ = some (.int .i64 o.what) ∧ w.cell? ⟨b, off + i * 4 + 1, none⟩ = some (.int .i64 o.th) ∧ w.cell? ⟨b, off + i * 4 + 2, none⟩ = some (.int .i64 o.key) ∧ w.cell? ⟨b, off + i * 4 + 3, none⟩ = some (.bool o.al) := by
      intro i hil
      have hsp' := hsp (by omega)
      obtain ⟨cs, hc, ht⟩ := hi i (by omega)
      rw [hC] at hc
      obtain ⟨ys, n', _, _, _, hyl, hf'⟩ := DataW.trod_struct Try.underlying31 ht
      obtain ⟨_, hcl, hat⟩ := World.cells?_some hc
      match cs, hcl with
      | [v0, v1, v2, v3], _ =>
        have k0 := hf' 0 _ rfl
        have k1 := hf' 1 _ rfl
        have k2 := hf' 2 _ rfl
        have k3 := hf' 3 _ rfl
        have hys : ys.length = 4 := hyl
        rw [List.getElem?_eq_getElem (by omega)] at k0 k1 k2 k3
        simp [h3, h4] at k0 k1 k2 k3
        obtain ⟨x0, e0, _, _⟩ := DataW.trod_int Try.underlying3 k0
        obtain ⟨x1, e1, _, _⟩ := DataW.trod_int Try.underlying3 k1
        obtain ⟨x2, e2, _, _⟩ := DataW.trod_int Try.underlying3 k2
        obtain ⟨x3, e3, _⟩ := DataW.trod_bool Try.underlying4 k3
        have a0 := hat 0 (by omega)
        have a1 := hat 1 (by omega)
        have a2 := hat 2 (by omega)
        have a3 := hat 3 (by omega)
        simp only [List.cons.injEq, and_true] at e0 e1 e2 e3
        subst e0 e1 e2 e3
        rw [hsp'] at a0 a1 a2 a3
        rw [hsp']
        generalize a.block = b at *
        generalize a.off = off at *
        simp only [Addr.add_lit] at a0 a1 a2 a3
        have hbl : b < w.heap.size := by
          have := World.block_lt_of_cell? w _ a0
          exact this
        exact ⟨⟨x0, x1, x2, x3⟩, b, off, rfl, hbl, a0, a1, a2, a3⟩
    refine ⟨(List.range l0).map fun i => if h : i < l0 then (hel i h).choose else ⟨0, 0, 0, false⟩, some a, c0, by simp, by simp; unfold maxLen at hm; omega, fun i hi => ?_⟩
    have hil : i < l0 := by simpa using hi
    simp only [List.getElem_map, List.getElem_range, dif_pos hil]
    exact (hel i hil).choose_spec
end
end Go.Proofs.Ythnffhhbdihalaa
