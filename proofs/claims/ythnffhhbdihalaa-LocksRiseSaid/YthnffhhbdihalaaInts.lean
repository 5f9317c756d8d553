/- Numbers, and slices of numbers, among the arguments: opened. -/
import Derived.Test.YthnffhhbdihalaaRiseWalk
import Derived.Deep.Matrix
import Derived.ProofKit
import Derived.OpenShut
namespace Go.Proofs.Ythnffhhbdihalaa
open Go.RowKit Go.Shelf Go.ChangeShapes Go.WideShapes Go.Deep

theorem cell_plain {w : World} {a : Addr} {v : Value} (h : w.cell? (a.add 0) = some v) : a = ⟨a.block, a.off, none⟩ := by
  obtain ⟨b, o, s⟩ := a
  cases s with
  | none => rfl
  | some x =>
    unfold World.cell? Addr.add at h
    simp only [if_true] at h
    split at h
    · simp at h
    · cases h

section
variable {H : Type} {enc : TypeId × Value → H} {w : World}
theorem open_nums {v : Value} {d : DataW H} {p : List MemPlace} (hv : ∃ a len cap, v = .slice a len cap) (h : DataW.Trod enc Try.prog w 0 (fun _ => true) true 44 v d p) : Ints w.heap.size w v := by
  obtain ⟨a0, l0, c0, rfl⟩ := hv
  obtain ⟨fuel, hf⟩ := h
  rcases open_ints Try.underlying44 Try.underlying3 (by kernel_rfl) hf with ⟨hcs, _⟩ | ⟨a, len, cap, zs, hcs, _, hl, hm, hz, _, hc, _⟩
  · have e0 : Value.slice a0 l0 c0 = .slice none 0 0 := by simpa [Value.cells] using hcs
    rw [e0]
    exact ⟨none, 0, 0, rfl, by omega, fun i hi => by omega⟩
  · obtain ⟨rfl, rfl, rfl⟩ : a0 = some a ∧ l0 = len ∧ c0 = cap := by simpa [Value.cells] using hcs
    refine ⟨some a, l0, c0, rfl, by unfold maxLen at hm; omega, fun i hi => ?_⟩
    have hi' : i < zs.length := by rw [hz]; simp; omega
    have hci := hc i hi'
    have hp := cell_plain (hc 0 (by omega))
    have hbl := World.block_lt_of_cell? w _ hci
    generalize zs.getD i 0 = x at hci
    rw [hp] at hci hbl ⊢
    generalize a.block = b at *
    generalize a.off = off at *
    rw [Addr.add_lit] at hci hbl
    exact ⟨b, off, x, rfl, hbl, hci⟩

theorem open_steps {v : Value} {d : DataW H} {p : List MemPlace} (hv : ∃ a len cap, v = .slice a len cap) (h : DataW.Trod enc Try.prog w 0 (fun _ => true) true 43 v d p) : Steps w.heap.size w v := by
  obtain ⟨a0, l0, c0, rfl⟩ := hv
  obtain ⟨fuel, hf⟩ := h
  rcases open_int_rows Try.underlying43 Try.underlying44 Try.underlying3 (by kernel_rfl) (by kernel_rfl) hf with ⟨hcs, _⟩ | ⟨a, len, cap, A, L, C, Z, hcs, _, hl, hm, _, hr⟩
  · have e0 : Value.slice a0 l0 c0 = .slice none 0 0 := by simpa [Value.cells] using hcs
    rw [e0]
    exact ⟨none, 0, 0, rfl, by omega, fun i hi => by omega⟩
  · obtain ⟨rfl, rfl, rfl⟩ : a0 = some a ∧ l0 = len ∧ c0 = cap := by simpa [Value.cells] using hcs
    refine ⟨some a, l0, c0, rfl, by unfold maxLen at hm; omega, fun i hi => ?_⟩
    obtain ⟨hci, h1, h2, _, _, h3, h4⟩ := hr i (by omega)
    have hp := cell_plain (hr 0 (by omega)).1
    have hbl := World.block_lt_of_cell? w _ hci
    rw [hp] at hci hbl ⊢
    generalize a.block = b at *
    generalize a.off = off at *
    rw [Addr.add_lit] at hci hbl
    refine ⟨b, off, A i, L i, C i, rfl, hbl, hci, by unfold maxLen at h2; omega, fun j hj => ?_⟩
    cases hA : A i with
    | none => have := h3 hA; omega
    | some a' =>
      have hcj := (h4 a' hA).2 j (by omega)
      have hp' := cell_plain ((h4 a' hA).2 0 (by omega))
      have hbl' := World.block_lt_of_cell? w _ hcj
      generalize (Z i).getD j 0 = x at hcj
      rw [hp'] at hcj hbl' ⊢
      generalize a'.block = b' at *
      generalize a'.off = off' at *
      rw [Addr.add_lit] at hcj hbl'
      exact ⟨b', off', x, rfl, hbl', hcj⟩
end
end Go.Proofs.Ythnffhhbdihalaa
