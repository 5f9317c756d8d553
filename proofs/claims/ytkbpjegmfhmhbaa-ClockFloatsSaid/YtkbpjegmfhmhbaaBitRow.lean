/- Rows of bits in memory: the reference's numbers. -/
import Derived.Test.YtkbpjegmfhmhbaaSignWalk
import Derived.Maps.AppendAt
import Derived.Deep.AppendLies
import Derived.Laws.Pointers
import Derived.Deep.OwnRows
import Derived.RangeFuncBox
namespace Go.Proofs.Ytkbpjegmfhmhbaa
open Go.RowKit Go.Shelf
attribute [local go_sem] Oper.semAt_some

theorem info4 : (Try.prog.info? 4).map (fun i => (i.zero, i.size, i.bytes)) = some (some (.bool false), 1, 1) := by kernel_rfl
theorem info_parts {t : TypeId} {z : Value} {s b : Nat} (h : (Try.prog.info? t).map (fun i => (i.zero, i.size, i.bytes)) = some (some z, s, b)) : ∃ i, Try.prog.info? t = some i ∧ i.zero = some z ∧ i.size = s ∧ i.bytes = b := by
  obtain ⟨i, hi, hzz⟩ := Option.map_eq_some_iff.1 h
  simp only [Prod.mk.injEq] at hzz
  exact ⟨i, hi, hzz.1, hzz.2.1, hzz.2.2⟩

def bcells (bs : List Bool) : List Value := bs.map (.bool ·)
/-- v is a row of the call's own with the bits bs, from block n on. -/
def Row (n : Nat) (w : World) (v : Value) (bs : List Bool) : Prop := w.ownsRow n 4 1 v bs.length (bcells bs)
/-- A row with the bits bs, wherever it lies. -/
def Bts (w : World) (v : Value) (bs : List Bool) : Prop :=
  ∃ ad cap, v = .slice ad bs.length cap ∧ bs.length ≤ cap ∧ cap ≤ maxLen ∧ ∀ i (h : i < bs.length), ∃ g o, ad = some ⟨g, o, none⟩ ∧ w.cell? ⟨g, o + i, none⟩ = some (.bool bs[i])

theorem Row.bts {n : Nat} {w : World} {v : Value} {bs : List Bool} (h : Row n w v bs) : Bts w v bs := by
  rcases h.2 with ⟨rfl, h0⟩ | ⟨g, cap, cur, rfl, _, hb, h1, h2, h3, h4⟩
  · exact ⟨none, 0, by rw [h0], by omega, by unfold maxLen; omega, fun i hi => by omega⟩
  · refine ⟨_, cap, rfl, h1, h2, fun i hi => ⟨g, 0, rfl, ?_⟩⟩
    have : (cur.toList.take (bs.length * 1))[i]? = some (.bool bs[i]) := by rw [h4]; simp [bcells, hi]
    rw [List.getElem?_take_of_lt (by omega)] at this
    simp [World.cell?, hb]
    simpa using this
theorem cell_lt {w : World} {g o : Nat} {v : Value} (h : w.cell? ⟨g, o, none⟩ = some v) : g < w.heap.size := by
  rcases Nat.lt_or_ge g w.heap.size with hlt | hge
  · exact hlt
  · simp [World.cell?, Array.getElem?_eq_none hge] at h
theorem Bts.below {w w' : World} {v : Value} {bs : List Bool} (h : Bts w v bs) (hb : Below w.heap.size w w') : Bts w' v bs := by
  obtain ⟨ad, cap, rfl, h1, h2, hc⟩ := h
  refine ⟨ad, cap, rfl, h1, h2, fun i hi => ?_⟩
  obtain ⟨g, o, rfl, hg⟩ := hc i hi
  refine ⟨g, o, rfl, ?_⟩
  rw [← hg]
  have := hb.block g (cell_lt hg)
  unfold World.cell?
  simp [this]
theorem Row.kept {n : Nat} {w w' : World} {v : Value} {bs : List Bool} (h : Row n w v bs) (hk : ∀ b, v.ownBlock = some b → w'.heap[b]? = w.heap[b]?) : Row n w' v bs := by
  refine ⟨h.1, ?_⟩
  rcases h.2 with h6 | ⟨g, cap, cur, rfl, a1, a2, a3⟩
  · exact .inl h6
  · exact .inr ⟨g, cap, cur, rfl, a1, (hk g rfl).trans a2, a3⟩
theorem Row.lt {n : Nat} {w : World} {v : Value} {bs : List Bool} (h : Row n w v bs) {b : Nat} (hb : v.ownBlock = some b) : n ≤ b ∧ b < w.heap.size := World.ownsRow.lt h b hb
theorem Row.below {n : Nat} {w w' : World} {v : Value} {bs : List Bool} (h : Row n w v bs) (hb : Below w.heap.size w w') : Row n w' v bs := h.kept fun b hv => hb.block b (h.lt hv).2
theorem Row.base {n n' : Nat} {w : World} {v : Value} {bs : List Bool} (h : Row n w v bs) (hn : n' ≤ n) : Row n' w v bs := by
  refine ⟨h.1, ?_⟩
  rcases h.2 with h6 | ⟨g, cap, cur, rfl, a1, a2⟩
  · exact .inl h6
  · exact .inr ⟨g, cap, cur, rfl, Nat.le_trans hn a1, a2⟩
theorem Row.nil (n : Nat) (w : World) : Row n w (.slice none 0 0) [] := World.ownsRow_nil _ _ _ _
theorem Row.form {n : Nat} {w : World} {v : Value} {bs : List Bool} (h : Row n w v bs) : ∃ ad cap, v = .slice ad bs.length cap := by
  rcases h.2 with ⟨rfl, h0⟩ | ⟨g, cap, cur, rfl, _⟩
  · exact ⟨none, 0, by rw [h0]⟩
  · exact ⟨_, _, rfl⟩
/-- What an append leaves: the row's own block alone is another, and new ones. -/
theorem grown_below {n : Nat} {w w' : World} {v : Value} {bs : List Bool} (h : Row n w v bs) (hn : n ≤ w.heap.size) (hg : w.grownBy w' v.ownBlock) : Below n w w' :=
  ⟨hg.os, hg.tape, hg.output, hg.size, fun k hk => hg.block k (by omega) (fun e => by have := (h.lt e.symm).1; omega)⟩

theorem grown_alloc {n : Nat} {w w' : World} {o : Obj} {v : Value} {bs : List Bool} (h : Row n w v bs) (hn : n ≤ w.heap.size) (hg : (w.alloc o).grownBy w' v.ownBlock) : Below n w w' :=
  ((Below.refl n w).alloc hn o).trans ⟨hg.os, hg.tape, hg.output, hg.size, fun k hk => hg.block k (by simp; omega) (fun e => by have := (h.lt e.symm).1; omega)⟩

def bn : List Bool → Nat
  | [] => 0
  | b :: t => b.toNat + 2 * bn t
theorem bn_append (a b : List Bool) : bn (a ++ b) = bn a + 2 ^ a.length * bn b := by
  induction a with
  | nil => simp [bn]
  | cons x t ih =>
    rw [List.cons_append, bn, ih, bn, List.length_cons, Nat.pow_succ]
    rw [Nat.mul_add, ← Nat.mul_assoc, Nat.mul_comm 2 (2 ^ t.length)]
    omega
theorem bn_lt (a : List Bool) : bn a < 2 ^ a.length := by
  induction a with
  | nil => simp [bn]
  | cons x t ih =>
    rw [bn, List.length_cons, Nat.pow_succ]
    have : x.toNat ≤ 1 := by cases x <;> decide
    omega
theorem bn_one (b : Bool) : bn [b] = b.toNat := by simp [bn]

def atB (bs : List Bool) (i : Int) : Bool := if 0 ≤ i then bs.getD i.toNat false else false
end Go.Proofs.Ytkbpjegmfhmhbaa
