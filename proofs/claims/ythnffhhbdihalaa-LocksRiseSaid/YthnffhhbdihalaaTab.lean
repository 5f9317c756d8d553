/- The table of locks as plain data: claims in a row, which of them hold; what a table's blocks look like in memory. -/
import Derived.Test.YthnffhhbdihalaaRows
import Derived.Test.YthnffhhbdihalaaMap
namespace Go.Proofs.Ythnffhhbdihalaa
open Go.RowKit

structure Clm where
  th : Int
  al : Bool

def Clm.v (c : Clm) (h : Bool) : Value := .agg #[.int .i64 c.th, .bool c.al, .bool h]
/-- Are the first i claims all together? -/
def tog (l : List Clm) (i : Nat) : Bool := (l.take i).all (fun c => !c.al)
def holdsAt (l : List Clm) (i : Nat) : Bool := i == 0 || tog l (i + 1)
def clmAt (l : List Clm) (i : Nat) : Clm := (l[i]?).getD ⟨0, false⟩

theorem tog_succ (l : List Clm) (i : Nat) (h : i < l.length) : tog l (i + 1) = (tog l i && !(clmAt l i).al) := by
  unfold tog clmAt
  rw [List.take_succ_eq_append_getElem h, List.all_append, List.getElem?_eq_getElem h]
  simp

/-- Row of claims l lies in block b from its head on. -/
def RowAt (w : World) (b : Nat) (l : List Clm) : Prop :=
  ∀ i, i < l.length → w.cell? ⟨b, i * 3, none⟩ = some (.int .i64 (clmAt l i).th) ∧ w.cell? ⟨b, i * 3 + 1, none⟩ = some (.bool (clmAt l i).al) ∧ w.cell? ⟨b, i * 3 + 2, none⟩ = some (.bool false)

/-- What reading a key's row of table T needs: the row's slice sv holds the claims l, in blocks below n. -/
structure Reads (n : Nat) (w : World) (T : Nat) (key : Int) (l : List Clm) : Prop where
  hT : T < n
  ex : ∃ M f, M < n ∧ w.heap[T]? = some (.cells #[.map (some M)] 58 (0, 0)) ∧ IMap w M f ∧
    ((f key = none ∧ l = []) ∨ ∃ b cap, b < n ∧ f key = some (.slice (some ⟨b, 0, none⟩) l.length cap) ∧ RowAt w b l ∧ l.length < 4611686018427387904)

theorem Reads.below {n : Nat} {w w' : World} {T : Nat} {key : Int} {l : List Clm} (h : Reads n w T key l) (hb : Below n w w') : Reads n w' T key l := by
  obtain ⟨hT, M, f, hM, h1, h2, h3⟩ := h
  refine ⟨hT, M, f, hM, (hb.block T hT).trans h1, h2.of_block (hb.block M hM), ?_⟩
  rcases h3 with h3 | ⟨b, cap, hb', h4, h5, h6⟩
  · exact .inl h3
  · refine .inr ⟨b, cap, hb', h4, fun i hi => ?_, h6⟩
    obtain ⟨a1, a2, a3⟩ := h5 i hi
    exact ⟨(hb.cell (p := ⟨b, _, none⟩) hb').trans a1, (hb.cell (p := ⟨b, _, none⟩) hb').trans a2, (hb.cell (p := ⟨b, _, none⟩) hb').trans a3⟩

abbrev Item := Nat × Clm × Bool
abbrev encItem (x : Item) : Array Value := #[.int .i64 (x.1 : Int), .agg #[.int .i64 x.2.1.th, .bool x.2.1.al, .bool x.2.2]]
def itemAt (l : List Clm) (i : Nat) : Item := (i, clmAt l i, holdsAt l i)
theorem itemAt_eq {l : List Clm} {i : Nat} {th : Int} {al tg : Bool} (h : i < l.length) (h1 : (clmAt l i).th = th) (h2 : (clmAt l i).al = al) (h3 : tog l i = tg) : itemAt l i = (i, ⟨th, al⟩, i == 0 || (tg && !al)) := by
  unfold itemAt holdsAt
  rw [tog_succ l i h, h2, h3, ← h1, ← h2]
def itemsTo (l : List Clm) (k : Nat) : List Item := (List.range k).map (itemAt l)
theorem itemsTo_succ (l : List Clm) (k : Nat) : itemsTo l (k + 1) = itemsTo l k ++ [itemAt l k] := by simp [itemsTo, List.range_succ]
theorem itemsTo_length (l : List Clm) (k : Nat) : (itemsTo l k).length = k := by simp [itemsTo]
end Go.Proofs.Ythnffhhbdihalaa
