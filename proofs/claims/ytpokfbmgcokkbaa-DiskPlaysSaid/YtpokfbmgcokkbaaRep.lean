/- A disk in memory: what it reads as. Blocks, has, Ops, Read. -/
import Derived.Test.YtpokfbmgcokkbaaBytes
namespace Go.Proofs.Ytpokfbmgcokkbaa
open Go.RowKit Go.Shelf
attribute [local go_sem] Oper.semAt_some

/-- A disk as plain data: so many blocks, what stands for good, what is pending, how many writes and flushes there were. -/
structure AD where
  n : Nat
  done : Int → List Int
  pend : List (Int × List Int)
  ops : Nat

structure PQ where
  blk : Int
  v : Value
  bs : List Int

def lastV (qs : List PQ) (i : Int) : Option Value := qs.foldl (fun acc q => if i = q.blk then some q.v else acc) none
def lastB (ps : List (Int × List Int)) (i : Int) : Option (List Int) := ps.foldl (fun acc p => if i = p.1 then some p.2 else acc) none
def plain (qs : List PQ) : List (Int × List Int) := qs.map fun q => (q.blk, q.bs)
def rdA (a : AD) (i : Int) : List Int := (lastB a.pend i).getD (a.done i)

theorem lastV_snoc (qs : List PQ) (q : PQ) : lastV (qs ++ [q]) = upd (lastV qs) q.blk (some q.v) := by
  funext i
  unfold lastV upd
  rw [List.foldl_append]
  rfl
theorem lastB_snoc (ps : List (Int × List Int)) (p : Int × List Int) (i : Int) : lastB (ps ++ [p]) i = if i = p.1 then some p.2 else lastB ps i := by
  unfold lastB
  rw [List.foldl_append]
  rfl

theorem last_rel {P : PQ → Prop} : ∀ (qs : List PQ) (i : Int) (x : Option Value) (y : Option (List Int)), (∀ q ∈ qs, P q) → ((x = none ∧ y = none) ∨ ∃ q, P q ∧ x = some q.v ∧ y = some q.bs) →
    (qs.foldl (fun acc q => if i = q.blk then some q.v else acc) x = none ∧ (plain qs).foldl (fun acc p => if i = p.1 then some p.2 else acc) y = none) ∨
    ∃ q, P q ∧ qs.foldl (fun acc q => if i = q.blk then some q.v else acc) x = some q.v ∧ (plain qs).foldl (fun acc p => if i = p.1 then some p.2 else acc) y = some q.bs
  | [], i, x, y, _, h => h
  | q :: r, i, x, y, hP, h => by
    simp only [List.foldl_cons, plain, List.map_cons]
    refine last_rel r i _ _ (fun z hz => hP z (List.mem_cons_of_mem _ hz)) ?_
    by_cases e : i = q.blk
    · rw [if_pos e, if_pos e]
      exact .inr ⟨q, hP q (by simp), rfl, rfl⟩
    · rw [if_neg e, if_neg e]; exact h

theorem last_cases {P : PQ → Prop} {qs : List PQ} (h : ∀ q ∈ qs, P q) (i : Int) : (lastV qs i = none ∧ lastB (plain qs) i = none) ∨ ∃ q, P q ∧ lastV qs i = some q.v ∧ lastB (plain qs) i = some q.bs :=
  last_rel qs i none none h (.inl ⟨rfl, rfl⟩)

def qcells (qs : List PQ) : List Value := qs.flatMap fun q => [.int .i64 q.blk, q.v]
theorem qcells_length (qs : List PQ) : (qcells qs).length = qs.length * 2 := by
  induction qs with
  | nil => rfl
  | cons c r ih => simp only [qcells, List.flatMap_cons, List.length_append, List.length_cons, List.length_nil] at ih ⊢; omega
theorem qcells_snoc (qs : List PQ) (q : PQ) : qcells (qs ++ [q]) = qcells qs ++ [.int .i64 q.blk, q.v] := by simp [qcells]
theorem qcells_at : ∀ (qs : List PQ) (i : Nat) (h : i < qs.length), (qcells qs)[i * 2]? = some (.int .i64 qs[i].blk) ∧ (qcells qs)[i * 2 + 1]? = some qs[i].v
  | [], i, h => by simp at h
  | q :: r, 0, _ => ⟨rfl, rfl⟩
  | q :: r, i + 1, h => by
    obtain ⟨h1, h2⟩ := qcells_at r i (by simpa using h)
    have e : qcells (q :: r) = [.int .i64 q.blk, q.v] ++ qcells r := rfl
    rw [e]
    refine ⟨?_, ?_⟩
    · rw [List.getElem?_append_right (by simp; omega)]; simp only [List.length_cons, List.length_nil, List.getElem_cons_succ]; rw [← h1]; congr 1; omega
    · rw [List.getElem?_append_right (by simp; omega)]; simp only [List.length_cons, List.length_nil, List.getElem_cons_succ]; rw [← h2]; congr 1; omega

/-- v is a block of bytes, in a block of S. -/
def BB (S : Nat → Prop) (w : World) (v : Value) (bs : List Int) : Prop := bs.length = 256 ∧ Row 0 w v bs ∧ ∀ b, v.ownBlock = some b → S b

theorem BB.kept {S : Nat → Prop} {w w' : World} {v : Value} {bs : List Int} (h : BB S w v bs) (hk : ∀ b, S b → b < w.heap.size → w'.heap[b]? = w.heap[b]?) : BB S w' v bs :=
  ⟨h.1, h.2.1.kept fun b hb => hk b (h.2.2 b hb) (h.2.1.lt hb).2, h.2.2⟩
theorem BB.mono {S S' : Nat → Prop} {w : World} {v : Value} {bs : List Int} (h : BB S w v bs) (hs : ∀ b, b < w.heap.size → S b → S' b) : BB S' w v bs :=
  ⟨h.1, h.2.1, fun b hb => hs b (h.2.1.lt hb).2 (h.2.2 b hb)⟩

/-- A slice of pending writes. -/
def PRow (S : Nat → Prop) (w : World) (pv : Value) (qs : List PQ) : Prop := w.ownsRow 0 58 2 pv qs.length (qcells qs) ∧ (∀ b, pv.ownBlock = some b → S b) ∧ ∀ q ∈ qs, BB S w q.v q.bs

structure Good (a : AD) : Prop where
  lo : 128 ≤ a.n
  hi : a.n ≤ 4096
  done : ∀ i, (a.done i).length = 256
  pend : ∀ p ∈ a.pend, p.2.length = 256 ∧ 0 ≤ p.1 ∧ p.1 < a.n
  few : a.pend.length ≤ a.ops

structure DRepAt (S : Nat → Prop) (w : World) (D : Nat) (a : AD) (Md Mn : Nat) (pv : Value) (fd : Int → Option Value) (qs : List PQ) : Prop where
  hD : S D
  hMd : S Md
  hMn : S Mn
  cell : w.heap[D]? = some (.cells #[.int .i64 a.n, .map (some Md), pv, .map (some Mn), .int .i64 a.ops] 51 (0, 0))
  md : IMap w Md fd
  mn : IMap w Mn (lastV qs)
  ne : Md ≠ Mn
  prow : PRow S w pv qs
  pend : a.pend = plain qs
  some_ : ∀ i v, fd i = some v → BB S w v (a.done i)
  none_ : ∀ i, fd i = none → a.done i = fillB 0
  good : Good a

/-- The disk at D, all of it in blocks of S, reads as a. -/
def DRep (S : Nat → Prop) (w : World) (D : Nat) (a : AD) : Prop := ∃ Md Mn pv fd qs, DRepAt S w D a Md Mn pv fd qs

variable {S S' : Nat → Prop} {w w' : World} {D : Nat} {a : AD}

theorem PRow.kept {pv : Value} {qs : List PQ} (h : PRow S w pv qs) (hk : ∀ b, S b → b < w.heap.size → w'.heap[b]? = w.heap[b]?) : PRow S w' pv qs := by
  obtain ⟨⟨h1, h2⟩, h3, h4⟩ := h
  refine ⟨⟨h1, ?_⟩, h3, fun q hq => (h4 q hq).kept hk⟩
  rcases h2 with h6 | ⟨g, cap, cur, rfl, a1, a2, a3⟩
  · exact .inl h6
  · exact .inr ⟨g, cap, cur, rfl, a1, (hk g (h3 g rfl) (Array.getElem?_eq_some_iff.1 a2).1).trans a2, a3⟩

theorem DRepAt.kept {Md Mn : Nat} {pv : Value} {fd : Int → Option Value} {qs : List PQ} (h : DRepAt S w D a Md Mn pv fd qs) (hk : ∀ b, S b → b < w.heap.size → w'.heap[b]? = w.heap[b]?) : DRepAt S w' D a Md Mn pv fd qs :=
  { h with
    cell := (hk D h.hD (Array.getElem?_eq_some_iff.1 h.cell).1).trans h.cell
    md := h.md.of_block (hk Md h.hMd h.md.lt)
    mn := h.mn.of_block (hk Mn h.hMn h.mn.lt)
    prow := h.prow.kept hk
    some_ := fun i v hv => (h.some_ i v hv).kept hk }
theorem DRep.kept (h : DRep S w D a) (hk : ∀ b, S b → b < w.heap.size → w'.heap[b]? = w.heap[b]?) : DRep S w' D a := by
  obtain ⟨Md, Mn, pv, fd, qs, h⟩ := h
  exact ⟨Md, Mn, pv, fd, qs, h.kept hk⟩
theorem DRep.below (h : DRep S w D a) (hb : Below w.heap.size w w') : DRep S w' D a := h.kept fun b _ hl => hb.block b hl
theorem PRow.mono {pv : Value} {qs : List PQ} (h : PRow S w pv qs) (hs : ∀ b, b < w.heap.size → S b → S' b) : PRow S' w pv qs :=
  ⟨h.1, fun b hb => hs b (World.ownsRow.lt h.1 b hb).2 (h.2.1 b hb), fun q hq => (h.2.2 q hq).mono hs⟩
theorem DRepAt.mono {Md Mn : Nat} {pv : Value} {fd : Int → Option Value} {qs : List PQ} (h : DRepAt S w D a Md Mn pv fd qs) (hs : ∀ b, b < w.heap.size → S b → S' b) : DRepAt S' w D a Md Mn pv fd qs :=
  { h with
    hD := hs D (Array.getElem?_eq_some_iff.1 h.cell).1 h.hD
    hMd := hs Md h.md.lt h.hMd
    hMn := hs Mn h.mn.lt h.hMn
    prow := h.prow.mono hs
    some_ := fun i v hv => (h.some_ i v hv).mono hs }
theorem DRep.mono (h : DRep S w D a) (hs : ∀ b, b < w.heap.size → S b → S' b) : DRep S' w D a := by
  obtain ⟨Md, Mn, pv, fd, qs, h⟩ := h
  exact ⟨Md, Mn, pv, fd, qs, h.mono hs⟩
theorem DRep.good (h : DRep S w D a) : Good a := by obtain ⟨_, _, _, _, _, h⟩ := h; exact h.good

/-! Blocks, has, Ops -/
theorem blocks_cell (w : World) (D : Nat) (n : Int) (h : w.cell? ⟨D, 0, none⟩ = some (.int .i64 n)) :
    Calls Try.prog 14 #[.pointer (some ⟨D, 0, none⟩)] w fun e w' => e = .returned (.int .i64 n) ∧ w' = w := by
  go_enter Try.func14, Try.ntmps14
  go_wp2_with fail
  go_ret
  exact ⟨rfl, rfl⟩
theorem blocks_nil (w : World) : Calls Try.prog 14 #[.pointer none] w fun e w' => e = .returned (.int .i64 0) ∧ w' = w := by
  go_enter Try.func14, Try.ntmps14
  go_wp2_with fail
  go_ret
  exact ⟨rfl, rfl⟩
theorem ops_cell (w : World) (D : Nat) (n : Int) (h : w.cell? ⟨D, 4, none⟩ = some (.int .i64 n)) :
    Calls Try.prog 24 #[.pointer (some ⟨D, 0, none⟩)] w fun e w' => e = .returned (.int .i64 n) ∧ w' = w := by
  go_enter Try.func24, Try.ntmps24
  go_wp2_with fail
  go_ret
  exact ⟨rfl, rfl⟩
theorem ops_nil (w : World) : Calls Try.prog 24 #[.pointer none] w fun e w' => e = .returned (.int .i64 0) ∧ w' = w := by
  go_enter Try.func24, Try.ntmps24
  go_wp2_with fail
  go_ret
  exact ⟨rfl, rfl⟩
theorem has_gen (w : World) (p : Option Addr) (n i : Int) (hb : Calls Try.prog 14 #[.pointer p] w fun e w' => e = .returned (.int .i64 n) ∧ w' = w) :
    Calls Try.prog 27 #[.pointer p, .int .i64 i] w fun e w' => e = .returned (.bool (decide (0 ≤ i ∧ i < n))) ∧ w' = w := by
  replace hb := Lib.hid hb
  by_cases h0 : 0 ≤ i
  · by_cases h1 : i < n
    · have hr : decide (0 ≤ i ∧ i < n) = true := by simp [h0, h1]
      rw [hr]
      go_enter Try.func27, Try.ntmps27
      go_wp2_with (go_at_call 14; refine hb.out.mono ?_; rintro e w' ⟨rfl, rfl⟩)
      go_ret
      exact ⟨rfl, rfl⟩
    · have hr : decide (0 ≤ i ∧ i < n) = false := by simp [h1]
      rw [hr]
      go_enter Try.func27, Try.ntmps27
      go_wp2_with (go_at_call 14; refine hb.out.mono ?_; rintro e w' ⟨rfl, rfl⟩)
      go_ret
      exact ⟨by show Ending.returned (Value.bool (decide (i < n))) = _; rw [show decide (i < n) = false by simp; omega], rfl⟩
  · have hr : decide (0 ≤ i ∧ i < n) = false := by simp [h0]
    rw [hr]
    go_enter Try.func27, Try.ntmps27
    go_wp2_with fail
    go_ret
    exact ⟨rfl, rfl⟩
theorem DRep.cell0 (h : DRep S w D a) : w.cell? ⟨D, 0, none⟩ = some (.int .i64 a.n) := by obtain ⟨_, _, _, _, _, h⟩ := h; simp [World.cell?, h.cell]
theorem DRep.cell4 (h : DRep S w D a) : w.cell? ⟨D, 4, none⟩ = some (.int .i64 a.ops) := by obtain ⟨_, _, _, _, _, h⟩ := h; simp [World.cell?, h.cell]
theorem DRep.has (h : DRep S w D a) (i : Int) : Calls Try.prog 27 #[.pointer (some ⟨D, 0, none⟩), .int .i64 i] w fun e w' => e = .returned (.bool (decide (0 ≤ i ∧ i < (a.n : Int)))) ∧ w' = w :=
  has_gen w _ a.n i (blocks_cell w D a.n h.cell0)
end Go.Proofs.Ytpokfbmgcokkbaa
