/- A disk: Copy. -/
import Derived.Test.YtpokfbmgcokkbaaReadsWalk
namespace Go.Proofs.Ytpokfbmgcokkbaa
open Go.RowKit Go.Shelf Go.Maps
attribute [local go_sem] Oper.semAt_some

variable {w0 w w' : World}

/-- How many rounds of a range are left. -/
def cntOf (w : World) (M r : Nat) : Nat :=
  match w.heap[M]?, w.heap[r]? with
  | some (.map es _), some (.mapIter _ _ seen _) => (leftOf es seen).size
  | _, _ => 0
theorem IRange.cntOf {M r : Nat} {f : Int → Option Value} {left : Int → Bool} {cnt : Nat} (h : IRange w M r f left cnt) : cntOf w M r = cnt := by
  obtain ⟨es, clock, since, seen, c0, h1, _, _, h2, _, _, _, _, h3⟩ := h
  unfold Ytpokfbmgcokkbaa.cntOf
  rw [h1, h2]
  exact h3
theorem IRange.iter {M r : Nat} {f : Int → Option Value} {left : Int → Bool} {cnt : Nat} (h : IRange w M r f left cnt) : ∃ o1 o2 o3 o4, w.heap[r]? = some (.mapIter o1 o2 o3 o4) := by
  obtain ⟨es, clock, since, seen, c0, h1, _, _, h2, _⟩ := h
  exact ⟨_, _, _, _, h2⟩

/-- A copy that is being made. -/
structure CRep (w0 w : World) (E Mx My : Nat) (a : AD) (pv : Value) (fe : Int → Option Value) (qs : List PQ) (m : Nat) : Prop where
  hE : w0.heap.size ≤ E
  hMx : w0.heap.size ≤ Mx
  hMy : w0.heap.size ≤ My
  cell : w.heap[E]? = some (.cells #[.int .i64 a.n, .map (some Mx), pv, .map (some My), .int .i64 a.ops] 51 (0, 0))
  md : IMap w Mx fe
  mn : IMap w My (lastV (qs.take m))
  ne : Mx ≠ My
  prow : PRow (fun b => w0.heap.size ≤ b) w pv qs
  some_ : ∀ i v, fe i = some v → BB (fun b => w0.heap.size ≤ b) w v (a.done i)
  be : Below w0.heap.size w0 w

variable {E Mx My m : Nat} {a : AD} {pv : Value} {fe : Int → Option Value} {qs : List PQ}

theorem CRep.below (h : CRep w0 w E Mx My a pv fe qs m) (hb : Below w.heap.size w w') : CRep w0 w' E Mx My a pv fe qs m :=
  { h with
    cell := (hb.block E (Array.getElem?_eq_some_iff.1 h.cell).1).trans h.cell
    md := h.md.of_block (hb.block Mx h.md.lt)
    mn := h.mn.of_block (hb.block My h.mn.lt)
    prow := h.prow.below' hb
    some_ := fun i v hv => (h.some_ i v hv).kept fun b _ hl => hb.block b hl
    be := h.be.trans (hb.mono h.be.size) }
/-- Only the iterator has turned. -/
theorem CRep.iter {r : Nat} {o1 : Option Nat} {o2 : Nat} {o3 : Array Nat} {o4 : Nat} (h : CRep w0 w E Mx My a pv fe qs m) (hr : w.heap[r]? = some (.mapIter o1 o2 o3 o4)) (hr0 : w0.heap.size ≤ r) (hg : w.grownBy w' (some r)) : CRep w0 w' E Mx My a pv fe qs m := by
  have hc : ∀ (b : Nat) (cur : Array Value) (t : TypeId), w.heap[b]? = some (.cells cur t (0, 0)) → w'.heap[b]? = w.heap[b]? := fun b cur t hb => hg.block b (Array.getElem?_eq_some_iff.1 hb).1 fun e => by
    obtain rfl := Option.some.inj e
    rw [hr] at hb; cases hb
  have hm : ∀ (b : Nat) (f : Int → Option Value), IMap w b f → w'.heap[b]? = w.heap[b]? := fun b f hb => hg.block b hb.lt fun e => by
    obtain rfl := Option.some.inj e
    obtain ⟨es, ck, h1, _⟩ := hb
    rw [hr] at h1; cases h1
  have hbb : ∀ v bs, BB (fun b => w0.heap.size ≤ b) w v bs → BB (fun b => w0.heap.size ≤ b) w' v bs := fun v bs hb => ⟨hb.1, hb.2.1.kept fun b hv => by obtain ⟨cur, h5⟩ := own_cells hb.2.1 hv; exact hc _ _ _ h5, hb.2.2⟩
  refine { h with cell := (hc _ _ _ h.cell).trans h.cell, md := h.md.of_block (hm _ _ h.md), mn := h.mn.of_block (hm _ _ h.mn), prow := ⟨own_kept h.prow.1 fun b hv => by obtain ⟨cur, h5⟩ := own_cells h.prow.1 hv; exact hc _ _ _ h5, h.prow.2.1, fun q hq => hbb _ _ (h.prow.2.2 q hq)⟩, some_ := fun i v hv => hbb _ _ (h.some_ i v hv), be := ?_ }
  exact ⟨hg.os.trans h.be.os, hg.tape.trans h.be.tape, hg.output.trans h.be.output, Nat.le_trans h.be.size hg.size, fun k hk => (hg.block k (Nat.lt_of_lt_of_le hk h.be.size) (fun e => by
    obtain rfl := Option.some.inj e; omega)).trans (h.be.block k hk)⟩
/-- Only one of its two maps has turned. -/
theorem CRep.mapx {o : Obj} {B : Nat} (h : CRep w0 w E Mx My a pv fe qs m) (hB : B = Mx ∨ B = My) {f : Int → Option Value} (hbf : IMap w B f) :
    (∀ v bs, BB (fun b => w0.heap.size ≤ b) w v bs → BB (fun b => w0.heap.size ≤ b) (w.putObj B o) v bs) ∧ PRow (fun b => w0.heap.size ≤ b) (w.putObj B o) pv qs ∧ (w.putObj B o).heap[E]? = w.heap[E]? ∧ Below w0.heap.size w0 (w.putObj B o) := by
  have hc : ∀ (b : Nat) (cur : Array Value) (t : TypeId), w.heap[b]? = some (.cells cur t (0, 0)) → (w.putObj B o).heap[b]? = w.heap[b]? := fun b cur t hb => World.putObj_heap_other (map_other hb hbf)
  have hbb : ∀ v bs, BB (fun b => w0.heap.size ≤ b) w v bs → BB (fun b => w0.heap.size ≤ b) (w.putObj B o) v bs := fun v bs hb => ⟨hb.1, hb.2.1.kept fun b hv => by obtain ⟨cur, h5⟩ := own_cells hb.2.1 hv; exact hc _ _ _ h5, hb.2.2⟩
  refine ⟨hbb, ⟨own_kept h.prow.1 fun b hv => by obtain ⟨cur, h5⟩ := own_cells h.prow.1 hv; exact hc _ _ _ h5, h.prow.2.1, fun q hq => hbb _ _ (h.prow.2.2 q hq)⟩, hc _ _ _ h.cell, ?_⟩
  have hx := h.hMx
  have hy := h.hMy
  refine ⟨h.be.os, h.be.tape, h.be.output, by simpa using h.be.size, fun k hk => (World.putObj_heap_other (fun e => ?_)).trans (h.be.block k hk)⟩
  rcases hB with hB | hB <;> omega
theorem CRep.putx {o : Obj} {k : Int} {v : Value} (h : CRep w0 w E Mx My a pv fe qs m) (him : IMap (w.putObj Mx o) Mx (upd fe k (some v))) (hb : BB (fun b => w0.heap.size ≤ b) w v (a.done k)) : CRep w0 (w.putObj Mx o) E Mx My a pv (upd fe k (some v)) qs m := by
  obtain ⟨h1, h2, h3, h4⟩ := h.mapx (o := o) (.inl rfl) h.md
  refine { h with cell := h3.trans h.cell, md := him, mn := h.mn.of_block (World.putObj_heap_other (Ne.symm h.ne)), prow := h2, some_ := fun i u hu => ?_, be := h4 }
  unfold upd at hu
  by_cases e : i = k
  · simp only [e, if_true] at hu
    obtain rfl := Option.some.inj hu
    rw [e]; exact h1 _ _ hb
  · simp only [e, if_false] at hu
    exact h1 _ _ (h.some_ i u hu)
theorem CRep.puty {o : Obj} (h : CRep w0 w E Mx My a pv fe qs m) (hm : m < qs.length) (him : IMap (w.putObj My o) My (upd (lastV (qs.take m)) qs[m].blk (some qs[m].v))) : CRep w0 (w.putObj My o) E Mx My a pv fe qs (m + 1) := by
  obtain ⟨h1, h2, h3, h4⟩ := h.mapx (o := o) (.inr rfl) h.mn
  refine { h with cell := h3.trans h.cell, md := h.md.of_block (World.putObj_heap_other h.ne), mn := ?_, prow := h2, some_ := fun i u hu => h1 _ _ (h.some_ i u hu), be := h4 }
  rw [List.take_succ_eq_append_getElem hm, lastV_snoc]
  exact him
theorem CRep.rep (h : CRep w0 w E Mx My a pv fe qs qs.length) (hp : a.pend = plain qs) (hn : ∀ i, fe i = none → a.done i = fillB 0) (hg : Good a) : DRep (fun b => w0.heap.size ≤ b) w E a := by
  refine ⟨Mx, My, pv, fe, qs, { hD := h.hE, hMd := h.hMx, hMn := h.hMy, cell := h.cell, md := h.md, mn := ?_, ne := h.ne, prow := h.prow, pend := hp, some_ := h.some_, none_ := hn, good := hg }⟩
  have := h.mn
  rw [List.take_length] at this
  exact this
/-- The copy's list of writes is told. -/
theorem CRep.tell {v : Value} {qs' : List PQ} (h : CRep w0 w E Mx My a (.slice none 0 0) fe [] 0) (hp : PRow (fun b => w0.heap.size ≤ b) w v qs') : CRep w0 (w.setCell ⟨E, 2, none⟩ v) E Mx My a v fe qs' 0 := by
  have hc : ∀ (b : Nat) (cur : Array Value) (t : TypeId), w.heap[b]? = some (.cells cur t (0, 0)) → t ≠ 51 → (w.setCell ⟨E, 2, none⟩ v).heap[b]? = w.heap[b]? := fun b cur t hb ht => Below.heap_setCell _ _ _ _ (fun e => by
    have e' : b = E := e
    rw [e', h.cell] at hb
    simp at hb
    exact ht hb.2.symm)
  have hbb : ∀ u bs, BB (fun b => w0.heap.size ≤ b) w u bs → BB (fun b => w0.heap.size ≤ b) (w.setCell ⟨E, 2, none⟩ v) u bs := fun u bs hb => ⟨hb.1, hb.2.1.kept fun b hv => by obtain ⟨cur, h5⟩ := own_cells hb.2.1 hv; exact hc _ _ _ h5 (by decide), hb.2.2⟩
  have hm : ∀ (b : Nat) (f : Int → Option Value), IMap w b f → (w.setCell ⟨E, 2, none⟩ v).heap[b]? = w.heap[b]? := fun b f hb => Below.heap_setCell _ _ _ _ (Ne.symm (map_other h.cell hb))
  refine { h with cell := ?_, md := h.md.of_block (hm _ _ h.md), mn := h.mn.of_block (hm _ _ h.mn), prow := ⟨own_kept hp.1 fun b hv => by obtain ⟨cur, h5⟩ := own_cells hp.1 hv; exact hc _ _ _ h5 (by decide), hp.2.1, fun q hq => hbb _ _ (hp.2.2 q hq)⟩, some_ := fun i u hu => hbb _ _ (h.some_ i u hu), be := below_setCell h.be h.hE _ }
  rw [setCell_heap _ _ _ _ _ _ h.cell]; rfl

theorem crep_start (w : World) (a : AD) : CRep w (((w.alloc (.map #[] 0)).alloc (.map #[] 0)).alloc (.cells #[.int .i64 a.n, .map (some w.heap.size), .slice none 0 0, .map (some (w.heap.size + 1)), .int .i64 a.ops] 51)).drew (w.heap.size + 1 + 1) w.heap.size (w.heap.size + 1) a (.slice none 0 0) (fun _ => none) [] 0 := by
  have hb : Below w.heap.size w (((w.alloc (.map #[] 0)).alloc (.map #[] 0)).alloc (.cells #[.int .i64 a.n, .map (some w.heap.size), .slice none 0 0, .map (some (w.heap.size + 1)), .int .i64 a.ops] 51)) :=
    (((Below.refl _ w).alloc (Nat.le_refl _) _).alloc (by simp) _).alloc (by simp; omega) _
  refine { hE := by omega, hMx := Nat.le_refl _, hMy := by omega, cell := ?_, md := ?_, mn := ?_, ne := by omega, prow := ⟨World.ownsRow_nil _ _ _ _, fun b hb => by simp [Value.ownBlock] at hb, fun q hq => by cases hq⟩, some_ := (fun i v hv => by cases hv), be := ⟨hb.os, hb.tape, hb.output, hb.size, hb.block⟩ }
  · have := World.alloc_heap_new ((w.alloc (.map #[] 0)).alloc (.map #[] 0)) (.cells #[.int .i64 a.n, .map (some w.heap.size), .slice none 0 0, .map (some (w.heap.size + 1)), .int .i64 a.ops] 51)
    rw [World.size_alloc, World.size_alloc] at this
    exact this
  · exact (IMap.made w).of_block ((Below.heap_alloc _ _ _ (by simp; omega)).trans (Below.heap_alloc _ _ _ (by simp)))
  · have := (IMap.made (w.alloc (.map #[] 0))).of_block (w' := (((w.alloc (.map #[] 0)).alloc (.map #[] 0)).alloc (.cells #[.int .i64 a.n, .map (some w.heap.size), .slice none 0 0, .map (some (w.heap.size + 1)), .int .i64 a.ops] 51)).drew) (Below.heap_alloc _ _ _ (by simp))
    rw [World.size_alloc] at this
    exact this
theorem crep_start' (w : World) (a : AD) : CRep w (((w.alloc (.map #[] 0)).alloc (.map #[] 0)).alloc (.cells #[.int .i64 a.n, .map (some (w.heap.size + 1)), .slice none 0 0, .map (some w.heap.size), .int .i64 a.ops] 51)).drew (w.heap.size + 1 + 1) (w.heap.size + 1) w.heap.size a (.slice none 0 0) (fun _ => none) [] 0 := by
  have hb : Below w.heap.size w (((w.alloc (.map #[] 0)).alloc (.map #[] 0)).alloc (.cells #[.int .i64 a.n, .map (some (w.heap.size + 1)), .slice none 0 0, .map (some w.heap.size), .int .i64 a.ops] 51)) :=
    (((Below.refl _ w).alloc (Nat.le_refl _) _).alloc (by simp) _).alloc (by simp; omega) _
  refine { hE := by omega, hMx := by omega, hMy := Nat.le_refl _, cell := ?_, md := ?_, mn := ?_, ne := by omega, prow := ⟨World.ownsRow_nil _ _ _ _, fun b hb => by simp [Value.ownBlock] at hb, fun q hq => by cases hq⟩, some_ := (fun i v hv => by cases hv), be := ⟨hb.os, hb.tape, hb.output, hb.size, hb.block⟩ }
  · have := World.alloc_heap_new ((w.alloc (.map #[] 0)).alloc (.map #[] 0)) (.cells #[.int .i64 a.n, .map (some (w.heap.size + 1)), .slice none 0 0, .map (some w.heap.size), .int .i64 a.ops] 51)
    rw [World.size_alloc, World.size_alloc] at this
    exact this
  · have := (IMap.made (w.alloc (.map #[] 0))).of_block (w' := (((w.alloc (.map #[] 0)).alloc (.map #[] 0)).alloc (.cells #[.int .i64 a.n, .map (some (w.heap.size + 1)), .slice none 0 0, .map (some w.heap.size), .int .i64 a.ops] 51)).drew) (Below.heap_alloc _ _ _ (by simp))
    rw [World.size_alloc] at this
    exact this
  · exact (IMap.made w).of_block ((Below.heap_alloc _ _ _ (by simp; omega)).trans (Below.heap_alloc _ _ _ (by simp)))

set_option maxRecDepth 100000 in
set_option maxHeartbeats 8000000 in
theorem DRep.copy {S : Nat → Prop} {D : Nat} (h : DRep S w D a) (hop : a.ops ≤ 1000000) :
    Calls Try.prog 18 #[.pointer (some ⟨D, 0, none⟩)] w fun e w' => ∃ E, e = .returned (.pointer (some ⟨E, 0, none⟩)) ∧ DRep (fun b => w.heap.size ≤ b) w' E a ∧ Below w.heap.size w w' := by
  have hb := blocks_cell w D a.n h.cell0
  have hlo := h.good.lo
  have hz : ((a.n : Int) == 0) = false := by simp; omega
  have hgood := h.good
  have hc4 := h.cell4
  have hc0 := h.cell0
  obtain ⟨Md, Mn, pv, fd, qs, hr⟩ := h
  have hql : qs.length ≤ 1000000 := by
    have := hgood.few
    rw [hr.pend] at this; simp [plain] at this; omega
  have hDl : D < w.heap.size := (Array.getElem?_eq_some_iff.1 hr.cell).1
  have hMl := hr.md.lt
  replace hb := Lib.hid hb
  replace hr := Lib.hid hr
  replace hgood := Lib.hid hgood
  have hmm := @run_makeMap Try.prog
  have hk3 : Hid (∀ o1 o2 o3, (((w.alloc o1).alloc o2).alloc o3).drew.cell? ⟨D, 0, none⟩ = some (.int .i64 a.n) ∧ (((w.alloc o1).alloc o2).alloc o3).drew.cell? ⟨D, 4, none⟩ = some (.int .i64 a.ops)) := by
    intro o1 o2 o3
    have h9 : (((w.alloc o1).alloc o2).alloc o3).drew.heap[D]? = w.heap[D]? :=
      ((Below.heap_alloc _ o3 D (by simp; omega)).trans (Below.heap_alloc _ o2 D (by simp; omega))).trans (Below.heap_alloc _ o1 D hDl)
    exact ⟨(World.cell?_of_block (a := ⟨D, 0, none⟩) h9).trans hc0, (World.cell?_of_block (a := ⟨D, 4, none⟩) h9).trans hc4⟩
  go_enter Try.func18, Try.ntmps18
  go_wp2_with (go_at_call 14; refine hb.out.mono ?_; rintro e w' ⟨rfl, rfl⟩)
  go_region_held3 (fun y => y.cell? ⟨D, 0, none⟩ = some (.int .i64 a.n) ∧ y.cell? ⟨D, 4, none⟩ = some (.int .i64 a.ops))
    (first | exact hk3.out _ _ _ | go_keep)
    (fail)
  all_goals
    first
      | (obtain ⟨W, hW⟩ : ∃ W, W = (((w'.alloc (.map #[] 0)).alloc (.map #[] 0)).alloc (.cells #[.int .i64 a.n, .map (some w'.heap.size), .slice none 0 0, .map (some (w'.heap.size + 1)), .int .i64 a.ops] 51)).drew := ⟨_, rfl⟩
         rw [← hW]
         obtain ⟨Mx, My, hcp⟩ : ∃ Mx My, CRep w' W (w'.heap.size + 1 + 1) Mx My a (.slice none 0 0) (fun _ => none) [] 0 := ⟨_, _, by rw [hW]; exact crep_start w' a⟩)
      | (obtain ⟨W, hW⟩ : ∃ W, W = (((w'.alloc (.map #[] 0)).alloc (.map #[] 0)).alloc (.cells #[.int .i64 a.n, .map (some (w'.heap.size + 1)), .slice none 0 0, .map (some w'.heap.size), .int .i64 a.ops] 51)).drew := ⟨_, rfl⟩
         rw [← hW]
         obtain ⟨Mx, My, hcp⟩ : ∃ Mx My, CRep w' W (w'.heap.size + 1 + 1) Mx My a (.slice none 0 0) (fun _ => none) [] 0 := ⟨_, _, by rw [hW]; exact crep_start' w' a⟩)
    obtain ⟨E, hE⟩ : ∃ E, w'.heap.size + 1 + 1 = E := ⟨_, rfl⟩
    rw [hE] at hcp
    simp only [hE]
    have hrW := fun (W : World) (hb : Below w'.heap.size w' W) => hr.out.kept (w' := W) (fun b _ hl => hb.block b hl)
    have e1 : W.cell? ⟨D, 1, none⟩ = some (.map (some Md)) := by have := (hrW _ hcp.be).cell; simp [World.cell?, this]
    obtain ⟨o, hrg, cnt, hir⟩ := (hrW _ hcp.be).md.range (P := Try.prog) Try.underlying48
    have hcp2 := hcp.below ((Below.refl _ W).alloc (Nat.le_refl _) o)
    have hr0 : w'.heap.size ≤ W.heap.size := hcp.be.size
    obtain ⟨r, hrr⟩ : ∃ r, W.heap.size = r := ⟨_, rfl⟩
    rw [hrr] at hrg hir hr0
    replace hcp := Lib.hid hcp
    replace hcp2 := Lib.hid hcp2
    replace hir := Lib.hid hir
    replace hrW := Lib.hid hrW
    replace hE := Lib.hid hE
    replace hW := Lib.hid hW
    replace hrr := Lib.hid hrr
    go_wp2_with fail
    go_loopw [4] (fun _ wr => ∃ (fe : Int → Option Value) (left : Int → Bool) (cnt : Nat), CRep w' wr E Mx My a (.slice none 0 0) fe [] 0 ∧ IRange wr Md r fd left cnt ∧ ∀ i, fe i = none → fd i = none ∨ left i = true) (fun _ wr => cntOf wr Md r)
    case atStart => exact ⟨_, _, _, hcp2.out, hir.out, fun i _ => by cases hfi : fd i <;> simp⟩
    case round =>
      obtain ⟨fe, left, cnt2, hc, hi, hcov⟩ := hrel
      obtain ⟨wo, rfl⟩ : ∃ wo : World, wo = wr := ⟨_, rfl⟩
      have hmeas := hi.cntOf
      obtain ⟨o1, o2, o3, o4, hit⟩ := hi.iter
      rcases hi.next (P := Try.prog) 0 with ⟨hl, hrun⟩ | ⟨k, v, w1, cnt3, hfk, hlk, hrun, hi1, hlt, hgr, hent⟩
      · have hnone : ∀ i, fe i = none → fd i = none := fun i h => by
          rcases hcov i h with h2 | h2
          · exact h2
          · rw [hl i] at h2; cases h2
        have hdn := hrW.out _ hc.be
        have e2 : wo.cell? ⟨D, 2, none⟩ = some pv := by have := hdn.cell; simp [World.cell?, this]
        have hcs := copies_any hdn.prow hql
        replace hcs := Lib.hid hcs
        replace hnone := Lib.hid hnone
        replace hc := Lib.hid hc
        replace hi := Lib.hid hi
        replace hcov := Lib.hid hcov
        replace hmeas := Lib.hid hmeas
        replace hl := Lib.hid hl
        replace hdn := Lib.hid hdn
        clear hit
        go_wp2_with fail
        refine hcs.out.mono ?_; rintro e w2 ⟨v', qs', rfl, hpr, hpl, hb2⟩
        have hc2 := hc.out.below hb2
        have hpr2 := hpr.mono (S' := fun b => w'.heap.size ≤ b) (fun b _ hb => Nat.le_trans hc.out.be.size hb)
        obtain ⟨pa, pc, rfl⟩ := hpr.shape
        have y2 : w2.cell? ⟨E, 2, none⟩ = some (.slice none 0 0) := by simp [World.cell?, hc2.cell]
        have z2 : w2.frozen? ⟨E, 2, none⟩ = false := by simp [World.frozen?, hc2.cell]
        have hc3 := hc2.tell hpr2
        have hE3 := hc3.cell
        have y3 : (w2.setCell ⟨E, 2, none⟩ (.slice pa qs'.length pc)).cell? ⟨E, 2, none⟩ = some (.slice pa qs'.length pc) := by simp [World.cell?, hE3]
        have hql' : qs'.length ≤ 1000000 := by have := congrArg List.length hpl; simp [plain] at this; omega
        replace hc3 := Lib.hid hc3
        replace hc2 := Lib.hid hc2
        replace hpl := Lib.hid hpl
        replace hE3 := Lib.hid hE3
        clear hpr hpr2 hb2 hcs
        go_wp2_with fail
        go_loopw [55] (fun i wr => ∃ m : Nat, m ≤ qs'.length ∧ i = .int .i64 m ∧ CRep w' wr E Mx My a (.slice pa qs'.length pc) fe qs' m) (fun i _ => qs'.length - (intOf i).toNat)
        case atStart => exact ⟨0, Nat.zero_le _, rfl, hc3.out⟩
        case round =>
          obtain ⟨m, hm, rfl, hc4⟩ := hrel
          obtain ⟨wp, rfl⟩ : ∃ wp : World, wp = wr := ⟨_, rfl⟩
          by_cases hlt : m < qs'.length
          · obtain ⟨pg, rfl⟩ := hc4.prow.head hlt
            obtain ⟨f0, f1⟩ := hc4.prow.cells m hlt
            have hqb := hc4.prow.2.2 qs'[m] (List.getElem_mem _)
            obtain ⟨x, v, x0, x1⟩ : ∃ x v, qs'[m].blk = x ∧ qs'[m].v = v := ⟨_, _, rfl, rfl⟩
            rw [x0] at f0
            rw [x1] at f1 hqb
            obtain ⟨vg, vc, rfl⟩ := hqb.shape
            obtain ⟨W1, hW1⟩ : ∃ W1, W1 = wp.alloc (.cells #[.int .i64 x, .slice (some ⟨vg, 0, none⟩) 256 vc] 58) := ⟨_, rfl⟩
            have hb1 : Below wp.heap.size wp W1 := by rw [hW1]; exact (Below.refl _ _).alloc (Nat.le_refl _) _
            have hc5 := hc4.below hb1
            have hnew : W1.heap[wp.heap.size]? = some (.cells #[.int .i64 x, .slice (some ⟨vg, 0, none⟩) 256 vc] 58 (0, 0)) := by rw [hW1]; exact World.alloc_heap_new _ _
            have d1 : W1.cell? ⟨E, 3, none⟩ = some (.map (some My)) := by simp [World.cell?, hc5.cell]
            have d2 : W1.cell? ⟨wp.heap.size, 0, none⟩ = some (.int .i64 x) := by simp [World.cell?, hnew]
            have d3 : W1.cell? ⟨wp.heap.size, 1, none⟩ = some (.slice (some ⟨vg, 0, none⟩) 256 vc) := by simp [World.cell?, hnew]
            have hc6 : CRep w' W1.drew E Mx My a (.slice (some ⟨pg, 0, none⟩) qs'.length pc) fe qs' m := hc5.below ⟨rfl, rfl, rfl, Nat.le_refl _, fun _ _ => rfl⟩
            obtain ⟨om, hmu, him⟩ := hc6.mn.update (P := Try.prog) Try.underlying48 Try.underlying3 x (.slice (some ⟨vg, 0, none⟩) 256 vc)
            have hc7 := hc6.puty (o := om) hlt (by rw [x0, x1]; exact him)
            replace hc7 := Lib.hid hc7
            replace hc6 := Lib.hid hc6
            replace hc5 := Lib.hid hc5
            replace hc4 := Lib.hid hc4
            replace him := Lib.hid him
            replace hW1 := Lib.hid hW1
            replace hnew := Lib.hid hnew
            replace hb1 := Lib.hid hb1
            replace hqb := Lib.hid hqb
            replace x0 := Lib.hid x0
            replace x1 := Lib.hid x1
            go_wp2_with fail
            rw [← hW1.out]
            go_still_tail 8, (by kernel_rfl)
            go_wp2_with fail
            go_roundw
            case rel => exact ⟨m + 1, by omega, by go_num, hc7.out⟩
            case measure => simp [intOf]; omega
          · obtain rfl : m = qs'.length := by omega
            have hfin := hc4.rep (by rw [hpl.out]; exact hr.out.pend) (fun i hi => hr.out.none_ i (hnone.out i hi)) hgood.out
            have hbe := hc4.be
            replace hfin := Lib.hid hfin
            replace hbe := Lib.hid hbe
            clear hc4
            go_wp2_with fail
            go_ret
            exact ⟨_, rfl, hfin.out, hbe.out⟩
      · have hdn := hrW.out _ hc.be
        have hbv := hdn.some_ k v hfk
        have hc1 := hc.iter hit hr0 hgr
        have hbv1 : BB S w1 v (a.done k) := (hrW.out _ hc1.be).some_ k v hfk
        obtain ⟨vg, vc, rfl⟩ := hbv1.shape
        have d1 : w1.cell? ⟨E, 1, none⟩ = some (.map (some Mx)) := by simp [World.cell?, hc1.cell]
        have hcl := clone_any (w := w1.drew) hbv1.2.1 hbv1.1
        have hl256 := hbv1.1
        replace hcl := Lib.hid hcl
        replace hl256 := Lib.hid hl256
        replace hc := Lib.hid hc
        replace hc1 := Lib.hid hc1
        replace hi := Lib.hid hi
        replace hi1 := Lib.hid hi1
        replace hcov := Lib.hid hcov
        replace hmeas := Lib.hid hmeas
        replace hdn := Lib.hid hdn
        replace hfk := Lib.hid hfk
        replace hlk := Lib.hid hlk
        replace hgr := Lib.hid hgr
        replace hlt := Lib.hid hlt
        clear hit hbv hbv1
        go_wp2_with fail
        go_region_held3 (fun y => y.cell? ⟨E, 1, none⟩ = some (.map (some Mx)))
          (first
            | go_keep
            | exact g2.out
            | exact g3.out)
          ((go_at_call 28; ((with_reducible refine hcl.out.mono ?_)); rintro e w2 ⟨v', rfl, hrow, hb2⟩
            have hb2' : Below w1.heap.size w1 w2 := ⟨hb2.os, hb2.tape, hb2.output, hb2.size, hb2.block⟩
            have hc2 := hc1.out.below hb2'
            have g2 := Lib.hid (show w2.cell? ⟨E, 1, none⟩ = some (.map (some Mx)) by simp [World.cell?, hc2.cell])
            obtain ⟨om, hmu, him⟩ := hc2.md.update (P := Try.prog) Try.underlying48 Try.underlying3 k v'
            have hbb : BB (fun b => w'.heap.size ≤ b) w2 v' (a.done k) := ⟨hl256.out, hrow.base (Nat.zero_le _), fun b hb => Nat.le_trans hc1.out.be.size (hrow.lt hb).1⟩
            have hc3 := hc2.putx (o := om) him hbb
            have g3 := Lib.hid (show (w2.putObj Mx om).cell? ⟨E, 1, none⟩ = some (.map (some Mx)) by simp [World.cell?, hc3.cell])
            have hi2 : IRange (w2.putObj Mx om) Md r fd (fun x => left x && !(x == k)) cnt3 := hi1.out.kept (row := none)
              ((World.putObj_heap_other (by have := hc2.hMx; omega)).trans (hb2'.block Md (by have := hc1.out.be.size; omega)))
              ((World.putObj_heap_other (fun e9 => by
                obtain ⟨q1, q2, q3, q4, hit2⟩ := hi1.out.iter
                have h8 := (hb2'.block r (Array.getElem?_eq_some_iff.1 hit2).1).trans hit2
                obtain ⟨es, ck, h7, _⟩ := hc2.md
                rw [← e9, h8] at h7; cases h7)).trans (hb2'.block r (by obtain ⟨q1, q2, q3, q4, hit2⟩ := hi1.out.iter; exact (Array.getElem?_eq_some_iff.1 hit2).1)))
            replace hb2 := Lib.hid hb2
            replace hb2' := Lib.hid hb2'
            replace hc2 := Lib.hid hc2
            replace hc3 := Lib.hid hc3
            replace hi2 := Lib.hid hi2
            replace hbb := Lib.hid hbb
            replace him := Lib.hid him
            replace hrow := Lib.hid hrow))
        all_goals
          go_wp2_with fail
          go_roundw
          case rel =>
            refine ⟨_, _, _, hc3.out, hi2.out, fun i hi9 => ?_⟩
            unfold upd at hi9
            by_cases e9 : i = k
            · simp [e9] at hi9
            · simp only [e9, if_false] at hi9
              rcases hcov.out i hi9 with h8 | h8
              · exact .inl h8
              · exact .inr (by simp [h8, e9])
          case measure => rw [hmeas.out, hi2.out.cntOf]; exact hlt.out
end Go.Proofs.Ytpokfbmgcokkbaa
