/- A disk: Write. -/
import Derived.Test.YtpokfbmgcokkbaaRead
namespace Go.Proofs.Ytpokfbmgcokkbaa
open Go.RowKit Go.Shelf
attribute [local go_sem] Oper.semAt_some

variable {S S' : Nat → Prop} {w w' : World} {D : Nat} {a : AD}

theorem info58 : (Try.prog.info? 58).map (fun i => (i.zero, i.size, i.bytes)) = some (some (.agg #[.int .i64 0, .slice none 0 0]), 2, 32) := by kernel_rfl

theorem row_other {w : World} {n : Nat} {e t : TypeId} {u : Value} {m s B : Nat} {xs : List Value} {cur : Array Value} (hu : w.ownsRow n e s u m xs) (hb : w.heap[B]? = some (.cells cur t (0, 0))) (ht : t ≠ e) : u.ownBlock ≠ some B := by
  intro h
  rcases hu.2 with ⟨rfl, _⟩ | ⟨g, cap, cur', rfl, _, hgb, _⟩
  · simp [Value.ownBlock] at h
  · simp [Value.ownBlock] at h
    subst h
    rw [hgb] at hb
    simp at hb
    exact ht hb.2.symm
theorem row_map {w : World} {n : Nat} {e : TypeId} {u : Value} {m s B : Nat} {xs : List Value} {f : Int → Option Value} (hu : w.ownsRow n e s u m xs) (hb : IMap w B f) : u.ownBlock ≠ some B := by
  intro h
  obtain ⟨es, ck, hm, _⟩ := hb
  rcases hu.2 with ⟨rfl, _⟩ | ⟨g, cap, cur', rfl, _, hgb, _⟩
  · simp [Value.ownBlock] at h
  · simp [Value.ownBlock] at h
    subst h
    rw [hgb] at hm
    cases hm
theorem Row.shape6 {n : Nat} {w : World} {v : Value} {bs : List Int} (h : Row n w v bs) (hl : bs.length = 256) : ∃ g cap, v = .slice (some ⟨g, 0, none⟩) 256 cap ∧ n ≤ g ∧ g < w.heap.size := by
  obtain ⟨g, cap, cur, rfl, hn, hg, _⟩ := h.shape (by omega)
  exact ⟨g, cap, by rw [hl], hn, (Array.getElem?_eq_some_iff.1 hg).1⟩
theorem PRow.below' {S : Nat → Prop} {w w' : World} {pv : Value} {qs : List PQ} (h : PRow S w pv qs) (hb : Below w.heap.size w w') : PRow S w' pv qs := h.kept fun b _ hl => hb.block b hl
theorem map_other {w : World} {B C : Nat} {f : Int → Option Value} {cur : Array Value} {t : TypeId} (hb : w.heap[B]? = some (.cells cur t (0, 0))) (hm : IMap w C f) : B ≠ C := by
  rintro rfl
  obtain ⟨es, ck, hm, _⟩ := hm
  rw [hb] at hm; cases hm

section
variable {Md Mn : Nat} {pv : Value} {fd : Int → Option Value} {qs : List PQ}
/-- Only D's own block, the map of the newest and the pending writes' row have turned. -/
def Turned (w w' : World) (D Mn : Nat) (pv : Value) : Prop := ∀ b, b < w.heap.size → b ≠ D → b ≠ Mn → pv.ownBlock ≠ some b → w'.heap[b]? = w.heap[b]?

theorem DRepAt.bb (h : DRepAt S w D a Md Mn pv fd qs) (ht : Turned w w' D Mn pv) {v : Value} {bs : List Int} (hb : BB S w v bs) : BB S w' v bs := by
  obtain ⟨g, cap, cur, rfl, _, hg, _⟩ := hb.2.1.shape (by have := hb.1; omega)
  refine ⟨hb.1, hb.2.1.kept fun b hv => ?_, hb.2.2⟩
  simp [Value.ownBlock] at hv
  subst hv
  refine ht g (Array.getElem?_eq_some_iff.1 hg).1 (fun e => ?_) (fun e => ?_) (row_other h.prow.1 hg (by decide))
  · have := h.cell
    rw [← e, hg] at this
    simp at this
  · have := h.mn
    rw [← e] at this
    exact map_other hg this rfl
theorem DRepAt.mdk (h : DRepAt S w D a Md Mn pv fd qs) (ht : Turned w w' D Mn pv) : IMap w' Md fd :=
  h.md.of_block (ht Md h.md.lt (fun e => map_other h.cell (e ▸ h.md) rfl) h.ne (row_map h.prow.1 h.md))
end

/-- The disk reads as a' now; it lies where it lay, or in new blocks; nothing else has turned. -/
def DDone (S : Nat → Prop) (w : World) (D : Nat) (a' : AD) (w' : World) : Prop := DRep (fun b => S b ∨ w.heap.size ≤ b) w' D a' ∧ Kept S w w'

def wrA (a : AD) (i : Int) (bs : List Int) : AD := { a with pend := a.pend ++ [(i, bs)], ops := a.ops + 1 }

theorem write_bad (w : World) (p : Option Addr) (i : Int) (v : Value) (hh : Calls Try.prog 27 #[.pointer p, .int .i64 i] w fun e w' => e = .returned (.bool false) ∧ w' = w) :
    Calls Try.prog 12 #[.pointer p, .int .i64 i, v] w fun e w' => e = .returned (.int .i64 5) ∧ w' = w := by
  replace hh := Lib.hid hh
  go_enter Try.func12, Try.ntmps12
  go_wp2_with (go_at_call 27; refine hh.out.mono ?_; rintro e w' ⟨rfl, rfl⟩)
  go_ret
  exact ⟨rfl, rfl⟩

theorem write_len (w : World) (p : Option Addr) (i : Int) (ad : Option Addr) (l cap : Nat) (hl : l ≠ 256) (hh : Calls Try.prog 27 #[.pointer p, .int .i64 i] w fun e w' => e = .returned (.bool true) ∧ w' = w) :
    Calls Try.prog 12 #[.pointer p, .int .i64 i, .slice ad l cap] w fun e w' => e = .returned (.int .i64 22) ∧ w' = w := by
  replace hh := Lib.hid hh
  have hq : ((l : Int) != 256) = true := by simp; omega
  go_enter Try.func12, Try.ntmps12
  go_wp2_with (go_at_call 27; refine hh.out.mono ?_; rintro e w' ⟨rfl, rfl⟩)
  go_ret
  exact ⟨rfl, rfl⟩

theorem grown_of_alloc {W w1 : World} {row : Option Nat} {o : Obj} (h : (W.alloc o).grownBy w1 row) : W.grownBy w1 row :=
  ⟨h.os, h.tape, h.output, Nat.le_trans (by simp) h.size, fun k hk hn => (h.block k (by simp; omega) hn).trans (Below.heap_alloc _ _ _ hk)⟩

theorem cells2_new (W : World) (a b : Value) (t : TypeId) : ∀ j u, [a, b][j]? = some u → (W.alloc (.cells #[a, b] t)).cell? (Addr.add ⟨W.heap.size, 0, none⟩ j) = some u := by
  intro j u h
  have hj : j < 2 := by have := (List.getElem?_eq_some_iff.1 h).1; simpa using this
  obtain rfl | rfl : j = 0 ∨ j = 1 := by omega
  all_goals simpa [Addr.add] using h

theorem ownsRow_succ {w : World} {b : Nat} {e : TypeId} {s : Nat} {v : Value} {n : Nat} {xs : List Value} (h : w.ownsRow b e s v (n + 1) xs) : ∃ g cap, v = .slice (some ⟨g, 0, none⟩) (n + 1) cap := by
  rcases h.2 with ⟨_, h0⟩ | ⟨g, cap, cur, rfl, _⟩
  · omega
  · exact ⟨g, cap, rfl⟩

theorem write_done {Md Mn : Nat} {pv : Value} {fd : Int → Option Value} {qs : List PQ} {w1 w2 : World} {g2 cap2 gv capv : Nat} {om : Obj} {i : Int} {bs : List Int} (hr : DRepAt S w D a Md Mn pv fd qs) (hbe : Below w.heap.size w w1)
    (hg : w1.grownBy w2 pv.ownBlock) (hown : w2.ownsRow 0 58 2 (.slice (some ⟨g2, 0, none⟩) (qs.length + 1) cap2) (qs.length + 1) (qcells qs ++ [.int .i64 i, .slice (some ⟨gv, 0, none⟩) 256 capv]))
    (hat : pv.ownBlock = some g2 ∨ w1.heap.size ≤ g2) (hrow : Row w.heap.size w1 (.slice (some ⟨gv, 0, none⟩) 256 capv) bs) (hbl : bs.length = 256) (h0 : 0 ≤ i) (h1 : i < a.n) {W3 : World} (hW3 : W3 = w2.setCell ⟨D, 2, none⟩ (.slice (some ⟨g2, 0, none⟩) (qs.length + 1) cap2))
    (him : IMap (W3.putObj Mn om) Mn (upd (lastV qs) i (some (.slice (some ⟨gv, 0, none⟩) 256 capv)))) (hD4 : (W3.putObj Mn om).heap[D]? = some (.cells #[.int .i64 a.n, .map (some Md), .slice (some ⟨g2, 0, none⟩) (qs.length + 1) cap2, .map (some Mn), .int .i64 a.ops] 51 (0, 0))) :
    DDone S w D (wrA a i bs) ((W3.putObj Mn om).setCell ⟨D, 4, none⟩ (.int .i64 ((a.ops : Int) + 1))) := by
  have hDl : D < w.heap.size := (Array.getElem?_eq_some_iff.1 hr.cell).1
  have hMl := hr.mn.lt
  have hpD := row_other hr.prow.1 hr.cell (by decide)
  have hpM := row_map hr.prow.1 hr.mn
  have hDM := map_other hr.cell hr.mn
  have hs3 : W3.heap.size = w2.heap.size := by rw [hW3]; simp
  -- from w2 on only D and Mn turn
  have late : ∀ b, b ≠ D → b ≠ Mn → ((W3.putObj Mn om).setCell ⟨D, 4, none⟩ (.int .i64 ((a.ops : Int) + 1))).heap[b]? = w2.heap[b]? := fun b hbD hbM => by
    rw [Below.heap_setCell _ _ _ _ hbD, World.putObj_heap_other hbM, hW3, Below.heap_setCell _ _ _ _ hbD]
  have hsz : w.heap.size ≤ w2.heap.size := Nat.le_trans hbe.size hg.size
  have hT : Turned w ((W3.putObj Mn om).setCell ⟨D, 4, none⟩ (.int .i64 ((a.ops : Int) + 1))) D Mn pv := fun b hb hbD hbM hbp => by
    rw [late b hbD hbM]
    exact (hg.block b (Nat.lt_of_lt_of_le hb hbe.size) hbp.symm).trans (hbe.block b hb)
  have hsize : w.heap.size ≤ ((W3.putObj Mn om).setCell ⟨D, 4, none⟩ (.int .i64 ((a.ops : Int) + 1))).heap.size := by simp [hs3]; exact hsz
  generalize hW5 : (W3.putObj Mn om).setCell ⟨D, 4, none⟩ (.int .i64 ((a.ops : Int) + 1)) = W5 at *
  have hg2D : g2 ≠ D := fun e => by
    rcases hat with h | h
    · exact hpD (by rw [h, e])
    · have := hbe.size; omega
  have hg2M : g2 ≠ Mn := fun e => by
    rcases hat with h | h
    · exact hpM (by rw [h, e])
    · have := hbe.size; omega
  have hgv := hrow.lt (b := gv) rfl
  have hgood := hr.good
  refine ⟨⟨Md, Mn, .slice (some ⟨g2, 0, none⟩) (qs.length + 1) cap2, fd, qs ++ [⟨i, .slice (some ⟨gv, 0, none⟩) 256 capv, bs⟩], ?_⟩, ?_⟩
  · refine { hD := .inl hr.hD, hMd := .inl hr.hMd, hMn := .inl hr.hMn, cell := ?_, md := hr.mdk hT, mn := ?_, ne := hr.ne, prow := ⟨?_, fun b hb => ?_, fun q hq => ?_⟩, pend := ?_, some_ := fun j v hv => ?_, none_ := hr.none_, good := ?_ }
    · rw [← hW5, setCell_heap _ _ _ _ _ _ hD4]; rfl
    · rw [lastV_snoc, ← hW5]
      exact him.of_block (Below.heap_setCell _ _ _ _ (Ne.symm hDM))
    · rw [qcells_snoc, List.length_append]
      refine ⟨by have := hown.1; simpa using this, ?_⟩
      rcases hown.2 with ⟨h2, _⟩ | ⟨g', c', cur', h2, h3, h4, h5⟩
      · cases h2
      · obtain rfl : g2 = g' := by simpa using (Value.slice.inj h2).1
        exact .inr ⟨g2, c', cur', h2, h3, (late g2 hg2D hg2M).trans h4, h5⟩
    · simp [Value.ownBlock] at hb
      subst hb
      rcases hat with h | h
      · exact .inl (hr.prow.2.1 _ h)
      · exact .inr (Nat.le_trans hbe.size h)
    · rcases List.mem_append.1 hq with hq | hq
      · exact (hr.bb hT (hr.prow.2.2 q hq)).mono fun b _ hb => .inl hb
      · simp at hq; subst hq
        refine ⟨hbl, (hrow.base (Nat.zero_le _)).kept fun b hb => ?_, fun b hb => ?_⟩
        · simp [Value.ownBlock] at hb; subst hb
          rw [late gv (by omega) (by omega)]
          refine hg.block gv hgv.2 (fun e => ?_)
          have := (World.ownsRow.lt hr.prow.1 gv e.symm).2
          omega
        · simp [Value.ownBlock] at hb; subst hb
          exact .inr hgv.1
    · show a.pend ++ [(i, bs)] = _
      rw [hr.pend]; simp [plain]
    · exact (hr.bb hT (hr.some_ j v hv)).mono fun b _ hb => .inl hb
    · refine ⟨hgood.lo, hgood.hi, hgood.done, fun p hp => ?_, ?_⟩
      · rcases List.mem_append.1 hp with hp | hp
        · exact hgood.pend p hp
        · simp at hp; subst hp; exact ⟨hbl, h0, h1⟩
      · show (a.pend ++ [(i, bs)]).length ≤ a.ops + 1
        have := hgood.few
        rw [List.length_append]; simp; omega
  · refine ⟨?_, ?_, ?_, hsize, fun k hk hs => hT k hk (fun e => hs (e ▸ hr.hD)) (fun e => hs (e ▸ hr.hMn)) (fun e => hs (hr.prow.2.1 k e))⟩
    · rw [← hW5, hW3]; exact hg.os.trans hbe.os
    · rw [← hW5, hW3]; exact hg.tape.trans hbe.tape
    · rw [← hW5, hW3]; exact hg.output.trans hbe.output

set_option maxRecDepth 100000 in
set_option maxHeartbeats 4000000 in
theorem DRep.write_ok (h : DRep S w D a) (hop : a.ops ≤ 1000000) (i : Int) (h0 : 0 ≤ i) (h1 : i < a.n) {n₀ : Nat} {bv : Value} {bs : List Int} (hb : Row n₀ w bv bs) (hbl : bs.length = 256) :
    Calls Try.prog 12 #[.pointer (some ⟨D, 0, none⟩), .int .i64 i, bv] w fun e w' => e = .returned (.int .i64 0) ∧ DDone S w D (wrA a i bs) w' := by
  have hhas := h.has i
  rw [show decide (0 ≤ i ∧ i < (a.n : Int)) = true by simp [h0, h1]] at hhas
  obtain ⟨Md, Mn, pv, fd, qs, hr⟩ := h
  have hcl := clone_any hb hbl
  obtain ⟨bg, bcap, _, rfl, _⟩ := hb.shape (by omega)
  rw [hbl] at hcl ⊢
  obtain ⟨i58, hi58, hz0, hz1, hz2⟩ := info_parts info58
  have hDl : D < w.heap.size := (Array.getElem?_eq_some_iff.1 hr.cell).1
  have hMl := hr.mn.lt
  have hDM := map_other hr.cell hr.mn
  have hpD := row_other hr.prow.1 hr.cell (by decide)
  have hpM := row_map hr.prow.1 hr.mn
  have hgood := hr.good
  have hql : qs.length ≤ 1000000 := by
    have := hgood.few
    rw [hr.pend] at this
    simp [plain] at this
    omega
  have hwr : IntKind.i64.wrap ((a.ops : Int) + 1) = (a.ops : Int) + 1 := by rw [IntKind.wrap_i64]; omega
  replace hhas := Lib.hid hhas
  replace hcl := Lib.hid hcl
  replace hr := Lib.hid hr
  replace hgood := Lib.hid hgood
  replace hbl := Lib.hid hbl
  clear hb
  go_enter Try.func12, Try.ntmps12
  go_wp2_with (first
    | (go_at_call 27; refine hhas.out.mono ?_; rintro e w' ⟨rfl, rfl⟩)
    | (go_at_call 28; refine hcl.out.mono ?_; rintro e w1 ⟨v', rfl, hrow, hbe⟩
       obtain ⟨gv, capv, rfl, hgv⟩ := hrow.shape6 hbl.out
       have hD1 := (hbe.block D hDl).trans hr.out.cell
       have k2 : w1.cell? ⟨D, 2, none⟩ = some pv := (by simp [World.cell?, hD1])
       have hown1 := (hr.out.prow.below' hbe).1
       replace hD1 := Lib.hid hD1
       replace hown1 := Lib.hid hown1
       replace hrow := Lib.hid hrow
       replace hbe := Lib.hid hbe)
    | (refine wpList_append_own_at _ rfl _ _ 49 rfl 0 58 i58 _ 2 32 Try.underlying49 hi58 hz0 hz1 hz2 rfl (by decide) pv _ _ rfl (hown1.out.alloc _) ⟨_, 0, none⟩ 1 1 [.int .i64 i, .slice (some ⟨gv, 0, none⟩) 256 capv] rfl rfl (cells2_new _ _ _ _) (by simp [Value.oneCell']) (by unfold maxLen; omega) (by omega) (Nat.zero_le _) ?_; intro v2 w2 hown2 hgrow _ hat2
       obtain ⟨g2, cap2, rfl⟩ := ownsRow_succ hown2
       have hDl1 : D < w1.heap.size := Nat.lt_of_lt_of_le hDl hbe.out.size
       have hD2 := ((grown_of_alloc hgrow).block D hDl1 hpD.symm).trans hD1.out
       have f2 : w2.cell? ⟨D, 2, none⟩ = some pv := (by simp [World.cell?, hD2])
       have z2 : w2.frozen? ⟨D, 2, none⟩ = false := (by simp [World.frozen?, hD2])
       have hD3 := setCell_heap w2 D 2 (.slice (some ⟨g2, 0, none⟩) (qs.length + 1) cap2) _ _ hD2
       have f3 : (w2.setCell ⟨D, 2, none⟩ (.slice (some ⟨g2, 0, none⟩) (qs.length + 1) cap2)).cell? ⟨D, 3, none⟩ = some (.map (some Mn)) := (by simp [World.cell?, hD3])
       have hM2 := ((grown_of_alloc hgrow).block Mn (Nat.lt_of_lt_of_le hMl hbe.out.size) hpM.symm).trans (hbe.out.block Mn hMl)
       have hM3 := hr.out.mn.of_block (w' := w2.setCell ⟨D, 2, none⟩ (.slice (some ⟨g2, 0, none⟩) (qs.length + 1) cap2)) ((Below.heap_setCell _ _ _ _ (Ne.symm hDM)).trans hM2)
       obtain ⟨om, hmu, him⟩ := hM3.update (P := Try.prog) Try.underlying48 Try.underlying3 i (.slice (some ⟨gv, 0, none⟩) 256 capv)
       have hD4 := (World.putObj_heap_other (w := w2.setCell ⟨D, 2, none⟩ (.slice (some ⟨g2, 0, none⟩) (qs.length + 1) cap2)) (o := om) hDM).trans hD3
       have f4 : ((w2.setCell ⟨D, 2, none⟩ (.slice (some ⟨g2, 0, none⟩) (qs.length + 1) cap2)).putObj Mn om).cell? ⟨D, 4, none⟩ = some (.int .i64 a.ops) := (by simp [World.cell?, hD4])
       have z4 : ((w2.setCell ⟨D, 2, none⟩ (.slice (some ⟨g2, 0, none⟩) (qs.length + 1) cap2)).putObj Mn om).frozen? ⟨D, 4, none⟩ = false := (by simp [World.frozen?, hD4])
       replace hD2 := Lib.hid hD2
       replace hD3 := Lib.hid hD3
       replace hD4 := Lib.hid hD4
       replace hM2 := Lib.hid hM2
       replace hM3 := Lib.hid hM3
       replace him := Lib.hid him
       replace hown2 := Lib.hid hown2))
  go_ret
  refine ⟨rfl, write_done hr.out hbe.out (grown_of_alloc hgrow) hown2.out ?_ hrow.out hbl.out h0 h1 rfl him.out hD4.out⟩
  rcases hat2 with h | h
  · exact .inl (by rw [← h]; rfl)
  · right
    simp [Value.ownBlock] at h
    omega
end Go.Proofs.Ytpokfbmgcokkbaa
