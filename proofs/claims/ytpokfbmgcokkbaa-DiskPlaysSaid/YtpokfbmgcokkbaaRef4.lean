/- The reference's disk: Copy; a disk and the reference's that are the same as a whole. -/
import Derived.Test.YtpokfbmgcokkbaaCopiesWalk
namespace Go.Proofs.Ytpokfbmgcokkbaa
open Go.RowKit Go.Shelf
attribute [local go_sem] Oper.semAt_some

variable {w0 w w' : World} {E : Nat} {a : AD} {lv pv : Value} {k : Nat} {ls : List Value} {qs : List PQ}

/-- A copy of the reference's disk that is being made. -/
structure RC (w0 w : World) (E : Nat) (a : AD) (lv pv : Value) (k : Nat) (ls : List Value) (qs : List PQ) : Prop where
  hE : w0.heap.size ≤ E
  cell : w.heap[E]? = some (.cells #[lv, pv, .int .i64 a.ops] 66 (0, 0))
  own : w.ownsRow 0 26 1 lv k ls
  lat : ∀ b, lv.ownBlock = some b → w0.heap.size ≤ b
  lel : ∀ i : Nat, i < k → ∃ v, ls[i]? = some v ∧ BB (fun b => w0.heap.size ≤ b) w v (a.done i)
  prow : PRow (fun b => w0.heap.size ≤ b) w pv qs
  be : Below w0.heap.size w0 w

theorem RC.below (h : RC w0 w E a lv pv k ls qs) (hb : Below w.heap.size w w') : RC w0 w' E a lv pv k ls qs :=
  { h with
    cell := (hb.block E (Array.getElem?_eq_some_iff.1 h.cell).1).trans h.cell
    own := own_kept h.own fun b hv => hb.block b (World.ownsRow.lt h.own b hv).2
    lel := fun i hi => by
      obtain ⟨v, e, hv⟩ := h.lel i hi
      exact ⟨v, e, hv.kept fun b _ hl => hb.block b hl⟩
    prow := h.prow.below' hb
    be := h.be.trans (hb.mono h.be.size) }
theorem RC.drew (h : RC w0 w E a lv pv k ls qs) : RC w0 w.drew E a lv pv k ls qs := h.below ⟨rfl, rfl, rfl, Nat.le_refl _, fun _ _ => rfl⟩

/-- A block more in the copy's list of blocks. -/
theorem RC.addL {g cap : Nat} {v : Value} (h : RC w0 w E a lv pv k ls qs) (hg : w.grownBy w' lv.ownBlock) (hown : w'.ownsRow 0 26 1 (.slice (some ⟨g, 0, none⟩) (k + 1) cap) (k + 1) (ls ++ [v]))
    (hat : lv.ownBlock = some g ∨ w.heap.size ≤ g) (hb : BB (fun b => w0.heap.size ≤ b) w v (a.done k)) :
    RC w0 (w'.setCell ⟨E, 0, none⟩ (.slice (some ⟨g, 0, none⟩) (k + 1) cap)) E a (.slice (some ⟨g, 0, none⟩) (k + 1) cap) pv (k + 1) (ls ++ [v]) qs := by
  have hEl := (Array.getElem?_eq_some_iff.1 h.cell).1
  have hlE := row_other h.own h.cell (by decide)
  have hcell2 := (hg.block E hEl (Ne.symm hlE)).trans h.cell
  have hs := hg.size
  have hs0 := h.be.size
  have hEE := h.hE
  have hg0 : w0.heap.size ≤ g := by
    rcases hat with e | e
    · exact h.lat g e
    · omega
  have hc : ∀ (b : Nat) (cur : Array Value) (t : TypeId), w.heap[b]? = some (.cells cur t (0, 0)) → t ≠ 26 → t ≠ 66 → (w'.setCell ⟨E, 0, none⟩ (.slice (some ⟨g, 0, none⟩) (k + 1) cap)).heap[b]? = w.heap[b]? := fun (b : Nat) (cur : Array Value) (t : TypeId) hb h1 h2 => by
    rw [Below.heap_setCell _ _ _ _ (fun e => by
      have e' : b = E := e
      rw [e', h.cell] at hb
      simp at hb
      exact h2 hb.2.symm)]
    exact hg.block b (Array.getElem?_eq_some_iff.1 hb).1 (fun e => row_other h.own hb h1 e.symm)
  have hbb : ∀ v bs, BB (fun b => w0.heap.size ≤ b) w v bs → BB (fun b => w0.heap.size ≤ b) (w'.setCell ⟨E, 0, none⟩ (.slice (some ⟨g, 0, none⟩) (k + 1) cap)) v bs := fun v bs hb => ⟨hb.1, hb.2.1.kept fun b hv => by obtain ⟨cur, h5⟩ := own_cells hb.2.1 hv; exact hc _ _ _ h5 (by decide) (by decide), hb.2.2⟩
  have hln : ls.length = k := by have := h.own.1; simpa using this
  refine { hE := h.hE, cell := by rw [setCell_heap _ _ _ _ _ _ hcell2]; rfl, own := own_kept hown fun b hv => Below.heap_setCell _ _ _ _ (fun e => row_other hown hcell2 (by decide) (by rw [hv, show b = E from e])), lat := fun b hv => by simp [Value.ownBlock] at hv; omega, lel := fun i hi => ?_, prow := ⟨own_kept h.prow.1 fun b hv => by obtain ⟨cur, h5⟩ := own_cells h.prow.1 hv; exact hc _ _ _ h5 (by decide) (by decide), h.prow.2.1, fun q hq => hbb _ _ (h.prow.2.2 q hq)⟩, be := ?_ }
  · by_cases e : i < k
    · obtain ⟨x, h1, h2⟩ := h.lel i e
      exact ⟨x, by rw [List.getElem?_append_left (by omega)]; exact h1, hbb _ _ h2⟩
    · obtain rfl : i = k := by omega
      exact ⟨v, by rw [List.getElem?_append_right (by omega), hln]; simp, hbb _ _ hb⟩
  · exact below_setCell (h.be.trans ((Kept.of_grown (S := fun b => w0.heap.size ≤ b) hg (fun b hb _ => h.lat b hb)).below hs0 (fun b hb h => by omega))) hEE _

/-- A write more in the copy's list of writes. -/
theorem RC.addP {g cap : Nat} {x : Int} {v : Value} {bs : List Int} (h : RC w0 w E a lv pv k ls qs) (hg : w.grownBy w' pv.ownBlock) (hown : w'.ownsRow 0 58 2 (.slice (some ⟨g, 0, none⟩) (qs.length + 1) cap) (qs.length + 1) (qcells qs ++ [.int .i64 x, v]))
    (hat : pv.ownBlock = some g ∨ w.heap.size ≤ g) (hb : BB (fun b => w0.heap.size ≤ b) w v bs) :
    RC w0 (w'.setCell ⟨E, 1, none⟩ (.slice (some ⟨g, 0, none⟩) (qs.length + 1) cap)) E a lv (.slice (some ⟨g, 0, none⟩) (qs.length + 1) cap) k ls (qs ++ [⟨x, v, bs⟩]) := by
  have hEl := (Array.getElem?_eq_some_iff.1 h.cell).1
  have hlE := row_other h.prow.1 h.cell (by decide)
  have hcell2 := (hg.block E hEl (Ne.symm hlE)).trans h.cell
  have hs := hg.size
  have hs0 := h.be.size
  have hEE := h.hE
  have hc : ∀ (b : Nat) (cur : Array Value) (t : TypeId), w.heap[b]? = some (.cells cur t (0, 0)) → t ≠ 58 → t ≠ 66 → (w'.setCell ⟨E, 1, none⟩ (.slice (some ⟨g, 0, none⟩) (qs.length + 1) cap)).heap[b]? = w.heap[b]? := fun (b : Nat) (cur : Array Value) (t : TypeId) hb h1 h2 => by
    rw [Below.heap_setCell _ _ _ _ (fun e => by
      have e' : b = E := e
      rw [e', h.cell] at hb
      simp at hb
      exact h2 hb.2.symm)]
    exact hg.block b (Array.getElem?_eq_some_iff.1 hb).1 (fun e => row_other h.prow.1 hb h1 e.symm)
  have hbb : ∀ v bs, BB (fun b => w0.heap.size ≤ b) w v bs → BB (fun b => w0.heap.size ≤ b) (w'.setCell ⟨E, 1, none⟩ (.slice (some ⟨g, 0, none⟩) (qs.length + 1) cap)) v bs := fun v bs hb => ⟨hb.1, hb.2.1.kept fun b hv => by obtain ⟨cur, h5⟩ := own_cells hb.2.1 hv; exact hc _ _ _ h5 (by decide) (by decide), hb.2.2⟩
  have hp2 := h.prow.snoc hg hown (fun b hv => by
    simp [Value.ownBlock] at hv
    subst hv
    rcases hat with e | e
    · exact h.prow.2.1 _ e
    · omega) hb
  refine { hE := h.hE, cell := by rw [setCell_heap _ _ _ _ _ _ hcell2]; rfl, own := own_kept h.own fun b hv => by obtain ⟨cur, h5⟩ := own_cells h.own hv; exact hc _ _ _ h5 (by decide) (by decide), lat := h.lat, lel := fun i hi => ?_, prow := hp2.cellOther hcell2 (by decide) (by decide), be := ?_ }
  · obtain ⟨x, h1, h2⟩ := h.lel i hi
    exact ⟨x, h1, hbb _ _ h2⟩
  · exact below_setCell (h.be.trans ((Kept.of_grown (S := fun b => w0.heap.size ≤ b) hg (fun b hb _ => h.prow.2.1 b hb)).below hs0 (fun b hb h => by omega))) hEE _

set_option maxRecDepth 100000 in
set_option maxHeartbeats 8000000 in
theorem RRep.copy {S : Nat → Prop} {R : Nat} (h : RRep S w R a) (hop : a.ops ≤ 1000000) :
    Calls Try.prog 19 #[.pointer (some ⟨R, 0, none⟩)] w fun e w' => ∃ E, e = .returned (.pointer (some ⟨E, 0, none⟩)) ∧ RRep (fun b => w.heap.size ≤ b) w' E a ∧ Below w.heap.size w w' := by
  have hgood := h.good
  obtain ⟨lv, pv, qs, hr⟩ := h
  obtain ⟨lg, lc, _, rfl, _, _, _, _⟩ := hr.lrow.get (i := 0) (by have := hgood.lo; omega)
  obtain ⟨pa, pc, rfl⟩ := hr.prow.shape
  have hql : qs.length ≤ 1000000 := by
    have := hgood.few
    rw [hr.pend] at this; simp [plain] at this; omega
  have hhi := hgood.hi
  have c2 : w.cell? ⟨R, 2, none⟩ = some (.int .i64 a.ops) := by simp [World.cell?, hr.cell]
  obtain ⟨i58, hi58, hz0, hz1, hz2⟩ := info_parts info58
  obtain ⟨i26, hi26, hy0, hy1, hy2⟩ := info_parts info26
  have hrW := fun (W : World) (hb : Below w.heap.size w W) => hr.kept (w' := W) (fun b _ hl => hb.block b hl)
  have hstart : RC w (w.alloc (.cells #[.slice none 0 0, .slice none 0 0, .int .i64 a.ops] 66)) w.heap.size a (.slice none 0 0) (.slice none 0 0) 0 [] [] :=
    { hE := Nat.le_refl _, cell := World.alloc_heap_new _ _, own := World.ownsRow_nil _ _ _ _, lat := fun b hb => by simp [Value.ownBlock] at hb, lel := fun i hi => by omega, prow := ⟨World.ownsRow_nil _ _ _ _, fun b hb => by simp [Value.ownBlock] at hb, fun q hq => by cases hq⟩, be := (Below.refl _ _).alloc (Nat.le_refl _) _ }
  obtain ⟨E, hE⟩ : ∃ E, w.heap.size = E := ⟨_, rfl⟩
  replace hr := Lib.hid hr
  replace hgood := Lib.hid hgood
  replace hrW := Lib.hid hrW
  replace hstart := Lib.hid hstart
  replace hE := Lib.hid hE
  go_enter Try.func19, Try.ntmps19
  go_wp2_with fail
  rw [hE.out]
  rw [hE.out] at hstart
  go_loopw [4] (fun i wr => ∃ (k : Nat) (lv : Value) (ls : List Value), k ≤ a.n ∧ i = .int .i64 k ∧ RC w wr E a lv (.slice none 0 0) k ls []) (fun i _ => a.n - (intOf i).toNat)
  case atStart => exact ⟨0, _, _, Nat.zero_le _, rfl, hstart.out⟩
  case round =>
    obtain ⟨k, lv, ls, hk, rfl, hc⟩ := hrel
    obtain ⟨wo, rfl⟩ : ∃ wo : World, wo = wr := ⟨_, rfl⟩
    have hrw := hrW.out _ hc.be
    have c0 : wo.cell? ⟨R, 0, none⟩ = some (.slice (some ⟨lg, 0, none⟩) a.n lc) := by simp [World.cell?, hrw.cell]
    by_cases hlt : k < a.n
    · obtain ⟨lg', lc', v, hlv, hSl, cl, fl, hbv⟩ := hrw.lrow.get hlt
      obtain ⟨rfl, rfl⟩ : lg = lg' ∧ lc = lc' := by simpa using hlv
      obtain ⟨vg, vc, rfl⟩ := hbv.shape
      have e0 : wo.cell? ⟨E, 0, none⟩ = some lv := by simp [World.cell?, hc.cell]
      have hcl := copied_any (w := wo.drew) hbv.2.1 hbv.1
      have hl256 := hbv.1
      have q0 : (0 : Int) ≤ (k : Int) := by omega
      have q1 : (k : Int) < (a.n : Int) := by omega
      have hlgl : lg < wo.heap.size := World.block_lt_of_cell? wo ⟨lg, k, none⟩ cl
      have hRl : R < wo.heap.size := World.block_lt_of_cell? wo ⟨R, 0, none⟩ c0
      have hbl := hc.be.size
      have hlg0 : lg < w.heap.size := by
        obtain ⟨g, cp, v9, e9, _, cc, _⟩ := hr.out.lrow.get (i := 0) (by have := hgood.out.lo; omega)
        obtain ⟨rfl, _⟩ : lg = g ∧ lc = cp := by simpa using e9
        exact World.block_lt_of_cell? w ⟨lg, 0, none⟩ cc
      have hR0 : R < w.heap.size := (Array.getElem?_eq_some_iff.1 hr.out.cell).1
      replace hcl := Lib.hid hcl
      replace hl256 := Lib.hid hl256
      replace hc := Lib.hid hc
      replace hrw := Lib.hid hrw
      clear hlv hbv
      go_wp2_with fail
      go_region_law
        (first
          | (refine step_append_lies _ (by rfl) _ _ _ (by rfl) 0 26 i26 _ 1 24 Try.underlying64 hi26 hy0 hy1 hy2 rfl (by omega) lv k ls (by rfl) (hown1.out.alloc _)
              ⟨w1.heap.size, 0, none⟩ 1 1 [.slice (some ⟨gv, 0, none⟩) 256 capv] (by rfl) (by rfl) (World.news_of_block (cs := #[.slice (some ⟨gv, 0, none⟩) 256 capv]) (t := 26) (fr := (0, 0)) (World.alloc_heap_new _ _)) (by simp [Value.oneCell'])
              (by omega) (by unfold maxLen; omega) (by omega) (Nat.zero_le _) (w1.heap.size + 1) (by simp) ?_
             intro g cap w2 hown2 hgrow hat hlt2
             have hc3 := (hc1.out.below ((Below.refl _ w1).alloc (Nat.le_refl _) (.cells #[.slice (some ⟨gv, 0, none⟩) 256 capv] 26))).addL hgrow hown2 (hat.imp id fun e => by simp; omega) (hbb1.out.kept fun b _ hl => Below.heap_alloc _ _ _ hl)
             have hE2 := (hgrow.block E (by have := (Array.getElem?_eq_some_iff.1 hc1.out.cell).1; simp; omega) (Ne.symm (row_other hc1.out.own hc1.out.cell (by decide)))).trans ((Below.heap_alloc w1 _ E (Array.getElem?_eq_some_iff.1 hc1.out.cell).1).trans hc1.out.cell)
             have d0 : w2.cell? ⟨E, 0, none⟩ = some lv := (by simp [World.cell?, hE2])
             have z0 : w2.frozen? ⟨E, 0, none⟩ = false := (by simp [World.frozen?, hE2])
             replace hc3 := Lib.hid hc3
             replace hE2 := Lib.hid hE2
             replace hown2 := Lib.hid hown2
             replace hgrow := Lib.hid hgrow
             replace hat := Lib.hid hat)
          | (go_simp; go_at_call 31; refine hcl.out.mono ?_; rintro e w1 ⟨v', rfl, hrow, hbe⟩
             obtain ⟨gv, capv, rfl, hgv⟩ := hrow.shape6 hl256.out
             have hbe' : Below wo.heap.size wo w1 := ⟨hbe.os, hbe.tape, hbe.output, hbe.size, hbe.block⟩
             have hc1 := hc.out.below hbe'
             have e1 : w1.cell? ⟨E, 0, none⟩ = some lv := (by simp [World.cell?, hc1.cell])
             have e1' : ∀ o, (w1.alloc o).cell? ⟨E, 0, none⟩ = some lv := (fun o => by
               have := (Below.heap_alloc w1 o E (Array.getElem?_eq_some_iff.1 hc1.cell).1).trans hc1.cell
               simp [World.cell?, this])
             have hown1 := hc1.own
             have hbb1 : BB (fun b => w.heap.size ≤ b) w1 (.slice (some ⟨gv, 0, none⟩) 256 capv) (a.done k) := ⟨hl256.out, hrow.base (Nat.zero_le _), fun b hb => Nat.le_trans hbl (hrow.lt hb).1⟩
             have hsz := hbe'.size
             replace hc1 := Lib.hid hc1
             replace hown1 := Lib.hid hown1
             replace hbb1 := Lib.hid hbb1
             replace hbe := Lib.hid hbe
             replace hbe' := Lib.hid hbe'
             replace hrow := Lib.hid hrow))
      all_goals
        go_wp2_with fail
        go_roundw
        case rel => exact ⟨k + 1, _, _, by omega, by go_num, hc3.out⟩
        case measure => simp [intOf]; omega
    · obtain rfl : k = a.n := by omega
      obtain ⟨lva, lvc, rfl⟩ : ∃ x y, lv = .slice x a.n y := by
        rcases hc.own.2 with ⟨rfl, h0⟩ | ⟨g, cap, cur, rfl, _⟩
        · exact ⟨none, 0, by rw [h0]⟩
        · exact ⟨_, cap, rfl⟩
      replace hc := Lib.hid hc
      replace hrw := Lib.hid hrw
      go_wp2_with fail
      go_loopw [5] (fun i wr => ∃ (k : Nat) (pv : Value) (qs' : List PQ), k ≤ qs.length ∧ i = .int .i64 k ∧ qs'.length = k ∧ plain qs' = (plain qs).take k ∧ RC w wr E a (.slice lva a.n lvc) pv a.n ls qs') (fun i _ => qs.length - (intOf i).toNat)
      case atStart => exact ⟨0, _, [], Nat.zero_le _, rfl, rfl, rfl, hc.out⟩
      case round =>
        obtain ⟨k, pv, qs', hk, rfl, hql', hpl', hc⟩ := hrel
        obtain ⟨wo, rfl⟩ : ∃ wo : World, wo = wr := ⟨_, rfl⟩
        have hrw := hrW.out _ hc.be
        have c1 : wo.cell? ⟨R, 1, none⟩ = some (.slice pa qs.length pc) := by simp [World.cell?, hrw.cell]
        by_cases hlt : k < qs.length
        · obtain ⟨pg, rfl⟩ := hrw.prow.head hlt
          obtain ⟨f0, f1⟩ := hrw.prow.cells k hlt
          have hbv := hrw.prow.2.2 qs[k] (List.getElem_mem _)
          have htk : (plain qs).take (k + 1) = (plain qs).take k ++ [(qs[k].blk, qs[k].bs)] := by
            rw [List.take_succ_eq_append_getElem (by simp [plain]; exact hlt)]
            simp [plain]
          obtain ⟨x, v, bs, x0, x1, x2⟩ : ∃ x v bs, qs[k].blk = x ∧ qs[k].v = v ∧ qs[k].bs = bs := ⟨_, _, _, rfl, rfl, rfl⟩
          rw [x0] at f0 htk
          rw [x1] at f1 hbv
          rw [x2] at hbv htk
          obtain ⟨vg, vc, rfl⟩ := hbv.shape
          have e0 : wo.cell? ⟨E, 1, none⟩ = some pv := by simp [World.cell?, hc.cell]
          have hcl := copied_any (w := wo.drew) hbv.2.1 hbv.1
          have hl256 := hbv.1
          have q0 : (0 : Int) ≤ (k : Int) := by omega
          have q1 : (k : Int) < (qs.length : Int) := by omega
          have hbl := hc.be.size
          have hRl := World.block_lt_of_cell? wo _ c1
          have hpgl := World.block_lt_of_cell? wo _ f0
          have hq6 : qs'.length ≤ 1000000 := by omega
          replace hcl := Lib.hid hcl
          replace hl256 := Lib.hid hl256
          replace hc := Lib.hid hc
          replace hrw := Lib.hid hrw
          replace htk := Lib.hid htk
          replace hpl' := Lib.hid hpl'
          replace hql' := Lib.hid hql'
          replace x0 := Lib.hid x0
          replace x1 := Lib.hid x1
          replace x2 := Lib.hid x2
          clear hbv
          go_wp2_with fail
          have hSW : ∀ W, Below w.heap.size w W → W.cell? ⟨R, 1, none⟩ = some (.slice (some ⟨pg, 0, none⟩) qs.length pc) ∧ W.cell? ⟨pg, k * 2, none⟩ = some (.int .i64 x) ∧ W.cell? ⟨pg, k * 2 + 1, none⟩ = some (.slice (some ⟨vg, 0, none⟩) 256 vc) := fun W hW => by
            have h := hrW.out W hW
            obtain ⟨t0, t1⟩ := h.prow.cells k hlt
            rw [x0.out] at t0
            rw [x1.out] at t1
            exact ⟨by simp [World.cell?, h.cell], t0, t1⟩
          replace hSW := Lib.hid hSW
          refine wp_region_held_drew (S := fun W => W.cell? ⟨R, 1, none⟩ = some (.slice (some ⟨pg, 0, none⟩) qs.length pc) ∧ W.cell? ⟨pg, k * 2, none⟩ = some (.int .i64 x) ∧ W.cell? ⟨pg, k * 2 + 1, none⟩ = some (.slice (some ⟨vg, 0, none⟩) 256 vc)) (by kernel_rfl) ⟨c1, f0, f1⟩ (fun hHeld => ?_)
          refine wpAnyH_take (i := 0) (oi := _) (v := ?v9) rfl (by kernel_rfl) (by kernel_rfl) (by kernel_rfl) (fun _ _ _ h => h) (Or.inl ⟨by rfl, ?hy9⟩) (by assumption) ?rest9
          case hy9 => (intro W hSw; (try dsimp only at hSw); go_simp; try with_reducible rfl)
          simp only [Act.put, List.setIfInBounds_toArray, List.set_cons_zero, List.set_cons_succ]
          refine wpAnyH_take (i := 1) (oi := _) (v := ?v10) rfl (by kernel_rfl) (by kernel_rfl) (by kernel_rfl) (fun _ _ _ h => h) (Or.inl ⟨by rfl, ?hy10⟩) (by assumption) ?rest10
          case hy10 => (intro W hSw; (try dsimp only at hSw); go_simp; try with_reducible rfl)
          simp only [Act.put, List.setIfInBounds_toArray, List.set_cons_zero, List.set_cons_succ]
          refine wpAnyH_take (i := 2) (oi := _) (v := ?v11) rfl (by kernel_rfl) (by kernel_rfl) (by kernel_rfl) (fun _ _ _ h => h) (Or.inl ⟨by rfl, ?hy11⟩) (by assumption) ?rest11
          case hy11 => (intro W hSw; (try dsimp only at hSw); go_simp; try with_reducible rfl)
          simp only [Act.put, List.setIfInBounds_toArray, List.set_cons_zero, List.set_cons_succ]
          refine wpAnyH_take (i := 3) (oi := _) (v := ?v12) rfl (by kernel_rfl) (by kernel_rfl) (by kernel_rfl) (fun _ _ _ h => h) (Or.inl ⟨by rfl, ?hy12⟩) (by assumption) ?rest12
          case hy12 => (intro W hSw; (try dsimp only at hSw); go_simp; try with_reducible rfl)
          simp only [Act.put, List.setIfInBounds_toArray, List.set_cons_zero, List.set_cons_succ]
          refine wpAnyH_take (i := 5) (oi := _) (v := ?v13) rfl (by kernel_rfl) (by kernel_rfl) (by kernel_rfl) (fun _ _ _ h => h) (Or.inl ⟨by rfl, ?hy13⟩) (by assumption) ?rest13
          case hy13 => (intro W hSw; (try dsimp only at hSw); go_simp; try with_reducible rfl)
          simp only [Act.put, List.setIfInBounds_toArray, List.set_cons_zero, List.set_cons_succ]
          refine wpAnyH_take (i := 6) (oi := _) (v := ?v14) rfl (by kernel_rfl) (by kernel_rfl) (by kernel_rfl) (fun _ _ _ h => h) (Or.inl ⟨by rfl, ?hy14⟩) (by assumption) ?rest14
          case hy14 => (intro W hSw; (try dsimp only at hSw); go_simp; try with_reducible rfl)
          simp only [Act.put, List.setIfInBounds_toArray, List.set_cons_zero, List.set_cons_succ]
          refine wpAnyH_take (i := 7) (oi := _) (v := ?v15) rfl (by kernel_rfl) (by kernel_rfl) (by kernel_rfl) (fun _ _ _ h => h) (Or.inl ⟨by rfl, ?hy15⟩) (by assumption) ?rest15
          case hy15 => (intro W hSw; (try dsimp only at hSw); go_simp; try with_reducible rfl)
          simp only [Act.put, List.setIfInBounds_toArray, List.set_cons_zero, List.set_cons_succ]
          refine wpAnyH_take (i := 8) (oi := _) (v := ?v16) rfl (by kernel_rfl) (by kernel_rfl) (by kernel_rfl) (fun _ _ _ h => h) (Or.inl ⟨by rfl, ?hy16⟩) (by assumption) ?rest16
          case hy16 => (intro W hSw; (try dsimp only at hSw); go_simp; try with_reducible rfl)
          simp only [Act.put, List.setIfInBounds_toArray, List.set_cons_zero, List.set_cons_succ]
          refine wpAnyH_take (i := 9) (oi := _) (v := ?v17) rfl (by kernel_rfl) (by kernel_rfl) (by kernel_rfl) (fun _ _ _ h => h) (Or.inl ⟨by rfl, ?hy17⟩) (by assumption) ?rest17
          case hy17 => (intro W hSw; (try dsimp only at hSw); go_simp; try with_reducible rfl)
          simp only [Act.put, List.setIfInBounds_toArray, List.set_cons_zero, List.set_cons_succ]
          refine wpAnyH_take (i := 10) (oi := _) (v := ?v18) rfl (by kernel_rfl) (by kernel_rfl) (by kernel_rfl) (fun _ _ _ h => h) (Or.inl ⟨by rfl, ?hy18⟩) (by assumption) ?rest18
          case hy18 => (intro W hSw; (try dsimp only at hSw); go_simp; try with_reducible rfl)
          simp only [Act.put, List.setIfInBounds_toArray, List.set_cons_zero, List.set_cons_succ]
          refine wpAnyH_take (i := 11) (oi := _) (v := ?v19) rfl (by kernel_rfl) (by kernel_rfl) (by kernel_rfl) (fun _ _ _ h => h) (Or.inl ⟨by rfl, ?hy19⟩) (by assumption) ?rest19
          case hy19 => (intro W hSw; (try dsimp only at hSw); go_simp; try with_reducible rfl)
          simp only [Act.put, List.setIfInBounds_toArray, List.set_cons_zero, List.set_cons_succ]
          refine wpAnyH_take (i := 12) (oi := _) (v := ?v20) rfl (by kernel_rfl) (by kernel_rfl) (by kernel_rfl) (fun _ _ _ h => h) (Or.inl ⟨by rfl, ?hy20⟩) (by assumption) ?rest20
          case hy20 => (intro W hSw; (try dsimp only at hSw); go_simp; try with_reducible rfl)
          simp only [Act.put, List.setIfInBounds_toArray, List.set_cons_zero, List.set_cons_succ]
          refine wpAnyH_take (i := 13) (oi := _) (v := ?v21) rfl (by kernel_rfl) (by kernel_rfl) (by kernel_rfl) (fun _ _ _ h => h) (Or.inl ⟨by rfl, ?hy21⟩) (by assumption) ?rest21
          case hy21 => (intro W hSw; (try dsimp only at hSw); go_simp; try with_reducible rfl)
          simp only [Act.put, List.setIfInBounds_toArray, List.set_cons_zero, List.set_cons_succ]
          refine wpAnyH_take (i := 14) (oi := _) (v := ?v22) rfl (by kernel_rfl) (by kernel_rfl) (by kernel_rfl) (fun _ _ _ h => h) (Or.inl ⟨by rfl, ?hy22⟩) (by assumption) ?rest22
          case hy22 => (intro W hSw; (try dsimp only at hSw); go_simp; try with_reducible rfl)
          simp only [Act.put, List.setIfInBounds_toArray, List.set_cons_zero, List.set_cons_succ]
          refine wpAnyH_take (i := 15) (oi := _) (v := ?v23) rfl (by kernel_rfl) (by kernel_rfl) (by kernel_rfl) (fun _ _ _ h => h) (Or.inl ⟨by rfl, ?hy23⟩) (by assumption) ?rest23
          case hy23 => (intro W hSw; (try dsimp only at hSw); go_simp; try with_reducible rfl)
          simp only [Act.put, List.setIfInBounds_toArray, List.set_cons_zero, List.set_cons_succ]
          refine wpAnyH_take (i := 16) (oi := _) (v := ?v24) rfl (by kernel_rfl) (by kernel_rfl) (by kernel_rfl) (fun _ _ _ h => h) (Or.inl ⟨by rfl, ?hy24⟩) (by assumption) ?rest24
          case hy24 => (intro W hSw; (try dsimp only at hSw); go_simp; try with_reducible rfl)
          simp only [Act.put, List.setIfInBounds_toArray, List.set_cons_zero, List.set_cons_succ]
          refine wpAnyH_take (i := 17) (oi := _) (v := ?v25) rfl (by kernel_rfl) (by kernel_rfl) (by kernel_rfl) (fun _ _ _ h => h) (Or.inl ⟨by rfl, ?hy25⟩) (by assumption) ?rest25
          case hy25 => (intro W hSw; (try dsimp only at hSw); go_simp; try with_reducible rfl)
          simp only [Act.put, List.setIfInBounds_toArray, List.set_cons_zero, List.set_cons_succ]
          refine wpAnyH_take (i := 18) (oi := _) (v := ?v26) rfl (by kernel_rfl) (by kernel_rfl) (by kernel_rfl) (fun _ _ _ h => h) (Or.inl ⟨by rfl, ?hy26⟩) (by assumption) ?rest26
          case hy26 => (intro W hSw; (try dsimp only at hSw); go_simp; try with_reducible rfl)
          simp only [Act.put, List.setIfInBounds_toArray, List.set_cons_zero, List.set_cons_succ]
          refine wpAnyH_take (i := 19) (oi := _) (v := ?v27) rfl (by kernel_rfl) (by kernel_rfl) (by kernel_rfl) (fun _ _ _ h => h) (Or.inl ⟨by rfl, ?hy27⟩) (by assumption) ?rest27
          case hy27 => (intro W hSw; (try dsimp only at hSw); go_simp; try with_reducible rfl)
          simp only [Act.put, List.setIfInBounds_toArray, List.set_cons_zero, List.set_cons_succ]
          refine wpAnyH_take (i := 20) (oi := _) (v := ?v28) rfl (by kernel_rfl) (by kernel_rfl) (by kernel_rfl) (fun _ _ _ h => h) (Or.inl ⟨by rfl, ?hy28⟩) (by assumption) ?rest28
          case hy28 => (intro W hSw; (try dsimp only at hSw); go_simp; try with_reducible rfl)
          simp only [Act.put, List.setIfInBounds_toArray, List.set_cons_zero, List.set_cons_succ]
          refine wpAnyH_ready (rs := [4, 21]) (by kernel_rfl) (by simp) ?_
          refine AllReadyH.cons (o := _) rfl (fun K hK => ?_) ?_
          · go_simp
            refine hK.out _ _ (by assumption) (fun hHeld => ?_)
            clear hK K
            try simp only [Act.put, List.setIfInBounds_toArray, List.set_cons_zero, List.set_cons_succ]
            refine wpAnyH_ready (rs := [21]) (by kernel_rfl) (by simp) ?_
            refine AllReadyH.cons (o := _) rfl (fun K hK => ?_) ?_
            · go_simp
              go_at_call 31
              refine hcl.out.mono ?_
              rintro e w1 ⟨v', rfl, hrow, hbe⟩
              obtain ⟨gv, capv, rfl, hgv⟩ := hrow.shape6 hl256.out
              have hbe' : Below wo.heap.size wo w1 := ⟨hbe.os, hbe.tape, hbe.output, hbe.size, hbe.block⟩
              have hc1 := hc.out.below hbe'
              have e1 : w1.cell? ⟨E, 1, none⟩ = some pv := (by simp [World.cell?, hc1.cell])
              have e1' : ∀ o, (w1.alloc o).cell? ⟨E, 1, none⟩ = some pv := (fun o => by
                have := (Below.heap_alloc w1 o E (Array.getElem?_eq_some_iff.1 hc1.cell).1).trans hc1.cell
                simp [World.cell?, this])
              have hown1 := hc1.prow.1
              have hbb1 : BB (fun b => w.heap.size ≤ b) w1 (.slice (some ⟨gv, 0, none⟩) 256 capv) bs := ⟨hl256.out, hrow.base (Nat.zero_le _), fun b hb => Nat.le_trans hbl (hrow.lt hb).1⟩
              have hsz := hbe'.size
              replace hc1 := Lib.hid hc1
              replace hown1 := Lib.hid hown1
              replace hbb1 := Lib.hid hbb1
              replace hbe := Lib.hid hbe
              replace hbe' := Lib.hid hbe'
              replace hrow := Lib.hid hrow
              (try go_simp)
              refine hK.out _ _ (hSW.out _ hc1.out.be) (fun hHeld => ?_)
              clear hK K
              try simp only [Act.put, List.setIfInBounds_toArray, List.set_cons_zero, List.set_cons_succ]
              refine wpAnyH_take (i := 22) (oi := _) (v := ?v1) rfl (by kernel_rfl) (by kernel_rfl) (by kernel_rfl) (fun _ _ _ h => h) (Or.inl ⟨by rfl, ?hy1⟩) (by assumption) ?rest1
              case hy1 => (intro W hSw; (try dsimp only at hSw); go_simp; try with_reducible rfl)
              simp only [Act.put, List.setIfInBounds_toArray, List.set_cons_zero, List.set_cons_succ]
              refine wpAnyH_ready (rs := [23]) (by kernel_rfl) (by simp) ?_
              refine AllReadyH.cons (o := _) rfl (fun K hK => ?_) ?_
              · go_simp
                refine hK.out _ _ (hSW.out _ (hc1.out.be.alloc hc1.out.be.size _)) (fun hHeld => ?_)
                clear hK K
                try simp only [Act.put, List.setIfInBounds_toArray, List.set_cons_zero, List.set_cons_succ]
                refine wpAnyH_ready (rs := [24]) (by kernel_rfl) (by simp) ?_
                refine AllReadyH.cons (o := _) rfl (fun K hK => ?_) ?_
                · refine step_append_lies _ (by rfl) _ _ _ (by rfl) 0 58 i58 _ 2 32 Try.underlying49 hi58 hz0 hz1 hz2 rfl (by omega) pv qs'.length (qcells qs') (by rfl) (hown1.out.alloc _)
                    ⟨w1.heap.size, 0, none⟩ 1 1 [.int .i64 x, .slice (some ⟨gv, 0, none⟩) 256 capv] (by rfl) (by rfl) (cells2_new _ _ _ _) (by simp [Value.oneCell'])
                    (by omega) (by unfold maxLen; omega) (by omega) (Nat.zero_le _) (w1.heap.size + 1) (by simp) ?_
                  intro g cap w2 hown2 hgrow hat hlt2
                  have hc3 := (hc1.out.below ((Below.refl _ w1).alloc (Nat.le_refl _) (.cells #[.int .i64 x, .slice (some ⟨gv, 0, none⟩) 256 capv] 58))).addP hgrow hown2 (hat.imp id fun e => by simp; omega) (hbb1.out.kept fun b _ hl => Below.heap_alloc _ _ _ hl)
                  have hE2 := (hgrow.block E (by have := (Array.getElem?_eq_some_iff.1 hc1.out.cell).1; simp; omega) (Ne.symm (row_other hc1.out.prow.1 hc1.out.cell (by decide)))).trans ((Below.heap_alloc w1 _ E (Array.getElem?_eq_some_iff.1 hc1.out.cell).1).trans hc1.out.cell)
                  have d0 : w2.cell? ⟨E, 1, none⟩ = some pv := (by simp [World.cell?, hE2])
                  have z0 : w2.frozen? ⟨E, 1, none⟩ = false := (by simp [World.frozen?, hE2])
                  have hb2 : Below w.heap.size w w2 := (hc1.out.be.alloc hc1.out.be.size (.cells #[.int .i64 x, .slice (some ⟨gv, 0, none⟩) 256 capv] 58)).trans ⟨hgrow.os, hgrow.tape, hgrow.output, hgrow.size, fun b hb => hgrow.block b (by have := hc1.out.be.size; simp; omega) (fun e => by have := hc1.out.prow.2.1 b e.symm; omega)⟩
                  replace hc3 := Lib.hid hc3
                  replace hE2 := Lib.hid hE2
                  replace hown2 := Lib.hid hown2
                  replace hgrow := Lib.hid hgrow
                  replace hat := Lib.hid hat
                  replace hb2 := Lib.hid hb2
                  refine hK.out _ _ (hSW.out _ hb2.out) (fun hHeld => ?_)
                  clear hK K
                  try simp only [Act.put, List.setIfInBounds_toArray, List.set_cons_zero, List.set_cons_succ]
                  refine wpAnyH_take (i := 25) (oi := _) (v := ?v2) rfl (by kernel_rfl) (by kernel_rfl) (by kernel_rfl) (fun _ _ _ h => h) (Or.inl ⟨by rfl, ?hy2⟩) (by assumption) ?rest2
                  case hy2 => (intro W hSw; (try dsimp only at hSw); go_simp; try with_reducible rfl)
                  simp only [Act.put, List.setIfInBounds_toArray, List.set_cons_zero, List.set_cons_succ]
                  refine wpAnyH_take (i := 26) (oi := _) (v := ?v3) rfl (by kernel_rfl) (by kernel_rfl) (by kernel_rfl) (fun _ _ _ h => h) (Or.inl ⟨by rfl, ?hy3⟩) (by assumption) ?rest3
                  case hy3 => (intro W hSw; (try dsimp only at hSw); go_simp; try with_reducible rfl)
                  simp only [Act.put, List.setIfInBounds_toArray, List.set_cons_zero, List.set_cons_succ]
                  refine wpAnyH_ready (rs := [27]) (by kernel_rfl) (by simp) ?_
                  refine AllReadyH.cons (o := _) rfl (fun K hK => ?_) ?_
                  · go_simp
                    refine hK.out _ _ (hSW.out _ hc3.out.be) (fun hHeld => ?_)
                    clear hK K
                    try simp only [Act.put, List.setIfInBounds_toArray, List.set_cons_zero, List.set_cons_succ]
                    refine wpAnyH_done (by kernel_rfl) ?_ _
                    go_wp2_with fail
                    go_roundw
                    case rel => exact ⟨k + 1, _, _, by omega, by go_num, by simp [hql'.out], by rw [htk.out, ← hpl'.out]; simp [plain], hc3.out⟩
                    case measure => simp [intOf]; omega
                  exact AllReadyH.nil
                exact AllReadyH.nil
              exact AllReadyH.nil
            exact AllReadyH.nil
          refine AllReadyH.cons (o := _) rfl (fun K hK => ?_) ?_
          · go_simp
            go_at_call 31
            refine hcl.out.mono ?_
            rintro e w1 ⟨v', rfl, hrow, hbe⟩
            obtain ⟨gv, capv, rfl, hgv⟩ := hrow.shape6 hl256.out
            have hbe' : Below wo.heap.size wo w1 := ⟨hbe.os, hbe.tape, hbe.output, hbe.size, hbe.block⟩
            have hc1 := hc.out.below hbe'
            have e1 : w1.cell? ⟨E, 1, none⟩ = some pv := (by simp [World.cell?, hc1.cell])
            have e1' : ∀ o, (w1.alloc o).cell? ⟨E, 1, none⟩ = some pv := (fun o => by
              have := (Below.heap_alloc w1 o E (Array.getElem?_eq_some_iff.1 hc1.cell).1).trans hc1.cell
              simp [World.cell?, this])
            have hown1 := hc1.prow.1
            have hbb1 : BB (fun b => w.heap.size ≤ b) w1 (.slice (some ⟨gv, 0, none⟩) 256 capv) bs := ⟨hl256.out, hrow.base (Nat.zero_le _), fun b hb => Nat.le_trans hbl (hrow.lt hb).1⟩
            have hsz := hbe'.size
            replace hc1 := Lib.hid hc1
            replace hown1 := Lib.hid hown1
            replace hbb1 := Lib.hid hbb1
            replace hbe := Lib.hid hbe
            replace hbe' := Lib.hid hbe'
            replace hrow := Lib.hid hrow
            (try go_simp)
            refine hK.out _ _ (hSW.out _ hc1.out.be) (fun hHeld => ?_)
            clear hK K
            try simp only [Act.put, List.setIfInBounds_toArray, List.set_cons_zero, List.set_cons_succ]
            refine wpAnyH_take (i := 22) (oi := _) (v := ?v4) rfl (by kernel_rfl) (by kernel_rfl) (by kernel_rfl) (fun _ _ _ h => h) (Or.inl ⟨by rfl, ?hy4⟩) (by assumption) ?rest4
            case hy4 => (intro W hSw; (try dsimp only at hSw); go_simp; try with_reducible rfl)
            simp only [Act.put, List.setIfInBounds_toArray, List.set_cons_zero, List.set_cons_succ]
            refine wpAnyH_ready (rs := [4, 23]) (by kernel_rfl) (by simp) ?_
            refine AllReadyH.cons (o := _) rfl (fun K hK => ?_) ?_
            · go_simp
              refine hK.out _ _ (by assumption) (fun hHeld => ?_)
              clear hK K
              try simp only [Act.put, List.setIfInBounds_toArray, List.set_cons_zero, List.set_cons_succ]
              refine wpAnyH_ready (rs := [23]) (by kernel_rfl) (by simp) ?_
              refine AllReadyH.cons (o := _) rfl (fun K hK => ?_) ?_
              · go_simp
                refine hK.out _ _ (hSW.out _ (hc1.out.be.alloc hc1.out.be.size _)) (fun hHeld => ?_)
                clear hK K
                try simp only [Act.put, List.setIfInBounds_toArray, List.set_cons_zero, List.set_cons_succ]
                refine wpAnyH_ready (rs := [24]) (by kernel_rfl) (by simp) ?_
                refine AllReadyH.cons (o := _) rfl (fun K hK => ?_) ?_
                · refine step_append_lies _ (by rfl) _ _ _ (by rfl) 0 58 i58 _ 2 32 Try.underlying49 hi58 hz0 hz1 hz2 rfl (by omega) pv qs'.length (qcells qs') (by rfl) (hown1.out.alloc _)
                    ⟨w1.heap.size, 0, none⟩ 1 1 [.int .i64 x, .slice (some ⟨gv, 0, none⟩) 256 capv] (by rfl) (by rfl) (cells2_new _ _ _ _) (by simp [Value.oneCell'])
                    (by omega) (by unfold maxLen; omega) (by omega) (Nat.zero_le _) (w1.heap.size + 1) (by simp) ?_
                  intro g cap w2 hown2 hgrow hat hlt2
                  have hc3 := (hc1.out.below ((Below.refl _ w1).alloc (Nat.le_refl _) (.cells #[.int .i64 x, .slice (some ⟨gv, 0, none⟩) 256 capv] 58))).addP hgrow hown2 (hat.imp id fun e => by simp; omega) (hbb1.out.kept fun b _ hl => Below.heap_alloc _ _ _ hl)
                  have hE2 := (hgrow.block E (by have := (Array.getElem?_eq_some_iff.1 hc1.out.cell).1; simp; omega) (Ne.symm (row_other hc1.out.prow.1 hc1.out.cell (by decide)))).trans ((Below.heap_alloc w1 _ E (Array.getElem?_eq_some_iff.1 hc1.out.cell).1).trans hc1.out.cell)
                  have d0 : w2.cell? ⟨E, 1, none⟩ = some pv := (by simp [World.cell?, hE2])
                  have z0 : w2.frozen? ⟨E, 1, none⟩ = false := (by simp [World.frozen?, hE2])
                  have hb2 : Below w.heap.size w w2 := (hc1.out.be.alloc hc1.out.be.size (.cells #[.int .i64 x, .slice (some ⟨gv, 0, none⟩) 256 capv] 58)).trans ⟨hgrow.os, hgrow.tape, hgrow.output, hgrow.size, fun b hb => hgrow.block b (by have := hc1.out.be.size; simp; omega) (fun e => by have := hc1.out.prow.2.1 b e.symm; omega)⟩
                  replace hc3 := Lib.hid hc3
                  replace hE2 := Lib.hid hE2
                  replace hown2 := Lib.hid hown2
                  replace hgrow := Lib.hid hgrow
                  replace hat := Lib.hid hat
                  replace hb2 := Lib.hid hb2
                  refine hK.out _ _ (hSW.out _ hb2.out) (fun hHeld => ?_)
                  clear hK K
                  try simp only [Act.put, List.setIfInBounds_toArray, List.set_cons_zero, List.set_cons_succ]
                  refine wpAnyH_take (i := 25) (oi := _) (v := ?v5) rfl (by kernel_rfl) (by kernel_rfl) (by kernel_rfl) (fun _ _ _ h => h) (Or.inl ⟨by rfl, ?hy5⟩) (by assumption) ?rest5
                  case hy5 => (intro W hSw; (try dsimp only at hSw); go_simp; try with_reducible rfl)
                  simp only [Act.put, List.setIfInBounds_toArray, List.set_cons_zero, List.set_cons_succ]
                  refine wpAnyH_take (i := 26) (oi := _) (v := ?v6) rfl (by kernel_rfl) (by kernel_rfl) (by kernel_rfl) (fun _ _ _ h => h) (Or.inl ⟨by rfl, ?hy6⟩) (by assumption) ?rest6
                  case hy6 => (intro W hSw; (try dsimp only at hSw); go_simp; try with_reducible rfl)
                  simp only [Act.put, List.setIfInBounds_toArray, List.set_cons_zero, List.set_cons_succ]
                  refine wpAnyH_ready (rs := [27]) (by kernel_rfl) (by simp) ?_
                  refine AllReadyH.cons (o := _) rfl (fun K hK => ?_) ?_
                  · go_simp
                    refine hK.out _ _ (hSW.out _ hc3.out.be) (fun hHeld => ?_)
                    clear hK K
                    try simp only [Act.put, List.setIfInBounds_toArray, List.set_cons_zero, List.set_cons_succ]
                    refine wpAnyH_done (by kernel_rfl) ?_ _
                    go_wp2_with fail
                    go_roundw
                    case rel => exact ⟨k + 1, _, _, by omega, by go_num, by simp [hql'.out], by rw [htk.out, ← hpl'.out]; simp [plain], hc3.out⟩
                    case measure => simp [intOf]; omega
                  exact AllReadyH.nil
                exact AllReadyH.nil
              exact AllReadyH.nil
            refine AllReadyH.cons (o := _) rfl (fun K hK => ?_) ?_
            · go_simp
              refine hK.out _ _ (hSW.out _ (hc1.out.be.alloc hc1.out.be.size _)) (fun hHeld => ?_)
              clear hK K
              try simp only [Act.put, List.setIfInBounds_toArray, List.set_cons_zero, List.set_cons_succ]
              refine wpAnyH_ready (rs := [4]) (by kernel_rfl) (by simp) ?_
              refine AllReadyH.cons (o := _) rfl (fun K hK => ?_) ?_
              · go_simp
                refine hK.out _ _ (by assumption) (fun hHeld => ?_)
                clear hK K
                try simp only [Act.put, List.setIfInBounds_toArray, List.set_cons_zero, List.set_cons_succ]
                refine wpAnyH_ready (rs := [24]) (by kernel_rfl) (by simp) ?_
                refine AllReadyH.cons (o := _) rfl (fun K hK => ?_) ?_
                · refine step_append_lies _ (by rfl) _ _ _ (by rfl) 0 58 i58 _ 2 32 Try.underlying49 hi58 hz0 hz1 hz2 rfl (by omega) pv qs'.length (qcells qs') (by rfl) (hown1.out.alloc _)
                    ⟨w1.heap.size, 0, none⟩ 1 1 [.int .i64 x, .slice (some ⟨gv, 0, none⟩) 256 capv] (by rfl) (by rfl) (cells2_new _ _ _ _) (by simp [Value.oneCell'])
                    (by omega) (by unfold maxLen; omega) (by omega) (Nat.zero_le _) (w1.heap.size + 1) (by simp) ?_
                  intro g cap w2 hown2 hgrow hat hlt2
                  have hc3 := (hc1.out.below ((Below.refl _ w1).alloc (Nat.le_refl _) (.cells #[.int .i64 x, .slice (some ⟨gv, 0, none⟩) 256 capv] 58))).addP hgrow hown2 (hat.imp id fun e => by simp; omega) (hbb1.out.kept fun b _ hl => Below.heap_alloc _ _ _ hl)
                  have hE2 := (hgrow.block E (by have := (Array.getElem?_eq_some_iff.1 hc1.out.cell).1; simp; omega) (Ne.symm (row_other hc1.out.prow.1 hc1.out.cell (by decide)))).trans ((Below.heap_alloc w1 _ E (Array.getElem?_eq_some_iff.1 hc1.out.cell).1).trans hc1.out.cell)
                  have d0 : w2.cell? ⟨E, 1, none⟩ = some pv := (by simp [World.cell?, hE2])
                  have z0 : w2.frozen? ⟨E, 1, none⟩ = false := (by simp [World.frozen?, hE2])
                  have hb2 : Below w.heap.size w w2 := (hc1.out.be.alloc hc1.out.be.size (.cells #[.int .i64 x, .slice (some ⟨gv, 0, none⟩) 256 capv] 58)).trans ⟨hgrow.os, hgrow.tape, hgrow.output, hgrow.size, fun b hb => hgrow.block b (by have := hc1.out.be.size; simp; omega) (fun e => by have := hc1.out.prow.2.1 b e.symm; omega)⟩
                  replace hc3 := Lib.hid hc3
                  replace hE2 := Lib.hid hE2
                  replace hown2 := Lib.hid hown2
                  replace hgrow := Lib.hid hgrow
                  replace hat := Lib.hid hat
                  replace hb2 := Lib.hid hb2
                  refine hK.out _ _ (hSW.out _ hb2.out) (fun hHeld => ?_)
                  clear hK K
                  try simp only [Act.put, List.setIfInBounds_toArray, List.set_cons_zero, List.set_cons_succ]
                  refine wpAnyH_take (i := 25) (oi := _) (v := ?v7) rfl (by kernel_rfl) (by kernel_rfl) (by kernel_rfl) (fun _ _ _ h => h) (Or.inl ⟨by rfl, ?hy7⟩) (by assumption) ?rest7
                  case hy7 => (intro W hSw; (try dsimp only at hSw); go_simp; try with_reducible rfl)
                  simp only [Act.put, List.setIfInBounds_toArray, List.set_cons_zero, List.set_cons_succ]
                  refine wpAnyH_take (i := 26) (oi := _) (v := ?v8) rfl (by kernel_rfl) (by kernel_rfl) (by kernel_rfl) (fun _ _ _ h => h) (Or.inl ⟨by rfl, ?hy8⟩) (by assumption) ?rest8
                  case hy8 => (intro W hSw; (try dsimp only at hSw); go_simp; try with_reducible rfl)
                  simp only [Act.put, List.setIfInBounds_toArray, List.set_cons_zero, List.set_cons_succ]
                  refine wpAnyH_ready (rs := [27]) (by kernel_rfl) (by simp) ?_
                  refine AllReadyH.cons (o := _) rfl (fun K hK => ?_) ?_
                  · go_simp
                    refine hK.out _ _ (hSW.out _ hc3.out.be) (fun hHeld => ?_)
                    clear hK K
                    try simp only [Act.put, List.setIfInBounds_toArray, List.set_cons_zero, List.set_cons_succ]
                    refine wpAnyH_done (by kernel_rfl) ?_ _
                    go_wp2_with fail
                    go_roundw
                    case rel => exact ⟨k + 1, _, _, by omega, by go_num, by simp [hql'.out], by rw [htk.out, ← hpl'.out]; simp [plain], hc3.out⟩
                    case measure => simp [intOf]; omega
                  exact AllReadyH.nil
                exact AllReadyH.nil
              exact AllReadyH.nil
            exact AllReadyH.nil
          exact AllReadyH.nil
        · obtain rfl : k = qs.length := by omega
          have hfin : RRep (fun b => w.heap.size ≤ b) wo E a := ⟨_, pv, qs', { hR := by rw [hE.out]; exact Nat.le_refl _, cell := hc.cell, lrow := ⟨ls, hc.own, hc.lat, hc.lel⟩, prow := hc.prow, pend := by rw [hpl', hr.out.pend]; exact (List.take_of_length_le (by simp [plain])).symm, good := hgood.out }⟩
          have hfr := hc.be
          replace hfin := Lib.hid hfin
          replace hfr := Lib.hid hfr
          replace hc := Lib.hid hc
          replace hrw := Lib.hid hrw
          replace hql' := Lib.hid hql'
          replace hpl' := Lib.hid hpl'
          go_wp2_with fail
          go_ret
          exact ⟨_, rfl, hfin.out, hfr.out⟩
end Go.Proofs.Ytpokfbmgcokkbaa
