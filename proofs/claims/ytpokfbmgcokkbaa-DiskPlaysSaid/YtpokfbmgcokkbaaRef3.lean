/- The reference's disk: Write; two lists of writes that are the same. -/
import Derived.Test.YtpokfbmgcokkbaaRef2
import Derived.Deep.QuietTactic
namespace Go.Proofs.Ytpokfbmgcokkbaa
open Go.RowKit Go.Shelf
attribute [local go_sem] Oper.semAt_some

variable {S S' : Nat → Prop} {w w' : World} {R : Nat} {a : AD}

theorem rwrite_bad (h : RRep S w R a) (i : Int) (hi : i < 0 ∨ (a.n : Int) ≤ i) (v : Value) :
    Calls Try.prog 36 #[.pointer (some ⟨R, 0, none⟩), .int .i64 i, v] w fun e w' => e = .returned (.int .i64 5) ∧ w' = w := by
  obtain ⟨lv, pv, qs, hr⟩ := h
  obtain ⟨la, lc, rfl⟩ := hr.lrow.shape
  have c0 : w.cell? ⟨R, 0, none⟩ = some (.slice la a.n lc) := by simp [World.cell?, hr.cell]
  clear hr
  by_cases h1 : i < 0
  · go_enter Try.func36, Try.ntmps36
    go_wp2_with fail
    go_ret
    exact ⟨rfl, rfl⟩
  · have h2 : (a.n : Int) ≤ i := by omega
    clear hi
    go_enter Try.func36, Try.ntmps36
    go_wp2_with fail
    go_ret
    exact ⟨rfl, rfl⟩
theorem rwrite_len (h : RRep S w R a) (i : Int) (h0 : 0 ≤ i) (h1 : i < a.n) (ad : Option Addr) (l cap : Nat) (hl : l ≠ 256) :
    Calls Try.prog 36 #[.pointer (some ⟨R, 0, none⟩), .int .i64 i, .slice ad l cap] w fun e w' => e = .returned (.int .i64 22) ∧ w' = w := by
  obtain ⟨lv, pv, qs, hr⟩ := h
  obtain ⟨la, lc, rfl⟩ := hr.lrow.shape
  have c0 : w.cell? ⟨R, 0, none⟩ = some (.slice la a.n lc) := by simp [World.cell?, hr.cell]
  clear hr
  have hq : ((l : Int) != 256) = true := by simp; omega
  go_enter Try.func36, Try.ntmps36
  go_wp2_with fail
  go_ret
  exact ⟨rfl, rfl⟩

theorem LRow.kept' {lv : Value} {n : Nat} {done : Int → List Int} (h : LRow S w lv n done) (hk : ∀ b, b < w.heap.size → (∃ ls, w.ownsRow 0 26 1 lv n ls ∧ lv.ownBlock = some b) ∨ (∃ v bs, BB S w v bs ∧ v.ownBlock = some b) → w'.heap[b]? = w.heap[b]?) : LRow S w' lv n done := by
  obtain ⟨ls, h1, h2, h3⟩ := h
  refine ⟨ls, own_kept h1 fun b hb => hk b (World.ownsRow.lt h1 b hb).2 (.inl ⟨ls, h1, hb⟩), h2, fun i hi => ?_⟩
  obtain ⟨v, e, hb⟩ := h3 i hi
  exact ⟨v, e, hb.1, hb.2.1.kept fun b hbv => hk b (hb.2.1.lt hbv).2 (.inr ⟨v, _, hb, hbv⟩), hb.2.2⟩

theorem own_cells {e : TypeId} {s n b0 b : Nat} {v : Value} {xs : List Value} (h : w.ownsRow b0 e s v n xs) (hb : v.ownBlock = some b) : ∃ cur, w.heap[b]? = some (.cells cur e (0, 0)) := by
  rcases h.2 with ⟨rfl, h0⟩ | ⟨g, cap, cur, rfl, a1, a2, a3⟩
  · simp [Value.ownBlock] at hb
  · simp [Value.ownBlock] at hb; subst hb; exact ⟨cur, a2⟩

theorem rwrite_done {lv pv : Value} {qs : List PQ} {w1 w2 W : World} {g cap gv capv : Nat} {i : Int} {bs : List Int} (hr : RAt S w R a lv pv qs) (hbe : Below w.heap.size w w1) (hg : w1.grownBy w2 pv.ownBlock)
    (hown : w2.ownsRow 0 58 2 (.slice (some ⟨g, 0, none⟩) (qs.length + 1) cap) (qs.length + 1) (qcells qs ++ [.int .i64 i, .slice (some ⟨gv, 0, none⟩) 256 capv]))
    (hat : pv.ownBlock = some g ∨ w1.heap.size ≤ g) (hrow : Row w.heap.size w1 (.slice (some ⟨gv, 0, none⟩) 256 capv) bs) (hbl : bs.length = 256) (h0 : 0 ≤ i) (h1 : i < a.n)
    (hW : W = (w2.setCell ⟨R, 1, none⟩ (.slice (some ⟨g, 0, none⟩) (qs.length + 1) cap)).setCell ⟨R, 2, none⟩ (.int .i64 ((a.ops : Int) + 1))) :
    RRep (fun b => S b ∨ w.heap.size ≤ b) W R (wrA a i bs) ∧ Kept S w W := by
  have hRl : R < w.heap.size := (Array.getElem?_eq_some_iff.1 hr.cell).1
  have hpR := row_other hr.prow.1 hr.cell (by decide)
  have hgood := hr.good
  have hs1 := hbe.size
  have hs2 := hg.size
  have hcell2 := (hg.block R (by omega) (Ne.symm hpR)).trans ((hbe.block R hRl).trans hr.cell)
  have hcell3 := setCell_heap w2 R 1 (.slice (some ⟨g, 0, none⟩) (qs.length + 1) cap) _ _ hcell2
  have hlate : ∀ b, b ≠ R → W.heap[b]? = w2.heap[b]? := fun b hb => by rw [hW, Below.heap_setCell _ _ _ _ hb, Below.heap_setCell _ _ _ _ hb]
  have hsz : W.heap.size = w2.heap.size := by rw [hW]; simp
  have hT : ∀ b, b < w.heap.size → b ≠ R → pv.ownBlock ≠ some b → W.heap[b]? = w.heap[b]? := fun b hb hbR hbp => by
    rw [hlate b hbR]
    exact (hg.block b (by omega) (Ne.symm hbp)).trans (hbe.block b hb)
  have hbb : BB (fun b => S b ∨ w.heap.size ≤ b) w1 (.slice (some ⟨gv, 0, none⟩) 256 capv) bs := ⟨hbl, hrow.base (Nat.zero_le _), fun b hb => .inr (hrow.lt hb).1⟩
  have hp1 : PRow (fun b => S b ∨ w.heap.size ≤ b) w1 pv qs := (hr.prow.below' hbe).mono fun b _ h => .inl h
  have hp2 := hp1.snoc hg hown (fun b hb => by
    simp [Value.ownBlock] at hb
    subst hb
    rcases hat with h | h
    · exact .inl (hr.prow.2.1 _ h)
    · exact .inr (by omega)) hbb
  refine ⟨⟨lv, .slice (some ⟨g, 0, none⟩) (qs.length + 1) cap, qs ++ [⟨i, .slice (some ⟨gv, 0, none⟩) 256 capv, bs⟩], { hR := .inl hr.hR, cell := ?_, lrow := ?_, prow := ?_, pend := ?_, good := ?_ }⟩, ?_⟩
  · rw [hW, setCell_heap _ _ _ _ _ _ hcell3]; rfl
  · refine (hr.lrow.kept' (w' := W) fun b hb h => ?_).mono fun b _ h => .inl h
    rcases h with ⟨ls, h2, h3⟩ | ⟨v, bs', h2, h3⟩
    · obtain ⟨cur, h4⟩ := own_cells h2 h3
      exact hT b hb (fun e => row_other h2 hr.cell (by decide) (by rw [h3, e])) (row_other hr.prow.1 h4 (by decide))
    · obtain ⟨cur, h4⟩ := own_cells h2.2.1 h3
      exact hT b hb (fun e => row_other h2.2.1 hr.cell (by decide) (by rw [h3, e])) (row_other hr.prow.1 h4 (by decide))
  · rw [hW]
    exact (hp2.cellOther hcell2 (by decide) (by decide)).cellOther hcell3 (by decide) (by decide)
  · show a.pend ++ [(i, bs)] = _
    rw [hr.pend]; simp [plain]
  · refine ⟨hgood.lo, hgood.hi, hgood.done, fun p hp => ?_, ?_⟩
    · rcases List.mem_append.1 hp with hp | hp
      · exact hgood.pend p hp
      · simp at hp; subst hp; exact ⟨hbl, h0, h1⟩
    · show (a.pend ++ [(i, bs)]).length ≤ a.ops + 1
      have := hgood.few
      rw [List.length_append]; simp; omega
  · refine ⟨?_, ?_, ?_, by omega, fun k hk hs => hT k hk (fun e => hs (e ▸ hr.hR)) (fun e => hs (hr.prow.2.1 k e))⟩
    · rw [hW]; exact hg.os.trans hbe.os
    · rw [hW]; exact hg.tape.trans hbe.tape
    · rw [hW]; exact hg.output.trans hbe.output

set_option maxRecDepth 100000 in
set_option maxHeartbeats 4000000 in
theorem RRep.write_ok (h : RRep S w R a) (hop : a.ops ≤ 1000000) (i : Int) (h0 : 0 ≤ i) (h1 : i < a.n) {n₀ : Nat} {bv : Value} {bs : List Int} (hb : Row n₀ w bv bs) (hbl : bs.length = 256) :
    Calls Try.prog 36 #[.pointer (some ⟨R, 0, none⟩), .int .i64 i, bv] w fun e w' => e = .returned (.int .i64 0) ∧ RRep (fun b => S b ∨ w.heap.size ≤ b) w' R (wrA a i bs) ∧ Kept S w w' := by
  obtain ⟨lv, pv, qs, hr⟩ := h
  have hcl : Calls Try.prog 31 #[bv] w.drew fun e w' => ∃ v', e = .returned v' ∧ Row w.heap.size w' v' bs ∧ Below w.heap.size w w' := (copied_any (w := w.drew) hb hbl).mono fun e w' ⟨v', he, h1, h2⟩ => ⟨v', he, h1, h2.os, h2.tape, h2.output, h2.size, h2.block⟩
  obtain ⟨bg, bcap, _, rfl, _⟩ := hb.shape (by omega)
  rw [hbl] at hcl ⊢
  obtain ⟨i58, hi58, hz0, hz1, hz2⟩ := info_parts info58
  have hRl : R < w.heap.size := (Array.getElem?_eq_some_iff.1 hr.cell).1
  have hpR := row_other hr.prow.1 hr.cell (by decide)
  have hgood := hr.good
  obtain ⟨la, lc, rfl⟩ := hr.lrow.shape
  have hql : qs.length ≤ 1000000 := by
    have := hgood.few
    rw [hr.pend] at this
    simp [plain] at this
    omega
  have hwr : IntKind.i64.wrap ((a.ops : Int) + 1) = (a.ops : Int) + 1 := by rw [IntKind.wrap_i64]; omega
  have c0 : w.cell? ⟨R, 0, none⟩ = some (.slice la a.n lc) := by simp [World.cell?, hr.cell]
  have c1 : w.cell? ⟨R, 1, none⟩ = some pv := by simp [World.cell?, hr.cell]
  replace hcl := Lib.hid hcl
  replace hr := Lib.hid hr
  replace hgood := Lib.hid hgood
  replace hbl := Lib.hid hbl
  replace hwr := Lib.hid hwr
  clear hb
  go_enter Try.func36, Try.ntmps36
  go_wp2_with fail
  go_region_law
    (first
      | (refine step_append_lies _ (by rfl) _ _ _ (by rfl) 0 58 i58 _ 2 32 Try.underlying49 hi58 hz0 hz1 hz2 rfl (by omega) pv qs.length (qcells qs) (by rfl) (hown1.out.alloc _)
          ⟨w1.heap.size, 0, none⟩ 1 1 [.int .i64 i, .slice (some ⟨gv, 0, none⟩) 256 capv] (by rfl) (by rfl) (cells2_new _ _ _ _) (by simp [Value.oneCell'])
          (by omega) (by unfold maxLen; omega) (by omega) (Nat.zero_le _) (w1.heap.size + 1) (by simp) ?_
         intro g cap w2 hown2 hgrow hat hlt2
         have hcell2 := (hgrow.block R (by simp; omega) (Ne.symm hpR)).trans ((Below.heap_alloc w1 _ _ (by omega)).trans hR1.out)
         have d1 : w2.cell? ⟨R, 1, none⟩ = some pv := (by simp [World.cell?, hcell2])
         have y1 : w2.frozen? ⟨R, 1, none⟩ = false := (by simp [World.frozen?, hcell2])
         have hD3 := setCell_heap w2 R 1 (.slice (some ⟨g, 0, none⟩) (qs.length + 1) cap) _ _ hcell2
         have d2 : (w2.setCell ⟨R, 1, none⟩ (.slice (some ⟨g, 0, none⟩) (qs.length + 1) cap)).cell? ⟨R, 2, none⟩ = some (.int .i64 a.ops) := (by simp [World.cell?, hD3])
         have y2 : (w2.setCell ⟨R, 1, none⟩ (.slice (some ⟨g, 0, none⟩) (qs.length + 1) cap)).frozen? ⟨R, 2, none⟩ = false := (by simp [World.frozen?, hD3])
         replace hD3 := Lib.hid hD3
         replace hcell2 := Lib.hid hcell2
         replace hown2 := Lib.hid hown2)
      | (go_simp; go_at_call 31; refine hcl.out.mono ?_; rintro e w1 ⟨v', rfl, hrow, hbe⟩
         obtain ⟨gv, capv, rfl, hgv⟩ := hrow.shape6 hbl.out
         have hR1 := (hbe.block R hRl).trans hr.out.cell
         have k1 : w1.cell? ⟨R, 1, none⟩ = some pv := (by simp [World.cell?, hR1])
         have k2 : ∀ o, (w1.alloc o).cell? ⟨R, 1, none⟩ = some pv := (fun o => by
           have h9 := (Below.heap_alloc w1 o R (by have := hbe.size; omega)).trans hR1
           simp [World.cell?, h9])
         have hown1 := (hr.out.prow.below' hbe).1
         have hsz1 := hbe.size
         replace hR1 := Lib.hid hR1
         replace hown1 := Lib.hid hown1
         replace hrow := Lib.hid hrow
         replace hbe := Lib.hid hbe))
  all_goals
    have hwr := hwr.out
    go_wp2_with fail
    go_ret
    refine ⟨rfl, rwrite_done hr.out hbe.out (grown_of_alloc hgrow) hown2.out ?_ hrow.out hbl.out h0 h1 rfl⟩
    rcases hat with h | h
    · exact .inl h
    · exact .inr (by omega)

set_option maxRecDepth 100000 in
set_option maxHeartbeats 4000000 in
theorem samewrites_true {va vb : Value} {qa qb : List PQ} {S1 S2 : Nat → Prop} (ha : PRow S1 w va qa) (hb : PRow S2 w vb qb) (he : plain qa = plain qb) (hl : qa.length ≤ 1000000) :
    Calls Try.prog 33 #[va, vb] w fun e w' => e = .returned (.bool true) ∧ ∃ m, w' = w.drewN m := by
  obtain ⟨aa, ac, rfl⟩ := ha.shape
  obtain ⟨ba, bc, rfl⟩ := hb.shape
  have hll : qb.length = qa.length := by have := congrArg List.length he; simpa [plain] using this.symm
  rw [hll]
  have hat : ∀ k (h : k < qa.length) (h' : k < qb.length), qa[k].blk = qb[k].blk ∧ qa[k].bs = qb[k].bs := fun k h h' => by
    have h1 := plain_at h
    have h2 := plain_at h'
    rw [he, h2] at h1
    simpa [eq_comm] using h1
  replace ha := Lib.hid ha
  replace hb := Lib.hid hb
  replace he := Lib.hid he
  replace hat := Lib.hid hat
  have hq : ((qa.length : Int) != (qa.length : Int)) = false := by simp
  go_enter Try.func33, Try.ntmps33
  go_wp2_with fail
  go_loopw [5] (fun i wr => ∃ k : Nat, k ≤ qa.length ∧ i = .int .i64 k ∧ (∃ m, wr = w.drewN m)) (fun i _ => qa.length - (intOf i).toNat)
  case atStart => exact ⟨0, Nat.zero_le _, rfl, ⟨0, rfl⟩⟩
  case round =>
    obtain ⟨k, hk, rfl, ⟨m, rfl⟩⟩ := hrel
    obtain ⟨wi, hwi⟩ : ∃ wi, w.drewN m = wi := ⟨_, rfl⟩
    have hdn : ∀ n, ∃ m, wi.drewN n = w.drewN m := fun n => ⟨m + n, by rw [← hwi]; exact World.drewN_drewN w m n⟩
    have hhp : wi.heap = w.heap := by rw [← hwi]; rfl
    rw [hwi]
    replace hwi := Lib.hid hwi
    replace hdn := Lib.hid hdn
    by_cases hlt : k < qa.length
    · have hlt' : k < qb.length := hll ▸ hlt
      have hra : PRow S1 wi _ qa := ha.out.kept fun b _ _ => by rw [hhp]
      have hrb : PRow S2 wi _ qb := hb.out.kept fun b _ _ => by rw [hhp]
      rw [hll] at hrb
      obtain ⟨ga, rfl⟩ := hra.head hlt
      obtain ⟨gb, rfl⟩ : ∃ gb, ba = some ⟨gb, 0, none⟩ := by
        rw [← hll] at hrb
        exact hrb.head hlt'
      obtain ⟨e0, e1⟩ := hra.cells k hlt
      obtain ⟨f0, f1⟩ := (hll ▸ hrb : PRow S2 wi (.slice (some ⟨gb, 0, none⟩) qb.length bc) qb).cells k hlt'
      have hqa := hra.2.2 qa[k] (List.getElem_mem _)
      have hqb := hrb.2.2 qb[k] (List.getElem_mem _)
      obtain ⟨hk1, hk2⟩ := hat.out k hlt hlt'
      rw [← hk1] at f0
      rw [← hk2] at hqb
      obtain ⟨x, v, v2, bs, x0, x1, x2, x3⟩ : ∃ x v v2 bs, qa[k].blk = x ∧ qa[k].v = v ∧ qb[k].v = v2 ∧ qa[k].bs = bs := ⟨_, _, _, _, rfl, rfl, rfl, rfl⟩
      rw [x0] at e0 f0
      rw [x1] at e1 hqa
      rw [x2] at f1 hqb
      rw [x3] at hqa hqb
      obtain ⟨g1, p1, rfl⟩ := hqa.shape
      obtain ⟨g2, p2, rfl⟩ := hqb.shape
      have hsm : ∀ n, Calls Try.prog 15 #[.slice (some ⟨g1, 0, none⟩) 256 p1, .slice (some ⟨g2, 0, none⟩) 256 p2] (wi.drewN n) fun e w' => e = .returned (.bool true) ∧ ∃ m, w' = (wi.drewN n).drewN m := fun n => by
        have := same_any (hqa.2.1.bts.drewN n) (hqb.2.1.bts.drewN n) (by have := hqa.1; omega)
        rw [beq_self_eq_true] at this
        exact this
      have hxx : (x != x) = false := by simp
      replace hsm := Lib.hid hsm
      clear hra hrb hqa hqb hk1 hk2 x0 x1 x2 x3 hhp
      go_wp2_with fail
      go_quiet ((go_at_call 15; exact Calls.quiet_of (hsm.out _)))
      go_wp2_with fail
      go_roundw
      case rel => exact ⟨k + 1, by omega, by go_num, hdn.out _⟩
      case measure => simp [intOf]; omega
    · obtain rfl : k = qa.length := by omega
      have hdn0 := hdn.out 0
      replace hdn0 := Lib.hid hdn0
      clear hhp
      go_wp2_with fail
      go_ret
      exact ⟨rfl, hdn0.out⟩
end Go.Proofs.Ytpokfbmgcokkbaa
