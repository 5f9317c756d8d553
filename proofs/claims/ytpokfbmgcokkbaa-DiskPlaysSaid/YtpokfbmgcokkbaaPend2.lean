/- A disk: copies, Pending. -/
import Derived.Test.YtpokfbmgcokkbaaPend
namespace Go.Proofs.Ytpokfbmgcokkbaa
open Go.RowKit Go.Shelf
attribute [local go_sem] Oper.semAt_some

variable {S S' : Nat → Prop} {w w' : World} {D : Nat} {a : AD}

theorem PRow.shape {pv : Value} {qs : List PQ} (h : PRow S w pv qs) : ∃ ad cap, pv = .slice ad qs.length cap := by
  rcases h.1.2 with ⟨rfl, h0⟩ | ⟨g, cap, cur, rfl, _⟩
  · exact ⟨_, _, by rw [h0]⟩
  · exact ⟨_, _, rfl⟩
theorem PRow.head {pa : Option Addr} {pc k : Nat} {qs : List PQ} (h : PRow S w (.slice pa qs.length pc) qs) (hk : k < qs.length) : ∃ pg, pa = some ⟨pg, 0, none⟩ := by
  rcases h.1.2 with ⟨_, h0⟩ | ⟨g, cap, cur, e, _⟩
  · omega
  · exact ⟨g, (Value.slice.inj e).1⟩

/-- One write more in the row. -/
theorem PRow.snoc {u pv v : Value} {x : Int} {bs : List Int} {qs : List PQ} (h : PRow S w pv qs) (hg : w.grownBy w' pv.ownBlock) (hown : w'.ownsRow 0 58 2 u (qs.length + 1) (qcells qs ++ [.int .i64 x, v])) (hat : ∀ b, u.ownBlock = some b → S b) (hb : BB S w v bs) :
    PRow S w' u (qs ++ [⟨x, v, bs⟩]) := by
  have hbb : ∀ v bs, BB S w v bs → BB S w' v bs := fun v bs hb => by
    obtain ⟨g, cap, cur, rfl, _, hg5, _⟩ := hb.2.1.shape (by have := hb.1; omega)
    refine ⟨hb.1, hb.2.1.kept fun b hv => ?_, hb.2.2⟩
    simp [Value.ownBlock] at hv
    subst hv
    exact hg.block g (Array.getElem?_eq_some_iff.1 hg5).1 (row_other h.1 hg5 (by decide)).symm
  refine ⟨by rw [qcells_snoc, List.length_append]; exact hown, hat, fun q hq => ?_⟩
  rcases List.mem_append.1 hq with hq | hq
  · exact hbb _ _ (h.2.2 q hq)
  · simp at hq; subst hq; exact hbb _ _ hb

set_option maxRecDepth 100000 in
set_option maxHeartbeats 4000000 in
theorem copies_any {pv : Value} {qs : List PQ} (h : PRow S w pv qs) (hl : qs.length ≤ 1000000) :
    Calls Try.prog 29 #[pv, .func (.func 30) #[] #[]] w fun e w' => ∃ v' qs', e = .returned v' ∧ PRow (fun b => w.heap.size ≤ b) w' v' qs' ∧ plain qs' = plain qs ∧ Below w.heap.size w w' := by
  obtain ⟨pa, pc, rfl⟩ := h.shape
  obtain ⟨i58, hi58, hz0, hz1, hz2⟩ := info_parts info58
  replace h := Lib.hid h
  go_enter Try.func29, Try.ntmps29
  go_wp2_with fail
  go_loopw [5, 10] (fun o i wr => ∃ (k : Nat) (qs' : List PQ), k ≤ qs.length ∧ i = .int .i64 k ∧ qs'.length = k ∧ plain qs' = (plain qs).take k ∧ PRow (fun b => w.heap.size ≤ b) wr o qs' ∧ Below w.heap.size w wr) (fun _ i _ => qs.length - (intOf i).toNat)
  case atStart => exact ⟨0, [], Nat.zero_le _, rfl, rfl, rfl, ⟨World.ownsRow_nil _ _ _ _, fun b hb => by simp [Value.ownBlock] at hb, fun q hq => by cases hq⟩, Below.refl _ _⟩
  case round =>
    obtain ⟨k, qs', hk, rfl, hql, hpl, hpr, hbe⟩ := hrel
    obtain ⟨wo, rfl⟩ : ∃ wo : World, wo = wr := ⟨_, rfl⟩
    obtain ⟨oa, oc, rfl⟩ := hpr.shape
    by_cases hlt : k < qs.length
    · obtain ⟨pg, rfl⟩ := h.out.head hlt
      obtain ⟨c0, c1⟩ := (h.out.below' hbe).cells k hlt
      have hqb := (h.out.below' hbe).2.2 qs[k] (List.getElem_mem _)
      obtain ⟨x, v, e0, e1⟩ : ∃ x v, qs[k].blk = x ∧ qs[k].v = v := ⟨_, _, rfl, rfl⟩
      rw [e0] at c0
      rw [e1] at c1 hqb
      obtain ⟨vg, vc, rfl⟩ := hqb.shape
      have hcl := fun o => copied_one (x := x) (hqb.kept (w' := wo.alloc o) (fun b _ hb => Below.heap_alloc _ _ _ hb))
      have htk : (plain qs).take (k + 1) = (plain qs).take k ++ [(x, qs[k].bs)] := by
        rw [List.take_succ_eq_append_getElem (by simp [plain]; exact hlt)]
        simp [plain, e0]
      have hl256 := hqb.1
      have hrow := hpr.1
      replace hcl := Lib.hid hcl
      replace hpr := Lib.hid hpr
      replace hbe := Lib.hid hbe
      replace hqb := Lib.hid hqb
      replace e0 := Lib.hid e0
      replace e1 := Lib.hid e1
      replace htk := Lib.hid htk
      replace hpl := Lib.hid hpl
      replace hl256 := Lib.hid hl256
      replace hrow := Lib.hid hrow
      have hq6 : qs'.length ≤ 1000000 := by omega
      replace hql := Lib.hid hql
      go_wp2_with fail
      refine (hcl.out _).mono ?_; rintro e wm ⟨v', rfl, hrow', hbm⟩
      obtain ⟨gv, capv, rfl, hgv⟩ := hrow'.shape6 hl256.out
      have hbm' : Below wo.heap.size wo wm := ((Below.refl _ wo).alloc (Nat.le_refl _) _).trans (hbm.mono (by simp))
      have hprm := hpr.out.below' hbm'
      have hrm := hprm.1
      have hsz1 := hbe.out.size
      have hsz2 := hbm'.size
      replace hrm := Lib.hid hrm
      replace hprm := Lib.hid hprm
      replace hbm' := Lib.hid hbm'
      replace hrow' := Lib.hid hrow'
      clear hbm
      go_wp2_with (refine wpList_append_own_at _ rfl _ _ 49 rfl 0 58 i58 _ 2 32 Try.underlying49 hi58 hz0 hz1 hz2 rfl (by decide) (.slice oa qs'.length oc) _ _ rfl (hrm.out.alloc _) ⟨_, 0, none⟩ 1 1 [.int .i64 x, .slice (some ⟨gv, 0, none⟩) 256 capv] rfl rfl (cells2_new _ _ _ _) (by simp [Value.oneCell']) (by unfold maxLen; omega) (by omega) (Nat.zero_le _) ?_; intro v2 w1 hown' hgrow _ hat')
      go_roundw
      case rel =>
        have hg1 := grown_of_alloc hgrow
        have hbb : BB (fun b => w.heap.size ≤ b) wm (.slice (some ⟨gv, 0, none⟩) 256 capv) qs[k].bs := ⟨hl256.out, hrow'.out.base (Nat.zero_le _), fun b hb => by
          simp [Value.ownBlock] at hb; subst hb
          have := hgv.1
          simp at this
          omega⟩
        refine ⟨k + 1, qs' ++ [⟨x, .slice (some ⟨gv, 0, none⟩) 256 capv, qs[k].bs⟩], by omega, by go_num, by simp [hql.out], ?_, hprm.out.snoc hg1 hown' (fun b hb => ?_) hbb, ?_⟩
        · rw [htk.out, ← hpl.out]; simp [plain]
        · rcases hat' with e | e
          · exact hprm.out.2.1 b (by rw [← e]; exact hb)
          · rw [hb] at e
            obtain rfl := Option.some.inj e
            simp; omega
        · refine hbe.out.trans ((hbm'.out.mono hsz1).trans ((Kept.of_grown (S := fun b => w.heap.size ≤ b) hg1 (fun b hb _ => hprm.out.2.1 b hb)).below (by omega) (fun b hb h => by omega)))
      case measure => simp [intOf]; omega
    · obtain rfl : k = qs.length := by omega
      replace hpr := Lib.hid hpr
      replace hbe := Lib.hid hbe
      have hpl' : plain qs' = plain qs := by rw [hpl]; exact List.take_of_length_le (by simp [plain])
      replace hpl' := Lib.hid hpl'
      clear hpl
      replace hql := Lib.hid hql
      go_wp2_with fail
      go_ret
      exact ⟨_, qs', rfl, hpr.out, hpl'.out, hbe.out⟩

theorem pending_none (w : World) (p : Option Addr) (hb : Calls Try.prog 14 #[.pointer p] w fun e w' => e = .returned (.int .i64 0) ∧ w' = w) :
    Calls Try.prog 25 #[.pointer p] w fun e w' => e = .returned (.slice none 0 0) ∧ w' = w := by
  replace hb := Lib.hid hb
  go_enter Try.func25, Try.ntmps25
  go_wp2_with (go_at_call 14; refine hb.out.mono ?_; rintro e w' ⟨rfl, rfl⟩)
  go_ret
  exact ⟨rfl, rfl⟩

theorem DRep.pending (h : DRep S w D a) (hop : a.ops ≤ 1000000) :
    Calls Try.prog 25 #[.pointer (some ⟨D, 0, none⟩)] w fun e w' => ∃ v qs, e = .returned v ∧ PRow (fun b => w.heap.size ≤ b) w' v qs ∧ plain qs = a.pend ∧ Below w.heap.size w w' := by
  have hb := blocks_cell w D a.n h.cell0
  have hlo := h.good.lo
  have hz : ((a.n : Int) == 0) = false := by simp; omega
  have hfew := h.good.few
  obtain ⟨Md, Mn, pv, fd, qs, hr⟩ := h
  have hql : qs.length ≤ 1000000 := by
    rw [hr.pend] at hfew; simp [plain] at hfew; omega
  have c2 : w.cell? ⟨D, 2, none⟩ = some pv := by simp [World.cell?, hr.cell]
  have hcp := copies_any hr.prow hql
  have hpe := hr.pend
  replace hb := Lib.hid hb
  replace hcp := Lib.hid hcp
  replace hpe := Lib.hid hpe
  clear hr
  go_enter Try.func25, Try.ntmps25
  go_wp2_with (first
    | (go_at_call 14; refine hb.out.mono ?_; rintro e w' ⟨rfl, rfl⟩)
    | (go_at_call 29; refine hcp.out.mono ?_; rintro e w1 ⟨v', qs', rfl, h1, h2, h3⟩))
  go_ret
  exact ⟨v', qs', rfl, h1, by rw [h2, hpe.out], h3⟩
end Go.Proofs.Ytpokfbmgcokkbaa
