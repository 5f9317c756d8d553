/- A disk: settle. -/
import Derived.Test.YtpokfbmgcokkbaaWrite
import Derived.StillTailTactics
namespace Go.Proofs.Ytpokfbmgcokkbaa
open Go.RowKit Go.Shelf
attribute [local go_sem] Oper.semAt_some

variable {S S' : Nat → Prop} {w w' : World} {D : Nat} {a : AD}

def pAt (ps : List (Int × List Int)) (k : Nat) : Int × List Int := (ps[k]?).getD (0, [])
/-- What stands for good when the first k of the pending have been looked at. -/
def setTo (a : AD) (st : Nat → Bool) : Nat → Int → List Int
  | 0 => a.done
  | k + 1 => if st k then fun i => if i = (pAt a.pend k).1 then (pAt a.pend k).2 else setTo a st k i else setTo a st k
def setA (a : AD) (st : Nat → Bool) : AD := { a with done := setTo a st a.pend.length, pend := [] }

theorem setTo_length (hg : Good a) (st : Nat → Bool) : ∀ k, k ≤ a.pend.length → ∀ i, (setTo a st k i).length = 256
  | 0, _, i => hg.done i
  | k + 1, hk, i => by
    unfold setTo
    split
    · by_cases e : i = (pAt a.pend k).1
      · simp only [e, if_true]
        have : pAt a.pend k ∈ a.pend := by unfold pAt; rw [List.getElem?_eq_getElem (by omega)]; exact List.getElem_mem _
        exact (hg.pend _ this).1
      · simp only [e, if_false]; exact setTo_length hg st k (by omega) i
    · exact setTo_length hg st k (by omega) i

/-- A key of what stands for good is told. -/
theorem DRepAt.put {Md Mn : Nat} {pv : Value} {fd : Int → Option Value} {qs : List PQ} (h : DRepAt S w D a Md Mn pv fd qs) (hk : ∀ b, b < w.heap.size → b ≠ Md → w'.heap[b]? = w.heap[b]?) {x : Int} {v : Value} {bs : List Int}
    (him : IMap w' Md (upd fd x (some v))) (hb : BB S w v bs) : DRepAt S w' D { a with done := fun i => if i = x then bs else a.done i } Md Mn pv (upd fd x (some v)) qs := by
  have hbb : ∀ u cs, BB S w u cs → BB S w' u cs := fun u cs hu => ⟨hu.1, hu.2.1.kept fun b hb => hk b (hu.2.1.lt hb).2 (fun e => row_map hu.2.1 h.md (e ▸ hb)), hu.2.2⟩
  have hDM := map_other h.cell h.md
  have hg := h.good
  refine { hD := h.hD, hMd := h.hMd, hMn := h.hMn, cell := (hk D (Array.getElem?_eq_some_iff.1 h.cell).1 hDM).trans h.cell, md := him, mn := h.mn.of_block (hk Mn h.mn.lt (Ne.symm h.ne)), ne := h.ne, prow := ⟨?_, h.prow.2.1, fun q hq => hbb _ _ (h.prow.2.2 q hq)⟩, pend := h.pend, some_ := fun i u hu => ?_, none_ := fun i hi => ?_, good := ⟨hg.lo, hg.hi, fun i => ?_, hg.pend, hg.few⟩ }
  · refine ⟨h.prow.1.1, ?_⟩
    rcases h.prow.1.2 with h6 | ⟨g, cap, cur, e, a1, a2, a3⟩
    · exact .inl h6
    · exact .inr ⟨g, cap, cur, e, a1, (hk g (Array.getElem?_eq_some_iff.1 a2).1 (map_other a2 h.md)).trans a2, a3⟩
  · unfold upd at hu
    by_cases e : i = x
    · simp only [e, if_true] at hu ⊢
      obtain rfl := Option.some.inj hu
      exact hbb _ _ hb
    · simp only [e, if_false] at hu ⊢
      exact hbb _ _ (h.some_ i u hu)
  · unfold upd at hi
    by_cases e : i = x
    · simp only [e, if_true] at hi; cases hi
    · simp only [e, if_false] at hi ⊢
      exact h.none_ i hi
  · by_cases e : i = x
    · simp only [e, if_true]; exact hb.1
    · simp only [e, if_false]; exact hg.done i

theorem DRepAt.settled {Md Mn : Nat} {pv : Value} {fd : Int → Option Value} {qs : List PQ} {om : Obj} (h : DRepAt S w D a Md Mn pv fd qs) (him : IMap ((w.setCell ⟨D, 2, none⟩ (.slice none 0 0)).putObj Mn om) Mn (fun _ => none)) :
    DRepAt S ((w.setCell ⟨D, 2, none⟩ (.slice none 0 0)).putObj Mn om) D { a with pend := [] } Md Mn (.slice none 0 0) fd [] := by
  have hDM := map_other h.cell h.mn
  have hDd := map_other h.cell h.md
  have hk : ∀ b, b ≠ D → b ≠ Mn → ((w.setCell ⟨D, 2, none⟩ (.slice none 0 0)).putObj Mn om).heap[b]? = w.heap[b]? := fun b h1 h2 => by
    rw [World.putObj_heap_other h2, Below.heap_setCell _ _ _ _ h1]
  have hg := h.good
  refine { hD := h.hD, hMd := h.hMd, hMn := h.hMn, cell := ?_, md := h.md.of_block (hk Md (Ne.symm hDd) h.ne), mn := ?_, ne := h.ne, prow := ⟨World.ownsRow_nil _ _ _ _, fun b hb => by simp [Value.ownBlock] at hb, fun q hq => by cases hq⟩, pend := rfl, some_ := fun i v hv => ?_, none_ := h.none_, good := ⟨hg.lo, hg.hi, hg.done, fun p hp => (by cases hp), Nat.zero_le _⟩ }
  · rw [World.putObj_heap_other hDM, setCell_heap _ _ _ _ _ _ h.cell]; rfl
  · have : lastV [] = fun _ => none := rfl
    rw [this]; exact him
  · have hb := h.some_ i v hv
    refine ⟨hb.1, hb.2.1.kept fun b hbv => hk b (fun e => ?_) (fun e => row_map hb.2.1 h.mn (e ▸ hbv)), hb.2.2⟩
    exact row_other hb.2.1 h.cell (by decide) (e ▸ hbv)

/-- A builtin at the operation, by its run. -/
theorem wpList_builtin1 {P : Program} (w : World) {ops : Array Oper} {rest : List Oper} {o : Oper} {a : Act} {Q : Exit → Act → World → Prop}
    (hg : o.guard = none) (b : Builtin) (x : Operand) (ts : Array TypeId) (hop : o.op = Op.call { callee := Callee.builtin b, args := #[x], argTypes := ts }) (u v : Value) (w1 : World) (hx : a.eval x = u)
    (hrun : ∀ cs, (builtin b ts o.type cs #[u]).run P w = .ok (.value v) w1) (hK : wpList P ops Q rest (a.put o.dst v) w1) :
    wpList P ops Q (o :: rest) a w := by
  refine wpList_plain hg fun K' hK' => ?_
  unfold Oper.wp
  simp [execOp, hop, hx, resolve, invoke, hrun, Result.andThen]
  exact hK' _ _ hK

theorem run_builtin_clear {P : Program} {w w1 : World} {ts : Array TypeId} {ty : TypeId} {cs : Array Bool} {args : Array Value} {v : Value} (h : (Builtin.clear_ ts ty args).run P w = .ok v w1) : (builtin .clear ts ty cs args).run P w = .ok (.value v) w1 := by
  simp [builtin, h]

theorem PRow.cells {pg pc : Nat} {qs : List PQ} (h : PRow S w (.slice (some ⟨pg, 0, none⟩) qs.length pc) qs) (i : Nat) (hi : i < qs.length) : w.cell? ⟨pg, i * 2, none⟩ = some (.int .i64 qs[i].blk) ∧ w.cell? ⟨pg, i * 2 + 1, none⟩ = some qs[i].v := by
  rcases h.1.2 with ⟨_, h0⟩ | ⟨g, cap, cur, e, _, hb, h1, h2, h3, h4⟩
  · omega
  · obtain rfl : pg = g := by simpa using (Value.slice.inj e).1
    obtain ⟨a1, a2⟩ := qcells_at qs i hi
    have key : ∀ j u, j < qs.length * 2 → (qcells qs)[j]? = some u → w.cell? ⟨pg, j, none⟩ = some u := by
      intro j u hj hv
      rw [← h4, List.getElem?_take_of_lt hj] at hv
      simp [World.cell?, hb]
      simpa using hv
    exact ⟨key _ _ (by omega) a1, key _ _ (by omega) a2⟩

set_option maxRecDepth 100000 in
set_option maxHeartbeats 4000000 in
theorem DRep.settle (h : DRep S w D a) (hop : a.ops ≤ 1000000) (st : Nat → Bool) (P : World → Prop) (hP0 : P w) (hPk : ∀ w1 w2, P w1 → Kept S w1 w2 → P w2) (gf : Nat) (caps : Array Value)
    (eg : ∀ args w, (callFunc gf args).run Try.prog w = .ok (.enter gf args) w) (hst : ∀ wr (k : Nat), k < a.pend.length → P wr → Calls Try.prog gf (#[.int .i64 (k : Int)] ++ caps) wr fun e w' => e = .returned (.bool (st k)) ∧ w' = wr) :
    Calls Try.prog 34 #[.pointer (some ⟨D, 0, none⟩), .func (.func gf) #[] caps] w fun e w' => e = .returned (.tuple #[]) ∧ DRep S w' D (setA a st) ∧ Kept S w w' := by
  obtain ⟨Md, Mn, pv, fd, qs, hr⟩ := h
  obtain ⟨pa, pc, rfl⟩ : ∃ pa pc, pv = .slice pa qs.length pc := by
    rcases hr.prow.1.2 with ⟨rfl, h0⟩ | ⟨g, cap, cur, rfl, _⟩
    · exact ⟨_, _, by rw [h0]⟩
    · exact ⟨_, _, rfl⟩
  have k2 : w.cell? ⟨D, 2, none⟩ = some (.slice pa qs.length pc) := by simp [World.cell?, hr.cell]
  have hpl : a.pend.length = qs.length := by rw [hr.pend]; simp [plain]
  have hql : qs.length ≤ 1000000 := by have := hr.good.few; omega
  replace hr := Lib.hid hr
  rw [hpl] at hst
  replace hst := Lib.hid hst
  replace hpl := Lib.hid hpl
  replace hPk := Lib.hid hPk
  replace hP0 := Lib.hid hP0
  go_enter Try.func34, Try.ntmps34
  go_wp2_with fail
  go_loopw [11] (fun i wr => ∃ k : Nat, k ≤ qs.length ∧ i = .int .i64 k ∧ ∃ fd, DRepAt S wr D { a with done := setTo a st k } Md Mn (.slice pa qs.length pc) fd qs ∧ Kept S w wr ∧ P wr) (fun i _ => qs.length - (intOf i).toNat)
  case atStart => exact ⟨0, Nat.zero_le _, rfl, fd, hr.out, Kept.refl _ _, hP0.out⟩
  case round =>
    obtain ⟨k, hk, rfl, fd', hr', hkp, hP⟩ := hrel
    obtain ⟨wo, rfl⟩ : ∃ wo : World, wo = wr := ⟨_, rfl⟩
    by_cases hlt : k < qs.length
    · obtain ⟨pg, rfl⟩ : ∃ pg, pa = some ⟨pg, 0, none⟩ := by
        rcases hr'.prow.1.2 with ⟨_, h0⟩ | ⟨g, cap, cur, e, _⟩
        · omega
        · exact ⟨g, (Value.slice.inj e).1⟩
      have hpc := hr'.prow.cells k hlt
      obtain ⟨c0, c1⟩ := hpc
      obtain ⟨x, v, e0, e1⟩ : ∃ x v, qs[k].blk = x ∧ qs[k].v = v := ⟨_, _, rfl, rfl⟩
      rw [e0] at c0
      rw [e1] at c1
      have hqb := hr'.prow.2.2 qs[k] (List.getElem_mem _)
      rw [e1] at hqb
      obtain ⟨vg, vc, rfl⟩ := hqb.shape
      have hal : ∀ o, Kept S wo (wo.alloc o) := fun o => (Kept.refl S wo).alloc o
      have hcall := fun o => hst.out (wo.alloc o) k hlt (hPk.out _ _ hP (hal o))
      obtain ⟨b, hb⟩ : ∃ b, st k = b := ⟨_, rfl⟩
      rw [hb] at hcall
      replace hcall := Lib.hid hcall
      replace hr' := Lib.hid hr'
      replace hkp := Lib.hid hkp
      replace hP := Lib.hid hP
      replace hqb := Lib.hid hqb
      replace e0 := Lib.hid e0
      replace e1 := Lib.hid e1
      replace hb := Lib.hid hb
      replace hal := Lib.hid hal
      go_wp2_with fail
      refine (hcall.out _).mono ?_; rintro e w4 ⟨rfl, rfl⟩
      cases b
      · have hs : setTo a st (k + 1) = setTo a st k := by simp [setTo, hb.out]
        replace hs := Lib.hid hs
        go_wp2_with fail
        go_roundw
        case rel => exact ⟨k + 1, by omega, by go_num, fd', by rw [hs.out]; exact hr'.out.kept (fun b _ hb => Below.heap_alloc _ _ _ hb), hkp.out.trans (hal.out _), hPk.out _ _ hP.out (hal.out _)⟩
        case measure => simp [intOf]; omega
      · have hpa : pAt a.pend k = (x, qs[k].bs) := by
          unfold pAt
          have : a.pend = plain qs := hr'.out.pend
          rw [this, ← e0.out]
          simp [plain, hlt]
        have hs : setTo a st (k + 1) = fun i => if i = x then qs[k].bs else setTo a st k i := by
          funext i
          simp only [setTo, hb.out, if_true, hpa]
        obtain ⟨W1, hW1⟩ : ∃ W1, W1 = wo.alloc (.cells #[.int .i64 x, .slice (some ⟨vg, 0, none⟩) 256 vc] 58) := ⟨_, rfl⟩
        have hbe : ∀ b, b < wo.heap.size → W1.drew.heap[b]? = wo.heap[b]? := fun b hb => by rw [hW1]; exact Below.heap_alloc _ _ _ hb
        have hMl := hr'.out.md.lt
        have hDl : D < wo.heap.size := (Array.getElem?_eq_some_iff.1 hr'.out.cell).1
        have hDM := map_other hr'.out.cell hr'.out.md
        have d1 : W1.cell? ⟨D, 1, none⟩ = some (.map (some Md)) := by
          have := (hbe D hDl).trans hr'.out.cell
          have : W1.heap[D]? = _ := this
          simp [World.cell?, this]
        have hnew : W1.heap[wo.heap.size]? = some (.cells #[.int .i64 x, .slice (some ⟨vg, 0, none⟩) 256 vc] 58 (0, 0)) := by rw [hW1]; exact World.alloc_heap_new _ _
        have d2 : W1.cell? ⟨wo.heap.size, 0, none⟩ = some (.int .i64 x) := by simp [World.cell?, hnew]
        have d3 : W1.cell? ⟨wo.heap.size, 1, none⟩ = some (.slice (some ⟨vg, 0, none⟩) 256 vc) := by simp [World.cell?, hnew]
        obtain ⟨om, hmu, him⟩ := (hr'.out.md.of_block (hbe Md hMl)).update (P := Try.prog) Try.underlying48 Try.underlying3 x (.slice (some ⟨vg, 0, none⟩) 256 vc)
        have hk1 : Kept S wo W1 := by rw [hW1]; exact hal.out _
        have hsz1 : wo.heap.size ≤ W1.heap.size := hk1.size
        have hk2 : Kept S wo (W1.drew.putObj Md om) := (hk1.drew).putObj (fun _ => hr'.out.hMd) om
        rw [← hW1]
        have hput := hr'.out.put (w' := W1.drew.putObj Md om) (fun b hb hne => (World.putObj_heap_other hne).trans (hbe b hb)) him hqb.out
        replace hput := Lib.hid hput
        replace hk2 := Lib.hid hk2
        replace hs := Lib.hid hs
        replace hbe := Lib.hid hbe
        replace hnew := Lib.hid hnew
        replace hW1 := Lib.hid hW1
        replace him := Lib.hid him
        replace hpa := Lib.hid hpa
        go_wp2_with fail
        go_still_tail 8, (by kernel_rfl)
        go_wp2_with fail
        go_roundw
        case rel => exact ⟨k + 1, by omega, by go_num, _, by rw [hs.out]; exact hput.out, hkp.out.trans hk2.out, hPk.out _ _ hP.out hk2.out⟩
        case measure => simp [intOf]; omega
    · obtain rfl : k = qs.length := by omega
      have hDl : D < wo.heap.size := (Array.getElem?_eq_some_iff.1 hr'.cell).1
      have k2' : wo.cell? ⟨D, 2, none⟩ = some (.slice pa qs.length pc) := by simp [World.cell?, hr'.cell]
      have z2' : wo.frozen? ⟨D, 2, none⟩ = false := by simp [World.frozen?, hr'.cell]
      have hD3 := setCell_heap wo D 2 (.slice none 0 0) _ _ hr'.cell
      have f3 : (wo.setCell ⟨D, 2, none⟩ (.slice none 0 0)).cell? ⟨D, 3, none⟩ = some (.map (some Mn)) := by simp [World.cell?, hD3]
      have hDM := map_other hr'.cell hr'.mn
      obtain ⟨om, hclr, him⟩ := (hr'.mn.of_block (w' := wo.setCell ⟨D, 2, none⟩ (.slice none 0 0)) (Below.heap_setCell _ _ _ _ (Ne.symm hDM))).clear (P := Try.prog) Try.underlying48 0
      have hfin := hr'.settled him
      have hkf : Kept S wo ((wo.setCell ⟨D, 2, none⟩ (.slice none 0 0)).putObj Mn om) := ((Kept.refl S wo).setCell (p := ⟨D, 2, none⟩) (fun _ => hr'.hD) _).putObj (fun _ => hr'.hMn) om
      replace hfin := Lib.hid hfin
      replace hkf := Lib.hid hkf
      replace hkp := Lib.hid hkp
      replace hD3 := Lib.hid hD3
      clear hr' him hP
      go_wp2_with (refine wpList_builtin1 _ rfl .clear (.tmp 34) #[48] rfl (.map (some Mn)) (.tuple #[]) _ rfl (fun cs => run_builtin_clear hclr) ?_)
      go_end0
      have hse : setA a st = { ({ a with done := setTo a st qs.length } : AD) with pend := [] } := by unfold setA; rw [hpl.out]
      exact ⟨rfl, by rw [hse]; exact ⟨_, _, _, _, _, hfin.out⟩, hkp.out.trans hkf.out⟩
end Go.Proofs.Ytpokfbmgcokkbaa
