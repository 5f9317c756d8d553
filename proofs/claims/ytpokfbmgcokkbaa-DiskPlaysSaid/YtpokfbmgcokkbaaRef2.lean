/- The reference's disk: Read, Flush, Crash. -/
import Derived.Test.YtpokfbmgcokkbaaRef
namespace Go.Proofs.Ytpokfbmgcokkbaa
open Go.RowKit Go.Shelf
attribute [local go_sem] Oper.semAt_some

variable {S S' : Nat → Prop} {w w' : World} {R : Nat} {a : AD}

/-- One block of the row. -/
theorem LRow.get {lv : Value} {n : Nat} {done : Int → List Int} (h : LRow S w lv n done) {i : Nat} (hi : i < n) :
    ∃ g cap v, lv = .slice (some ⟨g, 0, none⟩) n cap ∧ S g ∧ w.cell? ⟨g, i, none⟩ = some v ∧ w.frozen? ⟨g, i, none⟩ = false ∧ BB S w v (done i) := by
  obtain ⟨ls, h1, h2, h3⟩ := h
  obtain ⟨v, e, hb⟩ := h3 i hi
  rcases h1.2 with ⟨_, h0⟩ | ⟨g, cap, cur, rfl, _, hb', h4, h5, h6, h7⟩
  · omega
  · refine ⟨g, cap, v, rfl, h2 g rfl, ?_, by simp [World.frozen?, hb'], hb⟩
    rw [← h7, List.getElem?_take_of_lt (by omega)] at e
    simp [World.cell?, hb']
    simpa using e
theorem LRow.shape {lv : Value} {n : Nat} {done : Int → List Int} (h : LRow S w lv n done) : ∃ ad cap, lv = .slice ad n cap := by
  obtain ⟨ls, h1, h2, h3⟩ := h
  rcases h1.2 with ⟨rfl, h0⟩ | ⟨g, cap, cur, rfl, _⟩
  · exact ⟨none, 0, by rw [h0]⟩
  · exact ⟨_, cap, rfl⟩

theorem rread_bad (h : RRep S w R a) (i : Int) (hi : i < 0 ∨ (a.n : Int) ≤ i) :
    Calls Try.prog 32 #[.pointer (some ⟨R, 0, none⟩), .int .i64 i] w fun e w' => e = .returned (.tuple #[.slice none 0 0, .int .i64 5]) ∧ w' = w := by
  obtain ⟨lv, pv, qs, hr⟩ := h
  obtain ⟨la, lc, rfl⟩ := hr.lrow.shape
  have c0 : w.cell? ⟨R, 0, none⟩ = some (.slice la a.n lc) := by simp [World.cell?, hr.cell]
  clear hr
  by_cases h1 : i < 0
  · go_enter Try.func32, Try.ntmps32
    go_wp2_with fail
    go_ret2
    exact ⟨rfl, rfl⟩
  · have h2 : (a.n : Int) ≤ i := by omega
    clear hi
    go_enter Try.func32, Try.ntmps32
    go_wp2_with fail
    go_ret2
    exact ⟨rfl, rfl⟩

theorem lastB_take (qs : List PQ) (k : Nat) (hk : k < qs.length) (i : Int) : lastB (plain (qs.take (k + 1))) i = if i = qs[k].blk then some qs[k].bs else lastB (plain (qs.take k)) i := by
  rw [List.take_succ_eq_append_getElem hk]
  have : plain (qs.take k ++ [qs[k]]) = plain (qs.take k) ++ [(qs[k].blk, qs[k].bs)] := by unfold plain; rw [List.map_append]; rfl
  rw [this, lastB_snoc]

set_option maxRecDepth 100000 in
set_option maxHeartbeats 4000000 in
theorem RRep.read_ok (h : RRep S w R a) (hop : a.ops ≤ 1000000) (i : Int) (h0 : 0 ≤ i) (h1 : i < a.n) :
    Calls Try.prog 32 #[.pointer (some ⟨R, 0, none⟩), .int .i64 i] w fun e w' => ∃ v, e = .returned (.tuple #[v, .int .i64 0]) ∧ Row w.heap.size w' v (rdA a i) ∧ (rdA a i).length = 256 ∧ Below w.heap.size w w' := by
  obtain ⟨lv, pv, qs, hr⟩ := h
  obtain ⟨m, rfl⟩ : ∃ m : Nat, i = (m : Int) := ⟨i.toNat, by omega⟩
  have hm : m < a.n := by omega
  obtain ⟨lg, lc, v0, rfl, _, cl, _, hb0⟩ := hr.lrow.get hm
  obtain ⟨pa, pc, rfl⟩ := hr.prow.shape
  have c0 : w.cell? ⟨R, 0, none⟩ = some (.slice (some ⟨lg, 0, none⟩) a.n lc) := by simp [World.cell?, hr.cell]
  have c1 : w.cell? ⟨R, 1, none⟩ = some (.slice pa qs.length pc) := by simp [World.cell?, hr.cell]
  have hql : qs.length ≤ 1000000 := by
    have := hr.good.few
    rw [hr.pend] at this
    simp [plain] at this
    omega
  have hrd : rdA a m = (lastB (plain qs) m).getD (a.done m) := by unfold rdA; rw [hr.pend]
  rw [hrd]
  obtain ⟨d, hd⟩ : ∃ d, a.done m = d := ⟨_, rfl⟩
  rw [hd] at hb0 ⊢
  have hprow := hr.prow
  replace hprow := Lib.hid hprow
  replace hb0 := Lib.hid hb0
  clear hr hd hrd
  go_enter Try.func32, Try.ntmps32
  go_wp2_with fail
  go_loop [6, 7] (fun o i => ∃ (k : Nat) (bs : List Int), k ≤ qs.length ∧ i = .int .i64 k ∧ BB S w o bs ∧ bs = (lastB (plain (qs.take k)) m).getD d) (fun _ i => qs.length - (intOf i).toNat)
  case atStart => exact ⟨0, d, Nat.zero_le _, rfl, hb0.out, rfl⟩
  case round =>
    obtain ⟨k, bs, hk, rfl, hbb, hbs⟩ := hrel
    by_cases hlt : k < qs.length
    · obtain ⟨pg, rfl⟩ := hprow.out.head hlt
      obtain ⟨e0, e1⟩ := hprow.out.cells k hlt
      have hqb := hprow.out.2.2 qs[k] (List.getElem_mem _)
      have hts := lastB_take qs k hlt m
      obtain ⟨x, v, b2, f0, f1, f2⟩ : ∃ x v b2, qs[k].blk = x ∧ qs[k].v = v ∧ qs[k].bs = b2 := ⟨_, _, _, rfl, rfl, rfl⟩
      rw [f0] at e0 hts
      rw [f1] at e1 hqb
      rw [f2] at hqb hts
      obtain ⟨g1, cp1, hv1⟩ := hqb.shape
      replace hts := Lib.hid hts
      replace hqb := Lib.hid hqb
      replace hbb := Lib.hid hbb
      replace hbs := Lib.hid hbs
      replace f0 := Lib.hid f0
      replace f1 := Lib.hid f1
      replace f2 := Lib.hid f2
      replace hv1 := Lib.hid hv1
      by_cases hx : x = (m : Int)
      · have hxb : (x == (m : Int)) = true := by simpa using hx
        replace hx := Lib.hid hx
        go_wp2_with fail
        go_round
        case rel => exact ⟨k + 1, b2, by omega, by go_num, hqb.out, by rw [hts.out, if_pos hx.out.symm]; rfl⟩
        case measure => simp [intOf]; omega
      · have hxb : (x == (m : Int)) = false := by simpa using hx
        replace hx := Lib.hid hx
        go_wp2_with fail
        go_round
        case rel => exact ⟨k + 1, bs, by omega, by go_num, hbb.out, by rw [hts.out, if_neg (fun e => hx.out e.symm)]; exact hbs.out⟩
        case measure => simp [intOf]; omega
    · obtain rfl : k = qs.length := by omega
      rw [List.take_length] at hbs
      have hcl := copied_any hbb.2.1 hbb.1
      have hlen := hbb.1
      obtain ⟨g1, cp1, rfl⟩ := hbb.shape
      replace hcl := Lib.hid hcl
      replace hlen := Lib.hid hlen
      replace hbs := Lib.hid hbs
      clear hbb
      go_wp2_with (go_at_call 31; refine hcl.out.mono ?_; rintro e w3 ⟨v', rfl, hrow, hbe⟩)
      go_ret2
      exact ⟨_, rfl, by rw [← hbs.out]; exact hrow, by rw [← hbs.out]; exact hlen.out, hbe⟩

theorem setTo_same (a : AD) (st : Nat → Bool) (k : Nat) : ∀ n, k ≤ n → (∀ j, k ≤ j → j < n → st j = false) → setTo a st n = setTo a st k
  | 0, h, _ => by obtain rfl : k = 0 := by omega
                  rfl
  | n + 1, h, hf => by
    by_cases e : k = n + 1
    · rw [e]
    · have := hf n (by omega) (by omega)
      rw [← setTo_same a st k n (by omega) (fun j h1 h2 => hf j h1 (by omega))]
      simp [setTo, this]

theorem BB.cell26 {v x : Value} {bs : List Int} {lg m : Nat} {cur : Array Value} {t : TypeId} (hb : BB S w v bs) (hl : w.heap[lg]? = some (.cells cur t (0, 0))) (ht : t ≠ 5) : BB S (w.setCell ⟨lg, m, none⟩ x) v bs :=
  ⟨hb.1, hb.2.1.kept fun b hbv => Below.heap_setCell _ _ _ _ (fun e => row_other hb.2.1 hl ht (by rw [hbv, show b = lg from e])), hb.2.2⟩
theorem PRow.cellOther {pv x : Value} {qs : List PQ} {lg m : Nat} {cur : Array Value} {t : TypeId} (h : PRow S w pv qs) (hl : w.heap[lg]? = some (.cells cur t (0, 0))) (ht : t ≠ 5) (ht' : t ≠ 58) : PRow S (w.setCell ⟨lg, m, none⟩ x) pv qs :=
  ⟨own_kept h.1 fun b hb => Below.heap_setCell _ _ _ _ (fun e => row_other h.1 hl ht' (by rw [hb, show b = lg from e])), h.2.1, fun q hq => (h.2.2 q hq).cell26 hl ht⟩

/-- One block of the row is told anew. -/
theorem LRow.set {lg lc n m : Nat} {done : Int → List Int} {v : Value} {bs : List Int} (h : LRow S w (.slice (some ⟨lg, 0, none⟩) n lc) n done) (hm : m < n) (hb : BB S w v bs) :
    LRow S (w.setCell ⟨lg, m, none⟩ v) (.slice (some ⟨lg, 0, none⟩) n lc) n (fun i => if i = (m : Int) then bs else done i) := by
  obtain ⟨ls, h1, h2, h3⟩ := h
  have hln : ls.length = n := by have := h1.1; simpa using this
  rcases h1.2 with ⟨_, h0⟩ | ⟨g, cap, cur, e, h6, hb', h4, h5, h8, h7⟩
  · omega
  · obtain rfl : lg = g := by simpa using (Value.slice.inj e).1
    have hcs : cur.size = cap := by omega
    refine ⟨ls.set m v, ⟨by simpa using h1.1, .inr ⟨lg, cap, cur.set! m v, e, h6, setCell_heap _ _ _ _ _ _ hb', h4, h5, by simpa using h8, ?_⟩⟩, h2, fun i hi => ?_⟩
    · rw [← h7]
      apply List.ext_getElem?
      intro j
      simp [List.getElem?_set, List.getElem?_take, Array.getElem?_setIfInBounds]
      by_cases hj : j < n
      · by_cases e2 : m = j
        · subst e2; simp [hj]; rw [if_pos (by omega), if_pos (by omega)]
        · simp [hj, e2]
      · simp [hj]; try omega
    · by_cases e2 : i = m
      · subst e2
        exact ⟨v, by rw [List.getElem?_set_self (by omega)], by simp only [if_true]; exact hb.cell26 hb' (by decide)⟩
      · obtain ⟨v2, e3, e4⟩ := h3 i hi
        exact ⟨v2, by rw [List.getElem?_set_ne (by omega)]; exact e3, by simp only [show ¬ ((i : Int) = (m : Int)) by omega, if_false]; exact e4.cell26 hb' (by decide)⟩

theorem RAt.put {lg lc m : Nat} {pv v : Value} {qs : List PQ} {bs : List Int} (h : RAt S w R a (.slice (some ⟨lg, 0, none⟩) a.n lc) pv qs) (hm : m < a.n) (hb : BB S w v bs) :
    RAt S (w.setCell ⟨lg, m, none⟩ v) R { a with done := fun i => if i = (m : Int) then bs else a.done i } (.slice (some ⟨lg, 0, none⟩) a.n lc) pv qs := by
  have hg := h.good
  obtain ⟨ls, h1, h2, h3⟩ := h.lrow
  rcases h1.2 with ⟨_, h0⟩ | ⟨g, cap, cur, e, h6, hb', _⟩
  · omega
  · obtain rfl : lg = g := by simpa using (Value.slice.inj e).1
    refine { hR := h.hR, cell := ?_, lrow := h.lrow.set hm hb, prow := h.prow.cellOther hb' (by decide) (by decide), pend := h.pend, good := ⟨hg.lo, hg.hi, fun i => ?_, hg.pend, hg.few⟩ }
    · rw [Below.heap_setCell _ _ _ _ (fun e => row_other h1 h.cell (by decide) (by rw [show R = lg from e]; rfl))]
      exact h.cell
    · by_cases e : i = (m : Int)
      · simp only [e, if_true]; exact hb.1
      · simp only [e, if_false]; exact hg.done i

theorem setTo_step (a : AD) (st : Nat → Bool) {k : Nat} {x : Int} {bs : List Int} (hs : st k = true) (hp : pAt a.pend k = (x, bs)) : setTo a st (k + 1) = fun i => if i = x then bs else setTo a st k i := by
  funext i
  simp only [setTo, hs, if_true, hp]
theorem setTo_skip (a : AD) (st : Nat → Bool) {k : Nat} (hs : st k = false) : setTo a st (k + 1) = setTo a st k := by simp [setTo, hs]
theorem plain_at {qs : List PQ} {k : Nat} (hk : k < qs.length) : pAt (plain qs) k = (qs[k].blk, qs[k].bs) := by simp [pAt, plain, hk]

theorem RAt.settle {a0 : AD} {st : Nat → Bool} {lv pv : Value} {qs : List PQ} (h : RAt S w R { a0 with done := setTo a0 st qs.length } lv pv qs) (hpl : a0.pend.length = qs.length) :
    RAt S (w.setCell ⟨R, 1, none⟩ (.slice none 0 0)) R (setA a0 st) lv (.slice none 0 0) [] := by
  have hg := h.good
  have hse : setA a0 st = { ({ a0 with done := setTo a0 st qs.length } : AD) with pend := [] } := by unfold setA; rw [hpl]
  rw [hse]
  obtain ⟨ls, h1, h2, h3⟩ := h.lrow
  refine { hR := h.hR, cell := ?_, lrow := ⟨ls, own_kept h1 fun b hb => Below.heap_setCell _ _ _ _ (fun e => row_other h1 h.cell (by decide) (by rw [hb, show b = R from e])), h2, fun i hi => ?_⟩, prow := ⟨World.ownsRow_nil _ _ _ _, fun b hb => by simp [Value.ownBlock] at hb, fun q hq => by cases hq⟩, pend := rfl, good := ⟨hg.lo, hg.hi, hg.done, fun p hp => (by cases hp), Nat.zero_le _⟩ }
  · rw [setCell_heap _ _ _ _ _ _ h.cell]; rfl
  · obtain ⟨v, e, hb⟩ := h3 i hi
    exact ⟨v, e, hb.cell26 h.cell (by decide)⟩
theorem RAt.bump {lv pv : Value} {qs : List PQ} (h : RAt S w R a lv pv qs) :
    RAt S (w.setCell ⟨R, 2, none⟩ (.int .i64 ((a.ops : Int) + 1))) R { a with ops := a.ops + 1 } lv pv qs := by
  have hg := h.good
  obtain ⟨ls, h1, h2, h3⟩ := h.lrow
  refine { hR := h.hR, cell := ?_, lrow := ⟨ls, own_kept h1 fun b hb => Below.heap_setCell _ _ _ _ (fun e => row_other h1 h.cell (by decide) (by rw [hb, show b = R from e])), h2, fun i hi => ?_⟩, prow := h.prow.cellOther h.cell (by decide) (by decide), pend := h.pend, good := ⟨hg.lo, hg.hi, hg.done, hg.pend, Nat.le_succ_of_le hg.few⟩ }
  · rw [setCell_heap _ _ _ _ _ _ h.cell]; rfl
  · obtain ⟨v, e, hb⟩ := h3 i hi
    exact ⟨v, e, hb.cell26 h.cell (by decide)⟩

set_option maxRecDepth 100000 in
set_option maxHeartbeats 4000000 in
theorem RRep.flush (h : RRep S w R a) (hop : a.ops ≤ 1000000) :
    Calls Try.prog 37 #[.pointer (some ⟨R, 0, none⟩)] w fun e w' => e = .returned (.tuple #[]) ∧ RRep S w' R (flA a) ∧ Kept S w w' := by
  obtain ⟨lv, pv, qs, hr⟩ := h
  have hgood := hr.good
  obtain ⟨lg, lc, _, rfl, _, _, _, _⟩ := hr.lrow.get (i := 0) (by have := hgood.lo; omega)
  obtain ⟨pa, pc, rfl⟩ := hr.prow.shape
  have hpl : a.pend.length = qs.length := by rw [hr.pend]; simp [plain]
  have hql : qs.length ≤ 1000000 := by have := hgood.few; omega
  have hwr : IntKind.i64.wrap ((a.ops : Int) + 1) = (a.ops : Int) + 1 := by rw [IntKind.wrap_i64]; omega
  have hhi := hgood.hi
  replace hr := Lib.hid hr
  replace hpl := Lib.hid hpl
  replace hgood := Lib.hid hgood
  replace hwr := Lib.hid hwr
  go_enter Try.func37, Try.ntmps37
  go_wp2_with fail
  go_loopw [2] (fun i wr => ∃ k : Nat, k ≤ qs.length ∧ i = .int .i64 k ∧ RAt S wr R { a with done := setTo a (fun _ => true) k } (.slice (some ⟨lg, 0, none⟩) a.n lc) (.slice pa qs.length pc) qs ∧ Kept S w wr) (fun i _ => qs.length - (intOf i).toNat)
  case atStart => exact ⟨0, Nat.zero_le _, rfl, hr.out, Kept.refl _ _⟩
  case round =>
    obtain ⟨k, hk, rfl, hr', hkp⟩ := hrel
    obtain ⟨wo, rfl⟩ : ∃ wo : World, wo = wr := ⟨_, rfl⟩
    by_cases hlt : k < qs.length
    · obtain ⟨pg, rfl⟩ := hr'.prow.head hlt
      obtain ⟨e0, e1⟩ := hr'.prow.cells k hlt
      have hqb := hr'.prow.2.2 qs[k] (List.getElem_mem _)
      have hpa : pAt a.pend k = (qs[k].blk, qs[k].bs) := by rw [show a.pend = plain qs from hr'.pend]; exact plain_at hlt
      have hin := hgood.out.pend (pAt a.pend k) (by unfold pAt; rw [List.getElem?_eq_getElem (by have := hpl.out; omega)]; exact List.getElem_mem _)
      rw [hpa] at hin
      obtain ⟨m, hm⟩ : ∃ m : Nat, qs[k].blk = (m : Int) := ⟨qs[k].blk.toNat, by have := hin.2.1; simp at this; omega⟩
      rw [hm] at hin hpa e0
      have hmn : m < a.n := by have := hin.2.2; simp at this; omega
      obtain ⟨v, f1⟩ : ∃ v, qs[k].v = v := ⟨_, rfl⟩
      rw [f1] at e1 hqb
      obtain ⟨vg, vc, rfl⟩ := hqb.shape
      obtain ⟨lg', lc', v0, hlv, hSl, cl, fl, _⟩ := hr'.lrow.get hmn
      obtain ⟨rfl, rfl⟩ : lg = lg' ∧ lc = lc' := by simpa using hlv
      have c0 : wo.cell? ⟨R, 0, none⟩ = some (.slice (some ⟨lg, 0, none⟩) a.n lc) := by simp [World.cell?, hr'.cell]
      have c1 : wo.cell? ⟨R, 1, none⟩ = some (.slice (some ⟨pg, 0, none⟩) qs.length pc) := by simp [World.cell?, hr'.cell]
      have hm1 : (m : Int) < (a.n : Int) := by omega
      have hm0 : (0 : Int) ≤ (m : Int) := by omega
      have hput := hr'.put (m := m) hmn hqb
      have hst := setTo_step a (fun _ => true) (k := k) rfl hpa
      replace hput := Lib.hid hput
      replace hst := Lib.hid hst
      replace hr' := Lib.hid hr'
      replace hkp := Lib.hid hkp
      replace hqb := Lib.hid hqb
      replace hpa := Lib.hid hpa
      replace hm := Lib.hid hm
      replace hin := Lib.hid hin
      replace f1 := Lib.hid f1
      replace hSl := Lib.hid hSl
      replace hmn := Lib.hid hmn
      clear hlv
      go_wp2_with fail
      go_still_tail 21, (by kernel_rfl)
      go_wp2_with fail
      go_roundw
      case rel => exact ⟨k + 1, by omega, by go_num, by rw [hst.out]; exact hput.out.kept (fun _ _ _ => rfl), (hkp.out.drew).setCell (p := ⟨lg, m, none⟩) (fun _ => hSl.out) _⟩
      case measure => simp [intOf]; omega
    · obtain rfl : k = qs.length := by omega
      have c1 : wo.cell? ⟨R, 1, none⟩ = some (.slice pa qs.length pc) := by simp [World.cell?, hr'.cell]
      have z1 : wo.frozen? ⟨R, 1, none⟩ = false := by simp [World.frozen?, hr'.cell]
      have hD3 := setCell_heap wo R 1 (.slice none 0 0) _ _ hr'.cell
      have f2 : (wo.setCell ⟨R, 1, none⟩ (.slice none 0 0)).cell? ⟨R, 2, none⟩ = some (.int .i64 a.ops) := by simp [World.cell?, hD3]
      have z2 : (wo.setCell ⟨R, 1, none⟩ (.slice none 0 0)).frozen? ⟨R, 2, none⟩ = false := by simp [World.frozen?, hD3]
      have hset := hr'.settle hpl.out
      have hfin := hset.bump
      have hRS := hr'.hR
      replace hfin := Lib.hid hfin
      replace hkp := Lib.hid hkp
      replace hRS := Lib.hid hRS
      replace hD3 := Lib.hid hD3
      clear hr' hset
      have hwr := hwr.out
      go_wp2_with fail
      go_end0
      exact ⟨rfl, ⟨_, _, _, hfin.out⟩, (hkp.out.setCell (p := ⟨R, 1, none⟩) (fun _ => hRS.out) _).setCell (p := ⟨R, 2, none⟩) (fun _ => hRS.out) _⟩

set_option maxRecDepth 100000 in
set_option maxHeartbeats 4000000 in
theorem RRep.crash {Q : Nat → Prop} {v : Value} {ks : List Bool} (h : RRep S w R a) (hop : a.ops ≤ 1000000) (hks : Keeps Q w v ks) (hkl : ks.length ≤ 9223372036854775807) (hQ : ∀ b, Q b → b < w.heap.size ∧ ¬ S b) :
    Calls Try.prog 38 #[.pointer (some ⟨R, 0, none⟩), v] w fun e w' => e = .returned (.tuple #[]) ∧ RRep S w' R (setA a (keepAt ks)) ∧ Kept S w w' := by
  obtain ⟨lv, pv, qs, hr⟩ := h
  have hgood := hr.good
  obtain ⟨lg, lc, _, rfl, _, _, _, _⟩ := hr.lrow.get (i := 0) (by have := hgood.lo; omega)
  obtain ⟨pa, pc, rfl⟩ := hr.prow.shape
  have hpl : a.pend.length = qs.length := by rw [hr.pend]; simp [plain]
  have hql : qs.length ≤ 1000000 := by have := hgood.few; omega
  have hhi := hgood.hi
  have hkk : ∀ w', Kept S w w' → Keeps Q w' v ks := fun w' hk => hks.kept fun b hb => hk.block b (hQ b hb).1 (hQ b hb).2
  obtain ⟨ka, kc, rfl⟩ : ∃ ka kc, v = .slice ka ks.length kc := by obtain ⟨x, y, e, _⟩ := hks; exact ⟨x, y, e⟩
  replace hr := Lib.hid hr
  replace hpl := Lib.hid hpl
  replace hgood := Lib.hid hgood
  replace hkk := Lib.hid hkk
  clear hks
  go_enter Try.func38, Try.ntmps38
  go_wp2_with fail
  go_loopw [4] (fun i wr => ∃ k : Nat, k ≤ qs.length ∧ i = .int .i64 k ∧ RAt S wr R { a with done := setTo a (keepAt ks) k } (.slice (some ⟨lg, 0, none⟩) a.n lc) (.slice pa qs.length pc) qs ∧ Kept S w wr) (fun i _ => qs.length - (intOf i).toNat)
  case atStart => exact ⟨0, Nat.zero_le _, rfl, hr.out, Kept.refl _ _⟩
  case round =>
    obtain ⟨k, hk, rfl, hr', hkp⟩ := hrel
    obtain ⟨wo, rfl⟩ : ∃ wo : World, wo = wr := ⟨_, rfl⟩
    by_cases hlt : k < qs.length ∧ k < ks.length
    · obtain ⟨hlt, hltk⟩ := hlt
      obtain ⟨pg, rfl⟩ := hr'.prow.head hlt
      obtain ⟨e0, e1⟩ := hr'.prow.cells k hlt
      have hqb := hr'.prow.2.2 qs[k] (List.getElem_mem _)
      have hpa : pAt a.pend k = (qs[k].blk, qs[k].bs) := by rw [show a.pend = plain qs from hr'.pend]; exact plain_at hlt
      have hin := hgood.out.pend (pAt a.pend k) (by unfold pAt; rw [List.getElem?_eq_getElem (by have := hpl.out; omega)]; exact List.getElem_mem _)
      rw [hpa] at hin
      obtain ⟨m, hm⟩ : ∃ m : Nat, qs[k].blk = (m : Int) := ⟨qs[k].blk.toNat, by have := hin.2.1; simp at this; omega⟩
      rw [hm] at hin hpa e0
      have hmn : m < a.n := by have := hin.2.2; simp at this; omega
      obtain ⟨v, f1⟩ : ∃ v, qs[k].v = v := ⟨_, rfl⟩
      rw [f1] at e1 hqb
      obtain ⟨vg, vc, rfl⟩ := hqb.shape
      obtain ⟨lg', lc', v0, hlv, hSl, cl, fl, _⟩ := hr'.lrow.get hmn
      obtain ⟨rfl, rfl⟩ : lg = lg' ∧ lc = lc' := by simpa using hlv
      have c0 : wo.cell? ⟨R, 0, none⟩ = some (.slice (some ⟨lg, 0, none⟩) a.n lc) := by simp [World.cell?, hr'.cell]
      have c1 : wo.cell? ⟨R, 1, none⟩ = some (.slice (some ⟨pg, 0, none⟩) qs.length pc) := by simp [World.cell?, hr'.cell]
      obtain ⟨ka', kc', hke, hkc⟩ := hkk.out wo hkp
      obtain ⟨rfl, rfl⟩ : ka = ka' ∧ kc = kc' := by simpa using hke
      obtain ⟨kb, koff, rfl, _, ck⟩ := hkc k hltk
      have hbk : keepAt ks k = ks[k] := by simp [keepAt, hltk]
      obtain ⟨bk, hbk2⟩ : ∃ bk, ks[k] = bk := ⟨_, rfl⟩
      rw [hbk2] at ck hbk
      have hm1 : (m : Int) < (a.n : Int) := by omega
      have hm0 : (0 : Int) ≤ (m : Int) := by omega
      have hput := hr'.put (m := m) hmn hqb
      have hst := fun (e : keepAt ks k = true) => setTo_step a (keepAt ks) (k := k) e hpa
      have hsf := fun (e : keepAt ks k = false) => setTo_skip a (keepAt ks) (k := k) e
      replace hput := Lib.hid hput
      replace hst := Lib.hid hst
      replace hsf := Lib.hid hsf
      replace hr' := Lib.hid hr'
      replace hkp := Lib.hid hkp
      replace hqb := Lib.hid hqb
      replace hpa := Lib.hid hpa
      replace hm := Lib.hid hm
      replace hin := Lib.hid hin
      replace f1 := Lib.hid f1
      replace hSl := Lib.hid hSl
      replace hmn := Lib.hid hmn
      replace hbk := Lib.hid hbk
      replace hbk2 := Lib.hid hbk2
      clear hlv hkc hke
      cases bk
      · go_wp2_with fail
        go_roundw
        case rel => exact ⟨k + 1, by omega, by go_num, by rw [hsf.out hbk.out]; exact hr'.out, hkp.out⟩
        case measure => simp [intOf]; omega
      · go_wp2_with fail
        go_still_tail 21, (by kernel_rfl)
        go_wp2_with fail
        go_roundw
        case rel => exact ⟨k + 1, by omega, by go_num, by rw [hst.out hbk.out]; exact hput.out.kept (fun _ _ _ => rfl), (hkp.out.drew).setCell (p := ⟨lg, m, none⟩) (fun _ => hSl.out) _⟩
        case measure => simp [intOf]; omega
    · have c1 : wo.cell? ⟨R, 1, none⟩ = some (.slice pa qs.length pc) := by simp [World.cell?, hr'.cell]
      have z1 : wo.frozen? ⟨R, 1, none⟩ = false := by simp [World.frozen?, hr'.cell]
      have hsame : setTo a (keepAt ks) qs.length = setTo a (keepAt ks) k := setTo_same a _ k _ hk fun j h1 h2 => by
        unfold keepAt
        rw [List.getElem?_eq_none (by omega)]; rfl
      rw [← hsame] at hr'
      have hset := hr'.settle hpl.out
      have hRS := hr'.hR
      replace hset := Lib.hid hset
      replace hkp := Lib.hid hkp
      replace hRS := Lib.hid hRS
      clear hr' hsame
      by_cases h1 : k < qs.length
      · have h2 : ks.length ≤ k := by omega
        clear hlt
        go_wp2_with fail
        go_end0
        exact ⟨rfl, ⟨_, _, _, hset.out⟩, hkp.out.setCell (p := ⟨R, 1, none⟩) (fun _ => hRS.out) _⟩
      · obtain rfl : k = qs.length := by omega
        clear hlt
        go_wp2_with fail
        go_end0
        exact ⟨rfl, ⟨_, _, _, hset.out⟩, hkp.out.setCell (p := ⟨R, 1, none⟩) (fun _ => hRS.out) _⟩
end Go.Proofs.Ytpokfbmgcokkbaa
