/- Blocks of bytes in memory: filled, Clone, Copied, Same. -/
import Derived.Test.YtpokfbmgcokkbaaRows
import Derived.Test.YtpokfbmgcokkbaaMap
import Derived.RangeFuncNested
import Derived.RangeFuncBound
import Derived.RangeFuncCalls
import Derived.RangeFuncLeaves
import Derived.Shelf.Abstract
import Derived.Shelf.RegionOpen
import Derived.OwnWalkIn
import Derived.TacticsInMore
import Derived.LoopNIn
import Derived.LoopIn
import Derived.Outline
import Derived.BigQuiet
import Derived.Sort.QuietIn
import Derived.Lib.Hide
import Derived.Maps.AppendAt
import Derived.Deep.RegionHeld3
import Derived.Deep.AppendLies
import Derived.WalkSpells
import Derived.StillTactics
import Derived.OwnWalk
import Derived.Laws.Pointers
import Derived.Deep.RegionLaw
import Derived.ArgAppend
import Derived.Lib.SliceRun
import Derived.Deep.OwnRows
import Derived.RangeFuncBox
import Derived.IntWalk
namespace Go.Proofs.Ytpokfbmgcokkbaa
open Go.RowKit Go.Shelf
attribute [local go_sem] Oper.semAt_some

theorem info5 : (Try.prog.info? 5).map (fun i => (i.zero, i.size, i.bytes)) = some (some (.int .u8 0), 1, 1) := by kernel_rfl
theorem info_parts {t : TypeId} {z : Value} {s b : Nat} (h : (Try.prog.info? t).map (fun i => (i.zero, i.size, i.bytes)) = some (some z, s, b)) : ∃ i, Try.prog.info? t = some i ∧ i.zero = some z ∧ i.size = s ∧ i.bytes = b := by
  obtain ⟨i, hi, hzz⟩ := Option.map_eq_some_iff.1 h
  simp only [Prod.mk.injEq] at hzz
  exact ⟨i, hi, hzz.1, hzz.2.1, hzz.2.2⟩

def bcells (bs : List Int) : List Value := bs.map (.int .u8 ·)
/-- v is a slice of the call's own with the bytes bs, from block n on. -/
def Row (n : Nat) (w : World) (v : Value) (bs : List Int) : Prop := w.ownsRow n 5 1 v bs.length (bcells bs)

theorem row_of_block {n g cap : Nat} {w : World} {bs : List Int} {cur : Array Value} (hb : w.heap[g]? = some (.cells cur 5 (0, 0))) (hn : n ≤ g) (hl : bs.length ≤ cap) (hm : cap ≤ maxLen) (hs : cur.size = cap)
    (hc : ∀ j (h : j < bs.length), cur[j]? = some (.int .u8 bs[j])) : Row n w (.slice (some ⟨g, 0, none⟩) bs.length cap) bs := by
  refine ⟨by simp [bcells], .inr ⟨g, cap, cur, rfl, hn, hb, hl, hm, by omega, ?_⟩⟩
  apply List.ext_getElem?
  intro j
  by_cases hj : j < bs.length
  · rw [List.getElem?_take_of_lt (by omega)]
    have := hc j hj
    rw [show (bcells bs)[j]? = some (.int .u8 bs[j]) by simp [bcells, hj]]
    simpa using this
  · rw [List.getElem?_eq_none (by rw [List.length_take]; omega), List.getElem?_eq_none (by simp [bcells]; omega)]

def fillB (q : Int) : List Int := List.replicate 256 q
theorem fillB_length (q : Int) : (fillB q).length = 256 := by unfold fillB; exact List.length_replicate
theorem fillB_get (q : Int) (j : Nat) (h : j < (fillB q).length) : (fillB q)[j] = q := by unfold fillB; exact List.getElem_replicate _

theorem setCell_heap (W : World) (B i : Nat) (x : Value) (cur : Array Value) (t : TypeId) (hb : W.heap[B]? = some (.cells cur t (0, 0))) :
    (W.setCell ⟨B, i, none⟩ x).heap[B]? = some (.cells (cur.set! i x) t (0, 0)) := by
  obtain ⟨hlt, hk⟩ := Array.getElem?_eq_some_iff.1 hb
  show (W.heap.modify B _)[B]? = _
  rw [Array.getElem?_eq_getElem (by rw [Array.size_modify]; exact hlt), Array.getElem_modify_self, hk]
  rfl

theorem below_setCell {n B i : Nat} {w w' : World} (h : Below n w w') (hB : n ≤ B) (x : Value) : Below n w (w'.setCell ⟨B, i, none⟩ x) :=
  ⟨h.os, h.tape, h.output, by simpa using h.size, fun k hk => (Below.heap_setCell _ _ _ _ (show k ≠ B by omega)).trans (h.block k hk)⟩

theorem filled_any (x : Int) (w : World) :
    Calls Try.prog 13 #[.int .i64 x] w fun e w' => ∃ v, e = .returned v ∧ Row w.heap.size w' v (fillB (x % 256)) ∧ Below w.heap.size w w' := by
  obtain ⟨Z, hZs, hmk⟩ : ∃ Z : Array Value, Z.size = 256 ∧ ∀ w : World, (Instr.makeSlice 26 (.int .i64 256) (.int .i64 256)).run Try.prog w = .ok (.slice (some ⟨w.heap.size, 0, none⟩) 256 256) (w.alloc (.cells Z 5)) :=
    ⟨madeCells #[.int .u8 0] 256, by simp [madeCells], fun w => run_make_row' 26 5 (.int .u8 0) 1 Try.underlying26 info5 rfl .i64 .i64 256 (by omega) (by omega) w⟩
  go_enter Try.func13, Try.ntmps13
  go_wp2_with fail
  go_loopw [4] (fun i wr => ∃ (k : Nat) (cur : Array Value), k ≤ 256 ∧ i = .int .i64 k ∧ wr.heap[w.heap.size]? = some (.cells cur 5 (0, 0)) ∧ cur.size = 256 ∧ (∀ j, j < k → cur[j]? = some (.int .u8 (x % 256))) ∧ Below w.heap.size w wr) (fun i _ => 256 - (intOf i).toNat)
  case atStart => exact ⟨0, Z, Nat.zero_le _, rfl, World.alloc_heap_new _ _, hZs, fun j hj => by omega, (Below.refl _ _).alloc (Nat.le_refl _) _⟩
  case round =>
    obtain ⟨k, cur, hk, rfl, hb, hcs, hcur, hbe⟩ := hrel
    by_cases hlt : k < 256
    · have z0 : wr.cell? ⟨w.heap.size, k, none⟩ = some cur[k] := by simp [World.cell?, hb]
      have z1 : wr.frozen? ⟨w.heap.size, k, none⟩ = false := by simp [World.frozen?, hb]
      have q1 : (k : Int) < 256 := by omega
      replace hb := Lib.hid hb
      replace hcur := Lib.hid hcur
      replace hbe := Lib.hid hbe
      replace hcs := Lib.hid hcs
      clear hmk
      go_wp2_with fail
      go_roundw
      case rel =>
        refine ⟨k + 1, _, by omega, by go_num, setCell_heap _ _ _ _ _ _ hb.out, by simp [hcs.out], fun j hj => ?_, below_setCell hbe.out (Nat.le_refl _) _⟩
        have hc := hcs.out
        by_cases hjk : j = k
        · subst hjk; simp [hc, hlt]
        · rw [Array.set!_eq_setIfInBounds, Array.getElem?_setIfInBounds_ne (Ne.symm hjk)]
          exact hcur.out j (by omega)
      case measure => simp [intOf]; omega
    · obtain rfl : k = 256 := by omega
      replace hb := Lib.hid hb
      replace hcur := Lib.hid hcur
      replace hbe := Lib.hid hbe
      replace hcs := Lib.hid hcs
      clear hmk
      go_wp2_with fail
      go_ret
      refine ⟨_, rfl, ?_, hbe.out⟩
      have := row_of_block (bs := fillB (x % 256)) (cap := 256) hb.out (Nat.le_refl _) (by rw [fillB_length]; exact Nat.le_refl _) (by unfold maxLen; omega) hcs.out (fun j hj => by
        rw [fillB_get]; exact hcur.out j (by rw [fillB_length] at hj; exact hj))
      rw [fillB_length] at this
      exact this

/-- A slice with the bytes bs, wherever it lies. -/
def Bts (w : World) (v : Value) (bs : List Int) : Prop :=
  ∃ ad cap, v = .slice ad bs.length cap ∧ ∀ i (h : i < bs.length), ∃ g o, ad = some ⟨g, o, none⟩ ∧ w.cell? ⟨g, o + i, none⟩ = some (.int .u8 bs[i])

theorem Row.bts {n : Nat} {w : World} {v : Value} {bs : List Int} (h : Row n w v bs) : Bts w v bs := by
  rcases h.2 with ⟨rfl, h0⟩ | ⟨g, cap, cur, rfl, _, hb, h1, h2, h3, h4⟩
  · exact ⟨none, 0, by rw [h0], fun i hi => by omega⟩
  · refine ⟨_, cap, rfl, fun i hi => ⟨g, 0, rfl, ?_⟩⟩
    have : (cur.toList.take (bs.length * 1))[i]? = some (.int .u8 bs[i]) := by rw [h4]; simp [bcells, hi]
    rw [List.getElem?_take_of_lt (by omega)] at this
    simp [World.cell?, hb]
    simpa using this

theorem Row.shape {n : Nat} {w : World} {v : Value} {bs : List Int} (h : Row n w v bs) (hl : bs.length ≠ 0) : ∃ g cap cur, v = .slice (some ⟨g, 0, none⟩) bs.length cap ∧ n ≤ g ∧ w.heap[g]? = some (.cells cur 5 (0, 0)) ∧ cur.size = cap ∧ bs.length ≤ cap ∧ cap ≤ maxLen ∧ ∀ j (h : j < bs.length), cur[j]? = some (.int .u8 bs[j]) := by
  rcases h.2 with ⟨_, h0⟩ | ⟨g, cap, cur, rfl, hn, hb, h1, h2, h3, h4⟩
  · exact absurd h0 hl
  · refine ⟨g, cap, cur, rfl, hn, hb, by omega, h1, h2, fun j hj => ?_⟩
    have : (cur.toList.take (bs.length * 1))[j]? = some (.int .u8 bs[j]) := by rw [h4]; simp [bcells, hj]
    rw [List.getElem?_take_of_lt (by omega)] at this
    simpa using this

theorem Row.kept {n : Nat} {w w' : World} {v : Value} {bs : List Int} (h : Row n w v bs) (hk : ∀ b, v.ownBlock = some b → w'.heap[b]? = w.heap[b]?) : Row n w' v bs := by
  refine ⟨h.1, ?_⟩
  rcases h.2 with h6 | ⟨g, cap, cur, rfl, a1, a2, a3⟩
  · exact .inl h6
  · exact .inr ⟨g, cap, cur, rfl, a1, (hk g rfl).trans a2, a3⟩
theorem Row.lt {n : Nat} {w : World} {v : Value} {bs : List Int} (h : Row n w v bs) {b : Nat} (hb : v.ownBlock = some b) : n ≤ b ∧ b < w.heap.size := World.ownsRow.lt h b hb
theorem Row.below {n : Nat} {w w' : World} {v : Value} {bs : List Int} (h : Row n w v bs) (hb : Below w.heap.size w w') : Row n w' v bs := h.kept fun b hv => hb.block b (h.lt hv).2
theorem Row.base {n n' : Nat} {w : World} {v : Value} {bs : List Int} (h : Row n w v bs) (hn : n' ≤ n) : Row n' w v bs := by
  refine ⟨h.1, ?_⟩
  rcases h.2 with h6 | ⟨g, cap, cur, rfl, a1, a2⟩
  · exact .inl h6
  · exact .inr ⟨g, cap, cur, rfl, Nat.le_trans hn a1, a2⟩

theorem one_bcells (bs : List Int) : ∀ u ∈ bcells bs, u.oneCell' = true := by
  intro u hu
  obtain ⟨x, _, rfl⟩ := List.mem_map.1 hu
  rfl

theorem own_below {w w' : World} {row : Option Nat} (h : w.grownBy w' row) (hr : row = none) : Below w.heap.size w w' :=
  ⟨h.os, h.tape, h.output, h.size, fun k hk => h.block k hk (by rw [hr]; simp)⟩

theorem copied_any {n : Nat} {w : World} {v : Value} {bs : List Int} (h : Row n w v bs) (hl : bs.length = 256) :
    Calls Try.prog 31 #[v] w fun e w' => ∃ v', e = .returned v' ∧ Row w.heap.size w' v' bs ∧ Below w.heap.size w w' := by
  obtain ⟨i0, hi, hz0, hz1, hz2⟩ := info_parts info5
  obtain ⟨g, cap, cur, rfl, _, hb, hcs, hlc, hm, hc⟩ := h.shape (by omega)
  have hnews : Hid (∀ j u, (bcells bs)[j]? = some u → w.cell? ((⟨g, 0, none⟩ : Addr).add j) = some u) := by
    intro j u hu
    have hj : j < bs.length := by have := (List.getElem?_eq_some_iff.1 hu).1; simpa [bcells] using this
    rw [Addr.add_lit]
    have := hc j hj
    simp [bcells, hj] at hu
    simp [World.cell?, hb, this, hu]
  have hbl : (bcells bs).length = bs.length * 1 := by simp [bcells]
  have h1 := one_bcells bs
  replace h1 := Lib.hid h1
  replace hbl := Lib.hid hbl
  clear hb hcs hm hc h
  go_enter Try.func31, Try.ntmps31
  go_wp2_with (refine wpList_append_own_at _ rfl _ _ 26 rfl w.heap.size 5 i0 _ 1 1 Try.underlying26 hi hz0 hz1 hz2 rfl (by decide) (.slice none 0 0) 0 [] rfl (World.ownsRow_nil _ _ _ _) ⟨g, 0, none⟩ bs.length cap (bcells bs) rfl hbl.out hnews.out h1.out (by unfold maxLen; omega) (by omega) (Nat.le_refl _) ?_; intro v' w1 hown' hgrow _ hat')
  go_ret
  exact ⟨v', rfl, by simpa [Row] using hown', own_below hgrow rfl⟩

set_option maxRecDepth 100000 in
theorem clone_any {n : Nat} {w : World} {v : Value} {bs : List Int} (h : Row n w v bs) (hl : bs.length = 256) :
    Calls Try.prog 28 #[v] w fun e w' => ∃ v', e = .returned v' ∧ Row w.heap.size w' v' bs ∧ Below w.heap.size w w' := by
  obtain ⟨i0, hi, hz0, hz1, hz2⟩ := info_parts info5
  obtain ⟨g, cap, cur, rfl, _, hb, hcs, hlc, hm, hc⟩ := h.shape (by omega)
  have hnews : Hid (∀ (o : Obj), ∀ j u, (bcells bs)[j]? = some u → (w.alloc o).cell? ((⟨g, 0, none⟩ : Addr).add j) = some u) := by
    intro o j u hu
    have hj : j < bs.length := by have := (List.getElem?_eq_some_iff.1 hu).1; simpa [bcells] using this
    rw [Addr.add_lit]
    have := hc j hj
    simp [bcells, hj] at hu
    have hgl : g < w.heap.size := (Array.getElem?_eq_some_iff.1 hb).1
    simp [World.cell?, Below.heap_alloc w o g hgl, hb, this, hu]
  have hbl : (bcells bs).length = bs.length * 1 := by simp [bcells]
  have h1 := one_bcells bs
  replace h1 := Lib.hid h1
  replace hbl := Lib.hid hbl
  clear hb hcs hm hc h
  have heq : ∀ (w : World) (m : Nat), (binOp .eql 26 (.slice (some ⟨g, 0, none⟩) m cap) (.slice none 0 0)).run Try.prog w = .ok (.bool false) w := fun w m => by
    have := Lib.run_eql_slice_nil (P := Try.prog) w 26 5 (some ⟨g, 0, none⟩) m cap 0 0 Try.underlying26
    simpa using this
  have hl6 : bs.length ≤ 256 := by omega
  have hl0 : 0 < bs.length := by omega
  clear hl
  go_enter Try.func28, Try.ntmps28
  go_wp2_with (refine wpList_append_own_at _ rfl _ _ 26 rfl w.heap.size 5 i0 _ 1 1 Try.underlying26 hi hz0 hz1 hz2 rfl (by decide) (.slice (some ⟨w.heap.size, 0, none⟩) 0 0) 0 [] rfl (World.ownsRow_made w #[] 0 (Nat.le_refl _) (Nat.zero_le _) rfl) ⟨g, 0, none⟩ bs.length cap (bcells bs) rfl hbl.out (hnews.out _) h1.out (by unfold maxLen; omega) (by omega) (by simp) ?_; intro v' w1 hown' hgrow _ hat')
  go_ret
  exact ⟨v', rfl, by simpa [Row] using hown', hgrow.os, hgrow.tape, hgrow.output, Nat.le_trans (by simp) hgrow.size, fun k hk => (hgrow.block k (by simp; omega) (by simp [Value.ownBlock]; omega)).trans (Below.heap_alloc _ _ _ hk)⟩

theorem Bts.drewN {w : World} {v : Value} {bs : List Int} (h : Bts w v bs) (m : Nat) : Bts (w.drewN m) v bs := h

theorem drewN_below (w : World) (m : Nat) : Below w.heap.size w (w.drewN m) := ⟨rfl, rfl, rfl, Nat.le_refl _, fun _ _ => rfl⟩

theorem same_any {w : World} {v v' : Value} {bs bs' : List Int} (h : Bts w v bs) (h' : Bts w v' bs') (hl : bs.length ≤ 100000) :
    Calls Try.prog 15 #[v, v'] w fun e w' => e = .returned (.bool (bs == bs')) ∧ ∃ m, w' = w.drewN m := by
  obtain ⟨ad, cap, rfl, hc⟩ := h
  obtain ⟨ad', cap', rfl, hc'⟩ := h'
  obtain ⟨r, hr⟩ : ∃ r, (bs == bs') = r := ⟨_, rfl⟩
  rw [hr]
  by_cases hlen : bs.length = bs'.length
  · have hq : ((bs.length : Int) != (bs'.length : Int)) = false := by simp [hlen]
    replace hr := Lib.hid hr
    replace hlen := Lib.hid hlen
    go_enter Try.func15, Try.ntmps15
    go_wp2_with fail
    go_loopw [5] (fun i wr => ∃ k : Nat, k ≤ bs.length ∧ i = .int .i64 k ∧ (∃ m, wr = w.drewN m) ∧ bs.take k = bs'.take k) (fun i _ => bs.length - (intOf i).toNat)
    case atStart => exact ⟨0, Nat.zero_le _, rfl, ⟨0, rfl⟩, rfl⟩
    case round =>
      obtain ⟨k, hk, rfl, ⟨m, rfl⟩, ht⟩ := hrel
      obtain ⟨wi, hwi⟩ : ∃ wi, w.drewN m = wi := ⟨_, rfl⟩
      have hcw : ∀ a, wi.cell? a = w.cell? a := fun a => by rw [← hwi]; rfl
      have hdn : ∀ n, ∃ m, wi.drewN n = w.drewN m := fun n => ⟨m + n, by rw [← hwi]; exact World.drewN_drewN w m n⟩
      rw [hwi]
      replace hwi := Lib.hid hwi
      by_cases hlt : k < bs.length
      · have hlt' : k < bs'.length := hlen.out ▸ hlt
        obtain ⟨g, o, rfl, c0⟩ := hc k hlt
        obtain ⟨g', o', rfl, c0'⟩ := hc' k hlt'
        obtain ⟨x, hx⟩ : ∃ x, bs[k] = x := ⟨_, rfl⟩
        obtain ⟨y, hy⟩ : ∃ y, bs'[k] = y := ⟨_, rfl⟩
        rw [hx] at c0; rw [hy] at c0'
        have d0 : wi.cell? ⟨g, o + k, none⟩ = some (.int .u8 x) := (hcw _).trans c0
        have d1 : wi.cell? ⟨g', o' + k, none⟩ = some (.int .u8 y) := (hcw _).trans c0'
        have hts := List.take_succ_eq_append_getElem hlt
        have hts' := List.take_succ_eq_append_getElem hlt'
        rw [hx] at hts; rw [hy] at hts'
        replace hdn := Lib.hid hdn
        replace hts := Lib.hid hts
        replace hts' := Lib.hid hts'
        replace ht := Lib.hid ht
        clear c0 c0' hc hc' hcw
        by_cases hxy : x = y
        · have hb : (x != y) = false := by simp [hxy]
          replace hx := Lib.hid hx
          replace hy := Lib.hid hy
          go_wp2_with fail
          go_quiet (fail)
          go_wp2_with fail
          go_roundw
          case rel => exact ⟨k + 1, by omega, by go_num, hdn.out _, by rw [hts.out, hts'.out, ht.out, hxy]⟩
          case measure => simp [intOf]; omega
        · have hb : (x != y) = true := by simpa using hxy
          have hrf : r = false := by
            rw [← hr.out]
            rw [beq_eq_false_iff_ne]
            intro e
            subst e
            exact hxy (hx.symm.trans hy)
          replace hx := Lib.hid hx
          replace hy := Lib.hid hy
          replace hrf := Lib.hid hrf
          go_wp2_with fail
          go_quiet (fail)
          go_wp2_with fail
          go_ret
          exact ⟨by rw [hrf.out]; rfl, hdn.out _⟩
      · obtain rfl : k = bs.length := by omega
        have hrt : r = true := by
          rw [← hr.out, beq_iff_eq]
          rw [List.take_length] at ht
          rw [ht, hlen.out, List.take_length]
        have hdn0 := hdn 0
        replace hrt := Lib.hid hrt
        replace hdn0 := Lib.hid hdn0
        clear hc hc' ht hcw hdn
        go_wp2_with fail
        go_ret
        exact ⟨by rw [hrt.out]; rfl, hdn0.out⟩
  · have hq : ((bs.length : Int) != (bs'.length : Int)) = true := by simp; omega
    have hrf : r = false := by
      rw [← hr, beq_eq_false_iff_ne]
      exact fun e => hlen (by rw [e])
    replace hrf := Lib.hid hrf
    clear hr
    go_enter Try.func15, Try.ntmps15
    go_wp2_with fail
    go_ret
    exact ⟨by rw [hrf.out]; rfl, 0, rfl⟩
end Go.Proofs.Ytpokfbmgcokkbaa
