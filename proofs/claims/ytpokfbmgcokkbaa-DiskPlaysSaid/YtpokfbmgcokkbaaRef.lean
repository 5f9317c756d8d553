/- The reference's disk: what it reads as; New. -/
import Derived.Test.YtpokfbmgcokkbaaAwake
import Derived.Deep.AppendLies
namespace Go.Proofs.Ytpokfbmgcokkbaa
open Go.RowKit Go.Shelf
attribute [local go_sem] Oper.semAt_some

variable {S S' : Nat → Prop} {w w' : World} {R : Nat} {a : AD}

theorem info26 : (Try.prog.info? 26).map (fun i => (i.zero, i.size, i.bytes)) = some (some (.slice none 0 0), 1, 24) := by kernel_rfl

/-- lv is a slice of n blocks of bytes, which read as done says. -/
def LRow (S : Nat → Prop) (w : World) (lv : Value) (n : Nat) (done : Int → List Int) : Prop :=
  ∃ ls, w.ownsRow 0 26 1 lv n ls ∧ (∀ b, lv.ownBlock = some b → S b) ∧ ∀ i : Nat, i < n → ∃ v, ls[i]? = some v ∧ BB S w v (done i)

theorem LRow.nil (S : Nat → Prop) (w : World) (done : Int → List Int) : LRow S w (.slice none 0 0) 0 done :=
  ⟨[], World.ownsRow_nil _ _ _ _, fun b hb => by simp [Value.ownBlock] at hb, fun i hi => by omega⟩
theorem grown_drew {w1 w2 : World} {r : Option Nat} (h : w1.drew.grownBy w2 r) : w1.grownBy w2 r := ⟨h.os, h.tape, h.output, h.size, h.block⟩
theorem own_kept {e : TypeId} {s n b0 : Nat} {v : Value} {xs : List Value} (h : w.ownsRow b0 e s v n xs) (hk : ∀ b, v.ownBlock = some b → w'.heap[b]? = w.heap[b]?) : w'.ownsRow b0 e s v n xs := by
  refine ⟨h.1, ?_⟩
  rcases h.2 with h6 | ⟨g, cap, cur, rfl, a1, a2, a3⟩
  · exact .inl h6
  · exact .inr ⟨g, cap, cur, rfl, a1, (hk g rfl).trans a2, a3⟩
theorem LRow.kept {lv : Value} {n : Nat} {done : Int → List Int} (h : LRow S w lv n done) (hk : ∀ b, S b → b < w.heap.size → w'.heap[b]? = w.heap[b]?) : LRow S w' lv n done := by
  obtain ⟨ls, h1, h2, h3⟩ := h
  refine ⟨ls, own_kept h1 fun b hb => hk b (h2 b hb) (World.ownsRow.lt h1 b hb).2, h2, fun i hi => ?_⟩
  obtain ⟨v, e, hb⟩ := h3 i hi
  exact ⟨v, e, hb.kept hk⟩
theorem LRow.mono {lv : Value} {n : Nat} {done : Int → List Int} (h : LRow S w lv n done) (hs : ∀ b, b < w.heap.size → S b → S' b) : LRow S' w lv n done := by
  obtain ⟨ls, h1, h2, h3⟩ := h
  refine ⟨ls, h1, fun b hb => hs b (World.ownsRow.lt h1 b hb).2 (h2 b hb), fun i hi => ?_⟩
  obtain ⟨v, e, hb⟩ := h3 i hi
  exact ⟨v, e, hb.mono hs⟩
/-- A block of bytes stays where only a row of another type turns. -/
theorem BB.grown {e : TypeId} {s n b0 : Nat} {lv v : Value} {ls : List Value} {bs : List Int} (hb : BB S w v bs) (h : w.ownsRow b0 e s lv n ls) (hne : (5 : TypeId) ≠ e) (hg : w.grownBy w' lv.ownBlock) : BB S w' v bs := by
  obtain ⟨g, cap, cur, rfl, _, hg5, _⟩ := hb.2.1.shape (by have := hb.1; omega)
  refine ⟨hb.1, hb.2.1.kept fun b hv => ?_, hb.2.2⟩
  simp [Value.ownBlock] at hv
  subst hv
  exact hg.block g (Array.getElem?_eq_some_iff.1 hg5).1 (row_other h hg5 hne).symm
/-- One block more. -/
theorem LRow.snoc {lv u v : Value} {n : Nat} {ls : List Value} {done : Int → List Int} (h : w.ownsRow 0 26 1 lv n ls) (hel : ∀ i : Nat, i < n → ∃ v, ls[i]? = some v ∧ BB S w v (done i)) (hg : w.grownBy w' lv.ownBlock)
    (hown : w'.ownsRow 0 26 1 u (n + 1) (ls ++ [v])) (hat : ∀ b, u.ownBlock = some b → S b) (hb : BB S w v (done n)) : LRow S w' u (n + 1) done := by
  have hln : ls.length = n := by have := h.1; simpa using this
  refine ⟨ls ++ [v], hown, hat, fun i hi => ?_⟩
  by_cases e : i < n
  · obtain ⟨x, h1, h2⟩ := hel i e
    exact ⟨x, by rw [List.getElem?_append_left (by omega)]; exact h1, h2.grown h (by decide) hg⟩
  · obtain rfl : i = n := by omega
    exact ⟨v, by rw [List.getElem?_append_right (by omega), hln]; simp, hb.grown h (by decide) hg⟩

structure RAt (S : Nat → Prop) (w : World) (R : Nat) (a : AD) (lv pv : Value) (qs : List PQ) : Prop where
  hR : S R
  cell : w.heap[R]? = some (.cells #[lv, pv, .int .i64 a.ops] 66 (0, 0))
  lrow : LRow S w lv a.n a.done
  prow : PRow S w pv qs
  pend : a.pend = plain qs
  good : Good a
/-- The reference's disk at R, all of it in blocks of S, reads as a. -/
def RRep (S : Nat → Prop) (w : World) (R : Nat) (a : AD) : Prop := ∃ lv pv qs, RAt S w R a lv pv qs

theorem RAt.kept {lv pv : Value} {qs : List PQ} (h : RAt S w R a lv pv qs) (hk : ∀ b, S b → b < w.heap.size → w'.heap[b]? = w.heap[b]?) : RAt S w' R a lv pv qs :=
  { h with
    cell := (hk R h.hR (Array.getElem?_eq_some_iff.1 h.cell).1).trans h.cell
    lrow := h.lrow.kept hk
    prow := h.prow.kept hk }
theorem RAt.mono {lv pv : Value} {qs : List PQ} (h : RAt S w R a lv pv qs) (hs : ∀ b, b < w.heap.size → S b → S' b) : RAt S' w R a lv pv qs :=
  { h with
    hR := hs R (Array.getElem?_eq_some_iff.1 h.cell).1 h.hR
    lrow := h.lrow.mono hs
    prow := h.prow.mono hs }
theorem RRep.kept (h : RRep S w R a) (hk : ∀ b, S b → b < w.heap.size → w'.heap[b]? = w.heap[b]?) : RRep S w' R a := by
  obtain ⟨lv, pv, qs, h⟩ := h
  exact ⟨lv, pv, qs, h.kept hk⟩
theorem RRep.mono (h : RRep S w R a) (hs : ∀ b, b < w.heap.size → S b → S' b) : RRep S' w R a := by
  obtain ⟨lv, pv, qs, h⟩ := h
  exact ⟨lv, pv, qs, h.mono hs⟩
theorem RRep.below (h : RRep S w R a) (hb : Below w.heap.size w w') : RRep S w' R a := h.kept fun b _ hl => hb.block b hl
theorem RRep.good (h : RRep S w R a) : Good a := by obtain ⟨_, _, _, h⟩ := h; exact h.good

theorem rnew_bad (n : Int) (hn : n < 128 ∨ 4096 < n) (w : World) : Calls Try.prog 17 #[.int .i64 n] w fun e w' => e = .returned (.tuple #[.pointer none, .int .i64 22]) ∧ w' = w := by
  by_cases h1 : n < 128
  · go_enter Try.func17, Try.ntmps17
    go_wp2_with fail
    go_ret2
    exact ⟨rfl, rfl⟩
  · have h2 : 4096 < n := by omega
    clear hn
    go_enter Try.func17, Try.ntmps17
    go_wp2_with fail
    go_ret2
    exact ⟨rfl, rfl⟩

set_option maxRecDepth 100000 in
set_option maxHeartbeats 4000000 in
theorem rnew_ok (n : Nat) (h1 : 128 ≤ n) (h2 : n ≤ 4096) (w : World) :
    Calls Try.prog 17 #[.int .i64 (n : Int)] w fun e w' => ∃ R, e = .returned (.tuple #[.pointer (some ⟨R, 0, none⟩), .int .i64 0]) ∧ RRep (fun b => w.heap.size ≤ b) w' R (newA n) ∧ Below w.heap.size w w' := by
  obtain ⟨Z, hZs, hZ, hmk⟩ := make_row
  obtain ⟨i26, hi26, hz0, hz1, hz2⟩ := info_parts info26
  have q1 : (128 : Int) ≤ (n : Int) := by omega
  have q2 : (n : Int) ≤ 4096 := by omega
  replace hZs := Lib.hid hZs
  replace hZ := Lib.hid hZ
  go_enter Try.func17, Try.ntmps17
  go_wp2_with fail
  go_loopw [5] (fun i wr => ∃ (k : Nat) (lv : Value), k ≤ n ∧ i = .int .i64 k ∧ wr.heap[w.heap.size]? = some (.cells #[lv, .slice none 0 0, .int .i64 0] 66 (0, 0)) ∧ LRow (fun b => w.heap.size ≤ b) wr lv k (fun _ => fillB 0) ∧ Below w.heap.size w wr) (fun i _ => n - (intOf i).toNat)
  case atStart => exact ⟨0, _, Nat.zero_le _, rfl, World.alloc_heap_new _ _, LRow.nil _ _ _, (Below.refl _ _).alloc (Nat.le_refl _) _⟩
  case round =>
    obtain ⟨k, lv, hk, rfl, hcell, ⟨ls, hown, hat0, hel⟩, hbe⟩ := hrel
    obtain ⟨wo, rfl⟩ : ∃ wo : World, wo = wr := ⟨_, rfl⟩
    by_cases hlt : k < n
    · have c0 : wo.cell? ⟨w.heap.size, 0, none⟩ = some lv := by simp [World.cell?, hcell]
      have c0' : ∀ o, (wo.alloc o).cell? ⟨w.heap.size, 0, none⟩ = some lv := fun o => by
        have : (wo.alloc o).heap[w.heap.size]? = _ := (Below.heap_alloc wo o _ (Array.getElem?_eq_some_iff.1 hcell).1).trans hcell
        simp [World.cell?, this]
      have hRl : w.heap.size < wo.heap.size := (Array.getElem?_eq_some_iff.1 hcell).1
      have hpR := row_other hown hcell (by decide)
      have hnew := Lib.hid (show ∀ o o', ((wo.alloc o).alloc o').drew.heap[wo.heap.size + 1]? = some o' from fun o o' => by have := World.alloc_heap_new (wo.alloc o) o'; rw [World.size_alloc] at this; exact this)
      replace hcell := Lib.hid hcell
      replace hown := Lib.hid hown
      replace hat0 := Lib.hid hat0
      replace hel := Lib.hid hel
      replace hbe := Lib.hid hbe
      go_wp2_with fail
      go_region_law
        ((refine step_append_lies _ (by rfl) _ _ _ (by rfl) 0 26 i26 _ 1 24 Try.underlying64 hi26 hz0 hz1 hz2 rfl (by omega) lv k ls (by rfl) (((hown.out.alloc _).alloc _).drew)
            ⟨wo.heap.size + 1, 0, none⟩ 1 1 [.slice (some ⟨wo.heap.size, 0, none⟩) 256 256] (by rfl) (by rfl) (World.news_of_block (cs := #[.slice (some ⟨wo.heap.size, 0, none⟩) 256 256]) (t := 26) (fr := (0, 0)) (hnew.out _ _)) (by simp [Value.oneCell'])
            (by omega) (by unfold maxLen; omega) (by omega) (Nat.zero_le _) (wo.heap.size + 1 + 1) (by simp) ?_; intro g cap w2 hown2 hgrow hat hlt2
          have hcell2 := (hgrow.block w.heap.size (by simp; omega) (Ne.symm hpR)).trans (((Below.heap_alloc _ _ _ (by simp; omega)).trans (Below.heap_alloc wo _ _ hRl)).trans hcell.out)
          have c2 : w2.cell? ⟨w.heap.size, 0, none⟩ = some lv := (by simp [World.cell?, hcell2])
          have z2 : w2.frozen? ⟨w.heap.size, 0, none⟩ = false := (by simp [World.frozen?, hcell2])
          replace hcell2 := Lib.hid hcell2
          replace hown2 := Lib.hid hown2))
      all_goals
        go_wp2_with fail
        go_roundw
        case rel =>
          have hs1 := hbe.out.size
          have hg1 : wo.grownBy w2 lv.ownBlock := grown_of_alloc (grown_of_alloc (grown_drew hgrow))
          have hb1 : Below w.heap.size w w2 := hbe.out.trans ((Kept.of_grown (S := fun b => w.heap.size ≤ b) hg1 (fun b hb _ => hat0.out b hb)).below hs1 (fun b hb h => by omega))
          have hRD : g ≠ w.heap.size := fun e => by
            rcases hat with h | h
            · exact hpR (by rw [h, e])
            · omega
          have hnb : (wo.alloc (.cells Z 5)).heap[wo.heap.size]? = some (.cells Z 5 (0, 0)) := World.alloc_heap_new _ _
          have hZr : Row 0 (wo.alloc (.cells Z 5)) (.slice (some ⟨wo.heap.size, 0, none⟩) 256 256) (fillB 0) := by
            have := row_of_block (bs := fillB 0) (cap := 256) hnb (Nat.zero_le _) (by rw [fillB_length]; exact Nat.le_refl _) (by unfold maxLen; omega) hZs.out (fun j hj => by
              rw [fillB_get]; exact hZ.out j (by rw [fillB_length] at hj; exact hj))
            rw [fillB_length] at this
            exact this
          have hbb : BB (fun b => w.heap.size ≤ b) (wo.alloc (.cells Z 5)) (.slice (some ⟨wo.heap.size, 0, none⟩) 256 256) (fillB 0) := ⟨fillB_length 0, hZr, fun b hb => by simp [Value.ownBlock] at hb; omega⟩
          have hl2 : LRow (fun b => w.heap.size ≤ b) w2 (.slice (some ⟨g, 0, none⟩) (k + 1) cap) (k + 1) (fun _ => fillB 0) :=
            LRow.snoc (hown.out.alloc _) (fun i hi => by obtain ⟨v, e, hb⟩ := hel.out i hi; exact ⟨v, e, hb.kept fun b _ hb => Below.heap_alloc _ _ _ hb⟩) (grown_of_alloc (grown_drew hgrow)) hown2.out (fun b hb => by
              simp [Value.ownBlock] at hb
              subst hb
              rcases hat with h | h
              · exact hat0.out _ h
              · omega) hbb
          refine ⟨k + 1, _, by omega, by go_num, setCell_heap _ _ _ _ _ _ hcell2.out, ?_, below_setCell hb1 (Nat.le_refl _) _⟩
          obtain ⟨ls2, e1, e2, e3⟩ := hl2
          refine ⟨ls2, own_kept e1 fun b hb => Below.heap_setCell _ _ _ _ (fun e => ?_), e2, fun i hi => ?_⟩
          · have e9 : b = w.heap.size := e
            simp [Value.ownBlock] at hb; omega
          · obtain ⟨v, e4, e5⟩ := e3 i hi
            refine ⟨v, e4, e5.1, e5.2.1.kept fun b hb => Below.heap_setCell _ _ _ _ (fun e => row_other e5.2.1 hcell2.out (by decide) (by rw [hb, show b = w.heap.size from e])), e5.2.2⟩
        case measure => simp [intOf]; omega
    · obtain rfl : k = n := by omega
      have hpR := row_other hown hcell (by decide)
      have hfin : RRep (fun b => w.heap.size ≤ b) wo w.heap.size (newA k) := ⟨lv, .slice none 0 0, [], { hR := Nat.le_refl _, cell := hcell, lrow := ⟨ls, hown, hat0, hel⟩, prow := ⟨World.ownsRow_nil _ _ _ _, fun b hb => by simp [Value.ownBlock] at hb, fun q hq => by cases hq⟩, pend := rfl, good := newA_good h1 h2 }⟩
      replace hcell := Lib.hid hcell
      replace hown := Lib.hid hown
      replace hat0 := Lib.hid hat0
      replace hel := Lib.hid hel
      replace hbe := Lib.hid hbe
      replace hfin := Lib.hid hfin
      go_wp2_with fail
      go_ret2
      exact ⟨_, rfl, hfin.out, hbe.out⟩
end Go.Proofs.Ytpokfbmgcokkbaa
