/- (*Table).find: the place of a thread's claim in a key's row, and whether it holds. -/
import Derived.Test.YthnffhhbdihalaaIter
namespace Go.Proofs.Ythnffhhbdihalaa
open Go.RowKit Go.Shelf
attribute [local go_sem] Oper.semAt_some

theorem iter_stops (F : Fence) (n : Nat) (h28 : F.fn 28) (hro : F.round = none) (hn : 1 ≤ n) (B B' n₀ : Nat) (T : Nat) (key : Int) (cl : List Clm) (w : World) (hBl : B < w.heap.size) (hBl' : B' < w.heap.size)
    (hB : w.cell? ⟨B, 0, none⟩ = some (.pointer (some ⟨T, 0, none⟩))) (hB' : w.cell? ⟨B', 0, none⟩ = some (.int .i64 key)) (hR : Reads n₀ w T key cl) (hn₀ : n₀ ≤ w.heap.size) :
    SeqStopsK F n Try.prog 28 #[.pointer (some ⟨B, 0, none⟩), .pointer (some ⟨B', 0, none⟩)] encItem (Below n₀) (fun xs => xs = itemsTo cl cl.length) (fun pre => ∃ k, k ≤ cl.length ∧ pre = itemsTo cl k) cl.length w := fun l J Jx W hW hJ _ hY h0 => by
  refine (iter_some F n h28 hro hn l B B' n₀ T key cl J Jx W hJ hY ((hW.cell (p := ⟨B, 0, none⟩) hBl).trans hB) ((hW.cell (p := ⟨B', 0, none⟩) hBl').trans hB') (hR.below (hW.mono hn₀)) (Nat.le_trans hn₀ hW.size) h0).mono ?_
  rintro e W' ⟨he, hj | ⟨k, hk, hj⟩⟩
  · exact ⟨he, .inl ⟨_, rfl, hj⟩⟩
  · exact ⟨he, .inr ⟨_, ⟨k, hk, rfl⟩, hj⟩⟩

theorem iter_stops_nil (F : Fence) (n : Nat) (h28 : F.fn 28) (hro : F.round = none) (B B' n₀ : Nat) (w : World) (hBl : B < w.heap.size)
    (hB : w.cell? ⟨B, 0, none⟩ = some (.pointer none)) :
    SeqStopsK F n Try.prog 28 #[.pointer (some ⟨B, 0, none⟩), .pointer (some ⟨B', 0, none⟩)] encItem (Below n₀) (fun xs => xs = itemsTo [] 0) (fun pre => ∃ k, k ≤ 0 ∧ pre = itemsTo [] k) 0 w := fun l J Jx W hW hJ _ hY h0 => by
  refine (iter_nil F n h28 hro l B W ((hW.cell (p := ⟨B, 0, none⟩) hBl).trans hB) B').mono ?_
  rintro e W' ⟨he, rfl⟩
  exact ⟨he, .inl ⟨_, rfl, h0⟩⟩

/-- What find answers. -/
def findAt (l : List Clm) (th : Int) : Option Nat := l.findIdx? (fun c => c.th == th)
def findV (l : List Clm) (th : Int) : Int × Clm × Bool := match findAt l th with
  | some i => (i, clmAt l i, holdsAt l i)
  | none => (-1, ⟨0, false⟩, false)
/-- None of these is th's. -/
def NoTh (th : Int) (pre : List Item) : Prop := ∀ x ∈ pre, x.2.1.th ≠ th
theorem NoTh.nil (th : Int) : NoTh th [] := fun _ h => by cases h
theorem NoTh.snoc {th : Int} {pre : List Item} {x : Item} (h : NoTh th pre) (hx : x.2.1.th ≠ th) : NoTh th (pre ++ [x]) := fun y hy => by
  rcases List.mem_append.1 hy with hy | hy
  · exact h y hy
  · rw [List.mem_singleton.1 hy]; exact hx
theorem clmAt_eq {l : List Clm} {i : Nat} (h : i < l.length) : clmAt l i = l[i] := by simp [clmAt, h]
theorem NoTh.at {th : Int} {l : List Clm} {k i : Nat} (h : NoTh th (itemsTo l k)) (hi : i < k) : (clmAt l i).th ≠ th :=
  h (itemAt l i) (List.mem_map.2 ⟨i, List.mem_range.2 hi, rfl⟩)
theorem findV_none {l : List Clm} {th : Int} (h : NoTh th (itemsTo l l.length)) : findV l th = (-1, ⟨0, false⟩, false) := by
  have : findAt l th = none := by
    unfold findAt
    rw [List.findIdx?_eq_none_iff]
    intro x hx
    obtain ⟨i, hi, rfl⟩ := List.getElem_of_mem hx
    have := h.at hi
    rw [clmAt_eq hi] at this
    simpa using this
  unfold findV
  rw [this]
theorem findV_some {l : List Clm} {th : Int} {k : Nat} {pre : List Item} {x : Item} (hk : k ≤ l.length) (he : pre ++ [x] = itemsTo l k) (h : NoTh th pre) (hx : x.2.1.th = th) : findV l th = ((x.1 : Int), x.2.1, x.2.2) := by
  cases k with
  | zero => simp [itemsTo] at he
  | succ m =>
    rw [itemsTo_succ] at he
    obtain ⟨h1, h2⟩ := List.append_inj' he rfl
    simp only [List.cons.injEq, and_true] at h2
    subst h1 h2
    have : findAt l th = some m := by
      unfold findAt
      rw [List.findIdx?_eq_some_iff_getElem]
      refine ⟨by omega, ?_, fun j hj => ?_⟩
      · have h3 : (clmAt l m).th = th := hx
        rw [clmAt_eq (by omega)] at h3
        simpa using h3
      · have h3 := h.at hj
        rw [clmAt_eq (by omega)] at h3
        simpa using h3
    unfold findV
    rw [this]
    rfl

theorem ownFrom_heap {β : Type} {B k : Nat} (h : k < B) (o : Obj) : OwnFrom B (fun (_ : β) W => W.heap[k]? = some o) := fun _ A C row hs hg hr =>
  (hg.block k (Array.getElem?_eq_some_iff.1 hs).1 (fun e => by have := (hr k e.symm).1; omega)).trans hs

theorem heap_at5 (w : World) (a b c d e : Obj) (i : Nat) (hi : i < 5) : (((((w.alloc a).alloc b).alloc c).alloc d).alloc e).heap[w.heap.size + i]? = [a, b, c, d, e][i]? := by
  have h : (((((w.alloc a).alloc b).alloc c).alloc d).alloc e).heap = ((((w.heap.push a).push b).push c).push d).push e := rfl
  rw [h]
  simp only [Array.getElem?_push, Array.size_push]
  obtain rfl | rfl | rfl | rfl | rfl : i = 0 ∨ i = 1 ∨ i = 2 ∨ i = 3 ∨ i = 4 := by omega
  all_goals (repeat (first | rw [if_pos (by omega)] | rw [if_neg (by omega)]))
  all_goals rfl

theorem heap_cell5 (w : World) (a b c d e : Obj) (i : Nat) (hi : i < 5) {v : Value} {t : TypeId} (h : [a, b, c, d, e][i]? = some (.cells #[v] t (0, 0))) :
    (((((w.alloc a).alloc b).alloc c).alloc d).alloc e).cell? ⟨w.heap.size + i, 0, none⟩ = some v := by
  have := heap_at5 w a b c d e i hi
  simp [World.cell?, this, h]

/-- find's three boxes, from block B on. -/
structure FindCells (B : Nat) (W : World) (th i : Int) (c : Clm) (h : Bool) : Prop where
  c0 : W.cell? ⟨B, 0, none⟩ = some (.int .i64 th)
  c1 : W.cell? ⟨B + 1, 0, none⟩ = some (.int .i64 i)
  f1 : W.frozen? ⟨B + 1, 0, none⟩ = false
  d0 : W.cell? ⟨B + 1 + 1, 0, none⟩ = some (.int .i64 c.th)
  d1 : W.cell? ⟨B + 1 + 1, 1, none⟩ = some (.bool c.al)
  d2 : W.cell? ⟨B + 1 + 1, 2, none⟩ = some (.bool h)
  g0 : W.frozen? ⟨B + 1 + 1, 0, none⟩ = false
  g1 : W.frozen? ⟨B + 1 + 1, 1, none⟩ = false
  g2 : W.frozen? ⟨B + 1 + 1, 2, none⟩ = false

theorem FindCells.kept {B : Nat} {W W' : World} {th i : Int} {c : Clm} {h : Bool} (H : FindCells B W th i c h) {row : Option Nat} (hg : W.grownBy W' row) (hr : ∀ r, row = some r → ∃ o : Obj, W.heap[r]? = some o ∧ o.isCells = false) : FindCells B W' th i c h := by
  obtain ⟨c0, c1, f1, d0, d1, d2, g0, g1, g2⟩ := H
  exact ⟨cell_kept c0 hg hr, cell_kept c1 hg hr, (frozen_kept c1 hg hr).trans f1, cell_kept d0 hg hr, cell_kept d1 hg hr, cell_kept d2 hg hr, (frozen_kept d0 hg hr).trans g0, (frozen_kept d1 hg hr).trans g1, (frozen_kept d2 hg hr).trans g2⟩

theorem FindCells.of_heap {B : Nat} {W : World} {th i : Int} {c : Clm} {h : Bool} (b0 : W.heap[B]? = some (.cells #[.int .i64 th] 3 (0, 0))) (b1 : W.heap[B + 1]? = some (.cells #[.int .i64 i] 3 (0, 0)))
    (b2 : W.heap[B + 1 + 1]? = some (.cells #[.int .i64 c.th, .bool c.al, .bool h] 39 (0, 0))) : FindCells B W th i c h := by
  constructor <;> simp [World.cell?, World.frozen?, b0, b1, b2]

theorem FindCells.stored {B : Nat} {W : World} {th i : Int} {c : Clm} {h : Bool} (H : FindCells B W th i c h) (i' : Int) (c' : Clm) (h' : Bool) :
    FindCells B (((((W.setCell ⟨B + 1, 0, none⟩ (.int .i64 i')).setCell ⟨B + 1 + 1, 0, none⟩ (.int .i64 c'.th)).setCell ⟨B + 1 + 1, 1, none⟩ (.bool c'.al)).setCell ⟨B + 1 + 1, 2, none⟩ (.bool h')).drew) th i' c' h' := by
  obtain ⟨c0, c1, f1, d0, d1, d2, g0, g1, g2⟩ := H
  constructor <;> simp [World.cell?_setCell_other, World.cell?_setCell_same', c0, c1, f1, d0, d1, d2, g0, g1, g2]

theorem FindCells.stored' {B : Nat} {W : World} {th i : Int} {c : Clm} {h : Bool} (H : FindCells B W th i c h) (i' : Int) (c' : Clm) (h' : Bool) :
    FindCells B ((((W.setCell ⟨B + 1, 0, none⟩ (.int .i64 i')).setCell ⟨B + 1 + 1, 0, none⟩ (.int .i64 c'.th)).setCell ⟨B + 1 + 1, 1, none⟩ (.bool c'.al)).setCell ⟨B + 1 + 1, 2, none⟩ (.bool h')) th i' c' h' := by
  obtain ⟨c0, c1, f1, d0, d1, d2, g0, g1, g2⟩ := H
  constructor <;> simp [World.cell?_setCell_other, World.cell?_setCell_same', c0, c1, f1, d0, d1, d2, g0, g1, g2]

theorem FindCells.alloc {B : Nat} {W : World} {th i : Int} {c : Clm} {h : Bool} (H : FindCells B W th i c h) (hz : True) (o : Obj) : FindCells B (W.alloc o) th i c h :=
  H.kept (World.grownBy_alloc W o none) (fun r e => by cases e)

set_option maxRecDepth 100000 in
set_option maxHeartbeats 2000000 in
theorem find_gen (F : Fence) (n : Nat) (h24 : F.fn 24) (h27 : F.fn 27) (h28 : F.fn 28) (hro : F.round = none) (hn : 3 ≤ n) (p : Option Addr) (th key : Int) (cl : List Clm) (w : World)
    (hit : SeqStopsK F (n - 1) Try.prog 28 #[.pointer (some ⟨w.heap.size + 3, 0, none⟩), .pointer (some ⟨w.heap.size + 4, 0, none⟩)] encItem (Below w.heap.size) (fun xs => xs = itemsTo cl cl.length) (fun pre => ∃ k, k ≤ cl.length ∧ pre = itemsTo cl k) cl.length
      (((((w.alloc (.cells #[.int .i64 th] 3)).alloc (.cells #[.int .i64 0] 3)).alloc (.cells #[.int .i64 0, .bool false, .bool false] 39)).alloc (.cells #[.pointer p] 24)).alloc (.cells #[.int .i64 key] 3))) :
    CallsIn F n Try.prog 24 #[.pointer p, .int .i64 th, .int .i64 key] w fun e w' => 
      e = .returned (.tuple #[.int .i64 (findV cl th).1, (findV cl th).2.1.v (findV cl th).2.2]) ∧ Below w.heap.size w w' := by
  have h1 : 1 ≤ n := by omega
  refine callsIn_of_wp_marks Try.func24 rfl h24 ?_ hro
  simp only [Try.ntmps24, List.size_toArray, List.length_cons, List.length_nil, Nat.reduceAdd, Nat.reduceSub, Array.replicate_succ, Array.replicate_zero, List.push_toArray, List.append_toArray, List.nil_append, List.cons_append]
  gi_wp2_with (gi_at_call 27; refine (row_in F (n - 1) h27 hro _ _ _).mono ?_; rintro e w' ⟨rfl, rfl⟩)
  refine wpIn_rangeFunc_ownH hro h1 (gf := 28) (lb := #[.pointer (some ⟨w.heap.size + 3, 0, none⟩), .pointer (some ⟨w.heap.size + 4, 0, none⟩)]) rfl h28 (enters_of Try.func28 (by kernel_rfl) rfl)
    hit belowK_t (belowK_b (by simp only [World.size_alloc]; omega)) (Below.refl _ _) (fun _ => rfl)
    (fun pre W => NoTh th pre ∧ w.heap.size + 5 ≤ W.heap.size ∧ FindCells w.heap.size W th 0 ⟨0, false⟩ false ∧ Below w.heap.size w W)
    (fun c pre W => c = .ret ∧ ∃ pre' x, pre = pre' ++ [x] ∧ NoTh th pre' ∧ x.2.1.th = th ∧ FindCells w.heap.size W th (x.1 : Int) x.2.1 x.2.2 ∧ Below w.heap.size w W)
    ?hI ?hIx ?h0
    (fun x a' W => ∃ Bx, w.heap.size + 5 ≤ Bx ∧ W.heap[Bx]? = some (.cells #[.int .i64 x.2.1.th, .bool x.2.1.al, .bool x.2.2] 39 (0, 0)) ∧ a' = { tmps := #[.pointer p, .int .i64 th, .int .i64 key, undef, .pointer (some ⟨w.heap.size, 0, none⟩), undef, .pointer (some ⟨w.heap.size + 1, 0, none⟩), .pointer (some ⟨w.heap.size + 1 + 1, 0, none⟩), .int .i64 (x.1 : Int), .pointer (some ⟨Bx, 0, none⟩), .pointer p, .int .i64 key, .func (.func 28) #[] #[.pointer (some ⟨w.heap.size + 1 + 1 + 1, 0, none⟩), .pointer (some ⟨w.heap.size + 1 + 1 + 1 + 1, 0, none⟩)], .int .i64 (x.1 : Int), .agg #[.int .i64 x.2.1.th, .bool x.2.1.al, .bool x.2.2], undef, undef, undef, undef, undef, undef, undef], defers := [] })
    ?hAx ?assign ?body ?done ?stop
  case hI =>
    rintro s A B row ⟨h1, h2, h3, h4⟩ hg hr
    exact ⟨h1, Nat.le_trans h2 hg.size, h3.kept hg (fun r e => (hr r e).2), ownFrom_below (β := Unit) (Nat.le_refl _) (by simp only [World.size_alloc]; omega) () A B row h4 hg hr⟩
  case hIx =>
    rintro c s A B row ⟨hc, pre', x, h2, h3, h4, h5, h7⟩ hg hr
    exact ⟨hc, pre', x, h2, h3, h4, h5.kept hg (fun r e => (hr r e).2), ownFrom_below (β := Unit) (Nat.le_refl _) (by simp only [World.size_alloc]; omega) () A B row h7 hg hr⟩
  case h0 =>
    have b0 := heap_at5 w (.cells #[.int .i64 th] 3) (.cells #[.int .i64 0] 3) (.cells #[.int .i64 0, .bool false, .bool false] 39) (.cells #[.pointer p] 24) (.cells #[.int .i64 key] 3) 0 (by omega)
    have b1 := heap_at5 w (.cells #[.int .i64 th] 3) (.cells #[.int .i64 0] 3) (.cells #[.int .i64 0, .bool false, .bool false] 39) (.cells #[.pointer p] 24) (.cells #[.int .i64 key] 3) 1 (by omega)
    have b2 := heap_at5 w (.cells #[.int .i64 th] 3) (.cells #[.int .i64 0] 3) (.cells #[.int .i64 0, .bool false, .bool false] 39) (.cells #[.pointer p] 24) (.cells #[.int .i64 key] 3) 2 (by omega)
    refine ⟨NoTh.nil _, by simp, FindCells.of_heap b0 b1 b2, ?_⟩
    exact ((((((Below.refl _ w).alloc (Nat.le_refl _) _).alloc (by simp) _).alloc (by simp only [World.size_alloc]; omega) _).alloc (by simp only [World.size_alloc]; omega) _).alloc (by simp only [World.size_alloc]; omega) _)
  case hAx =>
    rintro x a' s A B row ⟨Bx, h1, h2, h3⟩ hg hr
    refine ⟨Bx, h1, (hg.block Bx (Array.getElem?_eq_some_iff.1 h2).1 (fun e => ?_)).trans h2, h3⟩
    obtain ⟨_, o, ho, hoc⟩ := hr Bx e.symm
    rw [h2] at ho; cases ho; cases hoc
  case assign =>
    rintro l pre x W K ⟨i1, hz, i3, i5⟩ hK
    gi_wp2
    exact hK _ _ ((KeepsOthers.alloc _ _).from _) ((Below.refl _ W).alloc (by omega) _) ⟨i1, by simp only [World.size_alloc]; omega, i3.alloc trivial _, i5.alloc (by omega) _⟩ ⟨W.heap.size, hz, World.alloc_heap_new _ _, rfl⟩
  case body =>
    rintro l pre x a' W hl ⟨r, hr⟩ ⟨i1, hz, ⟨c0, c1, f1, d0, d1, d2, g0, g1, g2⟩, i5⟩ ⟨Bx, hBx, hbx, rfl⟩ hlt
    have e0 : W.cell? ⟨Bx, 0, none⟩ = some (.int .i64 x.2.1.th) := by simp [World.cell?, hbx]
    have e1 : W.cell? ⟨Bx, 1, none⟩ = some (.bool x.2.1.al) := by simp [World.cell?, hbx]
    have e2 : W.cell? ⟨Bx, 2, none⟩ = some (.bool x.2.2) := by simp [World.cell?, hbx]
    by_cases he : x.2.1.th = th
    · have he' : (x.2.1.th == th) = true := by simpa using he
      have hst := (FindCells.mk c0 c1 f1 d0 d1 d2 g0 g1 g2 : FindCells w.heap.size W th 0 ⟨0, false⟩ false).stored (x.1 : Int) x.2.1 x.2.2
      rw [he] at hst
      replace hst := Lib.hid hst
      gi_wp2
      gi_region_with (fail)
      all_goals gi_wp2
      all_goals refine ⟨?_, rfl, pre, x, rfl, i1, he, ?_, ?_⟩
      all_goals first
        | exact ((((((KeepsOthers.setCell _ _ _).trans (KeepsOthers.setCell _ _ _)).trans (KeepsOthers.setCell _ _ _)).trans (KeepsOthers.setCell _ _ _)).trans (KeepsOthers.drew _))).from _
        | exact hst.out
        | exact ((((i5.setCell (p := ⟨w.heap.size + 1, 0, none⟩) (Nat.le_add_right w.heap.size 1) _).setCell (p := ⟨w.heap.size + 1 + 1, 0, none⟩) (Nat.le_add_right w.heap.size 2) _).setCell (p := ⟨w.heap.size + 1 + 1, 1, none⟩) (Nat.le_add_right w.heap.size 2) _).setCell (p := ⟨w.heap.size + 1 + 1, 2, none⟩) (Nat.le_add_right w.heap.size 2) _).drew
    · have he' : (x.2.1.th == th) = false := by simpa using he
      gi_wp2
      exact ⟨KeepsFrom.refl _ _, Below.refl _ _, i1.snoc he, hz, ⟨c0, c1, f1, d0, d1, d2, g0, g1, g2⟩, i5⟩
  case done =>
    rintro D xs W hD rfl ⟨i1, hz, H, i5⟩ hK
    have hs := H.stored' (-1) ⟨0, false⟩ false
    have hko := ((((KeepsOthers.setCell W ⟨w.heap.size + 1, 0, none⟩ (.int .i64 (-1))).trans (KeepsOthers.setCell _ ⟨w.heap.size + 1 + 1, 0, none⟩ (.int .i64 0))).trans (KeepsOthers.setCell _ ⟨w.heap.size + 1 + 1, 1, none⟩ (.bool false))).trans (KeepsOthers.setCell _ ⟨w.heap.size + 1 + 1, 2, none⟩ (.bool false))).same D _ hK rfl
    have hbl := ((((i5.setCell (p := ⟨w.heap.size + 1, 0, none⟩) (by simp) (.int .i64 (-1))).setCell (p := ⟨w.heap.size + 1 + 1, 0, none⟩) (by simp; omega) (.int .i64 0)).setCell (p := ⟨w.heap.size + 1 + 1, 1, none⟩) (by simp; omega) (.bool false)).setCell (p := ⟨w.heap.size + 1 + 1, 2, none⟩) (by simp; omega) (.bool false))
    obtain ⟨c0, c1, f1, d0, d1, d2, g0, g1, g2⟩ := H
    gi_wp2
    refine ⟨by simp, .inl ⟨_, _, rfl, run_takeDeferred hko, ?_⟩⟩
    obtain ⟨c0, c1, f1, d0, d1, d2, g0, g1, g2⟩ := hs.kept (grownBy_putObj' _ D (.deferred none)) (fun r e => by cases e; exact ⟨_, hko, rfl⟩)
    refine ⟨.tuple #[.int .i64 (-1), .agg #[.int .i64 0, .bool false, .bool false]], ?_, by rw [findV_none i1]; rfl, ?_⟩
    · simp [results, Try.f24, go_sem, c1, d0, d1, d2]
    · exact hbl.trans (belowK_b (w := w) (Nat.le_refl _) _ D _ _ (by simp at hD; omega) hko rfl rfl)
  case stop =>
    rintro D c pre W hD ⟨k, hk, hpre⟩ ⟨rfl, pre', x, h2, h3, h4, h5, h7⟩ hK
    gi_wp2
    refine ⟨by simp, .inl ⟨_, _, rfl, run_takeDeferred hK, ?_⟩⟩
    obtain ⟨c0, c1, f1, d0, d1, d2, g0, g1, g2⟩ := h5.kept (grownBy_putObj' _ D (.deferred none)) (fun r e => by cases e; exact ⟨_, hK, rfl⟩)
    refine ⟨.tuple #[.int .i64 (x.1 : Int), .agg #[.int .i64 x.2.1.th, .bool x.2.1.al, .bool x.2.2]], ?_, by rw [findV_some hk (h2 ▸ hpre) h3 h4]; rfl, ?_⟩
    · simp [results, Try.f24, go_sem, c1, d0, d1, d2]
    · exact h7.trans (belowK_b (w := w) (Nat.le_refl _) W D _ _ (by simp at hD; omega) hK rfl rfl)
theorem findV_nil (th : Int) : findV [] th = (-1, ⟨0, false⟩, false) := rfl

/-- find on a table that was never made. -/
theorem find_nil (th key : Int) (w : World) :
    Calls Try.prog 24 #[.pointer none, .int .i64 th, .int .i64 key] w fun e w' =>
      e = .returned (.tuple #[.int .i64 (-1), .agg #[.int .i64 0, .bool false, .bool false]]) ∧ Below w.heap.size w w' := by
  refine (callsIn_wide (n := 3)).1 ?_
  refine (find_gen Fence.wide 3 trivial trivial trivial rfl (by omega) none th key [] w ?_).mono ?_
  · exact iter_stops_nil Fence.wide _ trivial rfl _ _ _ _ (by simp) (heap_cell5 _ _ _ _ _ _ 3 (by omega) rfl)
  · rintro e w' ⟨rfl, h⟩; exact ⟨rfl, h⟩

theorem find_any (T : Nat) (th key : Int) (cl : List Clm) (w : World) (hR : Reads w.heap.size w T key cl) :
    Calls Try.prog 24 #[.pointer (some ⟨T, 0, none⟩), .int .i64 th, .int .i64 key] w fun e w' =>
      e = .returned (.tuple #[.int .i64 (findV cl th).1, (findV cl th).2.1.v (findV cl th).2.2]) ∧ Below w.heap.size w w' := by
  refine (callsIn_wide (n := 3)).1 ?_
  refine find_gen Fence.wide 3 trivial trivial trivial rfl (by omega) _ th key cl w ?_
  refine iter_stops Fence.wide _ trivial rfl (by omega) _ _ _ T key cl _ (by simp) (by simp) (heap_cell5 _ _ _ _ _ _ 3 (by omega) rfl) (heap_cell5 _ _ _ _ _ _ 4 (by omega) rfl) (hR.below ?_) (by simp; omega)
  exact ((((((Below.refl _ w).alloc (Nat.le_refl _) _).alloc (by simp) _).alloc (by simp only [World.size_alloc]; omega) _).alloc (by simp only [World.size_alloc]; omega) _).alloc (by simp only [World.size_alloc]; omega) _)
theorem find_eq {T : Nat} {th key : Int} {cl : List Clm} {w : World} (hR : Reads w.heap.size w T key cl) {i t : Int} {a h : Bool} (hv : findV cl th = (i, ⟨t, a⟩, h)) :
    Calls Try.prog 24 #[.pointer (some ⟨T, 0, none⟩), .int .i64 th, .int .i64 key] w fun e w' =>
      e = .returned (.tuple #[.int .i64 i, .agg #[.int .i64 t, .bool a, .bool h]]) ∧ Below w.heap.size w w' :=
  (find_any T th key cl w hR).mono fun _ _ ⟨he, hb⟩ => ⟨by rw [he, hv]; rfl, hb⟩
end Go.Proofs.Ythnffhhbdihalaa
