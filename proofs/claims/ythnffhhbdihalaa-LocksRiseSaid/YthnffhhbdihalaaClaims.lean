/- (*Table).Holds and (*Table).Claims, over find and the iterator. -/
import Derived.Test.YthnffhhbdihalaaFind
import Derived.Maps.AppendAt
namespace Go.Proofs.Ythnffhhbdihalaa
open Go.RowKit Go.Shelf
attribute [local go_sem] Oper.semAt_some

theorem holds_any (T : Nat) (th key : Int) (cl : List Clm) (w : World) (hR : Reads w.heap.size w T key cl) :
    Calls Try.prog 16 #[.pointer (some ⟨T, 0, none⟩), .int .i64 th, .int .i64 key] w fun e w' =>
      e = .returned (.bool (findV cl th).2.2) ∧ Below w.heap.size w w' := by
  obtain ⟨i, ⟨t, a⟩, h, hv⟩ : ∃ i c h, findV cl th = (i, c, h) := ⟨_, _, _, rfl⟩
  rw [hv]
  have hf := Lib.hid (find_eq (th := th) hR hv)
  clear hv
  go_enter Try.func16, Try.ntmps16
  go_wp2_with (go_at_call 24; refine hf.out.mono ?_; rintro e w' ⟨rfl, hb⟩)
  go_ret
  exact ⟨rfl, hb.alloc hb.size _⟩

theorem holds_nil (th key : Int) (w : World) :
    Calls Try.prog 16 #[.pointer none, .int .i64 th, .int .i64 key] w fun e w' =>
      e = .returned (.bool false) ∧ Below w.heap.size w w' := by
  go_enter Try.func16, Try.ntmps16
  go_wp2_with (go_at_call 24; refine (find_nil _ _ _).mono ?_; rintro e w' ⟨rfl, hb⟩)
  go_ret
  exact ⟨rfl, hb.alloc hb.size _⟩

/-- What Claims hands back, cell by cell. -/
def itemCells (l : List Item) : List Value := l.flatMap fun x => [.int .i64 x.2.1.th, .bool x.2.1.al, .bool x.2.2]
theorem itemCells_snoc (l : List Item) (x : Item) : itemCells (l ++ [x]) = itemCells l ++ [.int .i64 x.2.1.th, .bool x.2.1.al, .bool x.2.2] := by simp [itemCells]
theorem info39 : (Try.prog.info? 39).map (fun i => (i.zero, i.size, i.bytes)) = some (some (.agg #[.int .i64 0, .bool false, .bool false]), 3, 16) := by kernel_rfl

theorem cells3_new (W : World) (a b c : Value) (t : TypeId) : ∀ j u, [a, b, c][j]? = some u → (W.alloc (.cells #[a, b, c] t)).cell? (Addr.add ⟨W.heap.size, 0, none⟩ j) = some u := by
  intro j u h
  have hj : j < 3 := by have := (List.getElem?_eq_some_iff.1 h).1; simpa using this
  obtain rfl | rfl | rfl : j = 0 ∨ j = 1 ∨ j = 2 := by omega
  all_goals simpa [Addr.add] using h

def OutRow (n : Nat) (W : World) (pre : List Item) : Prop := ∃ v, Boxed W n 36 v ∧ W.ownsRow n 39 3 v pre.length (itemCells pre)

set_option maxRecDepth 100000 in
set_option maxHeartbeats 2000000 in
theorem claims_gen (F : Fence) (n : Nat) (h18 : F.fn 18) (h27 : F.fn 27) (h28 : F.fn 28) (hro : F.round = none) (hn : 3 ≤ n) (p : Option Addr) (key : Int) (cl : List Clm) (hlen : cl.length ≤ 1000000) (w : World)
    (hit : SeqStopsK F (n - 1) Try.prog 28 #[.pointer (some ⟨w.heap.size + 1, 0, none⟩), .pointer (some ⟨w.heap.size + 2, 0, none⟩)] encItem (Below w.heap.size) (fun xs => xs = itemsTo cl cl.length) (fun pre => ∃ k, k ≤ cl.length ∧ pre = itemsTo cl k) cl.length
      (((w.alloc (.cells #[.slice none 0 0] 36)).alloc (.cells #[.pointer p] 24)).alloc (.cells #[.int .i64 key] 3))) :
    CallsIn F n Try.prog 18 #[.pointer p, .int .i64 key] w fun e w' => 
      ∃ v, e = .returned v ∧ w'.ownsRow w.heap.size 39 3 v cl.length (itemCells (itemsTo cl cl.length)) ∧ Below w.heap.size w w' := by
  have h1 : 1 ≤ n := by omega
  obtain ⟨i0, hi, hz0, hz1, hz2⟩ := info_parts info39
  refine callsIn_of_wp_marks Try.func18 rfl h18 ?_ hro
  simp only [Try.ntmps18, List.size_toArray, List.length_cons, List.length_nil, Nat.reduceAdd, Nat.reduceSub, Array.replicate_succ, Array.replicate_zero, List.push_toArray, List.append_toArray, List.nil_append, List.cons_append]
  gi_wp2_with (gi_at_call 27; refine (row_in F (n - 1) h27 hro _ _ _).mono ?_; rintro e w' ⟨rfl, rfl⟩)
  refine wpIn_rangeFunc_ownH hro h1 (gf := 28) (lb := #[.pointer (some ⟨w.heap.size + 1, 0, none⟩), .pointer (some ⟨w.heap.size + 2, 0, none⟩)]) rfl h28 (enters_of Try.func28 (by kernel_rfl) rfl)
    hit belowK_t (belowK_b (by simp only [World.size_alloc]; omega)) (Below.refl _ _) (fun _ => rfl)
    (fun pre W => w.heap.size + 3 ≤ W.heap.size ∧ OutRow w.heap.size W pre ∧ Below w.heap.size w W)
    (fun c pre W => False)
    ?hI (fun _ _ _ _ _ hs _ _ => hs.elim) ?h0
    (fun x a' W => ∃ Bx, w.heap.size + 3 ≤ Bx ∧ W.heap[Bx]? = some (.cells #[.int .i64 x.2.1.th, .bool x.2.1.al, .bool x.2.2] 39 (0, 0)) ∧ a' = { tmps := #[.pointer p, .int .i64 key, undef, undef, .slice none 0 0, .pointer (some ⟨w.heap.size, 0, none⟩), undef, .pointer (some ⟨Bx, 0, none⟩), .pointer p, .int .i64 key, .func (.func 28) #[] #[.pointer (some ⟨w.heap.size + 1, 0, none⟩), .pointer (some ⟨w.heap.size + 1 + 1, 0, none⟩)], .int .i64 (x.1 : Int), .agg #[.int .i64 x.2.1.th, .bool x.2.1.al, .bool x.2.2], undef, undef, undef, undef, undef], defers := [] })
    ?hAx ?assign ?body ?done ?stop
  case hI =>
    rintro s A B row ⟨h2, ⟨v, hv, hr0⟩, h4⟩ hg hr
    refine ⟨Nat.le_trans h2 hg.size, ⟨v, hv.kept hg (fun e => ?_), hr0.kept hg ?_⟩, ownFrom_below (β := Unit) (Nat.le_refl _) (by simp only [World.size_alloc]; omega) () A B row h4 hg hr⟩
    · have := (hr _ e.symm).1; simp only [World.size_alloc] at this; omega
    · rcases hr0.2 with ⟨rfl, _⟩ | ⟨g, cap, cur, rfl, _, hgb, _⟩
      · exact .inl rfl
      · refine .inr fun e => ?_
        obtain ⟨_, o, ho, hoc⟩ := hr g (by simpa [Value.ownBlock] using e.symm)
        rw [hgb] at ho; cases ho; cases hoc
  case h0 =>
    refine ⟨by simp, ⟨.slice none 0 0, ((Boxed.new w 36 _).alloc _).alloc _, World.ownsRow_nil _ _ _ _⟩, ?_⟩
    exact ((((Below.refl _ w).alloc (Nat.le_refl _) _).alloc (by simp) _).alloc (by simp only [World.size_alloc]; omega) _)
  case hAx =>
    rintro x a' s A B row ⟨Bx, h1, h2, h3⟩ hg hr
    refine ⟨Bx, h1, (hg.block Bx (Array.getElem?_eq_some_iff.1 h2).1 (fun e => ?_)).trans h2, h3⟩
    obtain ⟨_, o, ho, hoc⟩ := hr Bx e.symm
    rw [h2] at ho; cases ho; cases hoc
  case assign =>
    rintro l pre x W K ⟨hz, ⟨v, hv, hr0⟩, i5⟩ hK
    gi_wp2
    exact hK _ _ ((KeepsOthers.alloc _ _).from _) ((Below.refl _ W).alloc (by omega) _) ⟨by simp only [World.size_alloc]; omega, ⟨v, hv.alloc _, hr0.alloc _⟩, i5.alloc (by omega) _⟩ ⟨W.heap.size, hz, World.alloc_heap_new _ _, rfl⟩
  case body =>
    rintro l pre x a' W hl ⟨r, hr⟩ ⟨hz, ⟨v, hv, hrow⟩, hB⟩ ⟨Bx, hBx, hbx, rfl⟩ hlt
    have e0 : W.cell? ⟨Bx, 0, none⟩ = some (.int .i64 x.2.1.th) := by simp [World.cell?, hbx]
    have e1 : W.cell? ⟨Bx, 1, none⟩ = some (.bool x.2.1.al) := by simp [World.cell?, hbx]
    have e2 : W.cell? ⟨Bx, 2, none⟩ = some (.bool x.2.2) := by simp [World.cell?, hbx]
    have hvc := hv.cell
    have hlp : pre.length < 1000000 := by omega
    gi_wp2_with (gi_at_builtin; refine wpListIn_append_own _ rfl _ _ 36 rfl w.heap.size 39 i0 _ 3 16 Try.underlying36 hi hz0 hz1 hz2 rfl (by decide) _ _ _ rfl (hrow.alloc _) ⟨W.heap.size, 0, none⟩ 1 1 [.int .i64 x.2.1.th, .bool x.2.1.al, .bool x.2.2] rfl rfl (cells3_new _ _ _ _ _) (by simp [Value.oneCell']) (by unfold maxLen; omega) (by omega) (by simp; omega) ?_; intro v' w1 hown' hgrow _; obtain ⟨g', cap', rfl⟩ := ownsRow_succ hown'; obtain ⟨hv1, hv2, hr2, hk2, hb2⟩ := hv.appended (by decide) hrow hB.size (Nat.le_refl _) hown' hgrow; have hc1 := hv1.cell; have hf1 := hv1.frozen)
    exact ⟨hk2.from _, hb2, by simp only [World.size_setCell]; have := hgrow.size; simp only [World.size_alloc] at this; omega, ⟨_, hv2, by rw [itemCells_snoc, List.length_append]; exact hr2⟩, hB.trans hb2⟩
  case done =>
    rintro D xs W hD rfl ⟨hz, ⟨v, hv, hrow⟩, hB⟩ hK
    have hvc := hv.cell
    gi_wp2
    refine ⟨by simp, .inl ⟨_, _, rfl, run_takeDeferred hK, ?_⟩⟩
    refine ⟨_, results_tmp rfl _ _ _, v, rfl, ?_, hB.trans (belowK_b (w := w) (Nat.le_refl _) _ D _ _ (by simp at hD; omega) hK rfl rfl)⟩
    rw [itemsTo_length] at hrow
    exact ownsRow_putObj hrow _ hK rfl
  case stop => exact fun _ _ _ _ _ _ h _ => h.elim
end Go.Proofs.Ythnffhhbdihalaa
