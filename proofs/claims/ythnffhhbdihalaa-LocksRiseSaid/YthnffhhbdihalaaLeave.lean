/- (*Table).Leave: what it refuses, and what it takes out. -/
import Derived.Test.YthnffhhbdihalaaDel
import Derived.Test.YthnffhhbdihalaaAsk
namespace Go.Proofs.Ythnffhhbdihalaa
open Go.RowKit Go.Shelf

theorem leave_nil (th key : Int) (w : World) :
    Calls Try.prog 14 #[.pointer none, .int .i64 th, .int .i64 key] w fun e w' => e = .returned (.int .i64 22) ∧ Below w.heap.size w w' := by
  go_enter Try.func14, Try.ntmps14
  go_wp2_with (go_at_call 24; refine (find_nil _ _ _).mono ?_; rintro e w' ⟨rfl, hb⟩)
  go_ret
  exact ⟨rfl, hb.alloc hb.size _⟩

theorem leave_hasnt {S : Nat → Prop} {w : World} {T M : Nat} {f : Int → Option Value} {R : Int → List Clm} (ht : Tab S w T M f R) (th key : Int) (h : findAt (R key) th = none) :
    Calls Try.prog 14 #[.pointer (some ⟨T, 0, none⟩), .int .i64 th, .int .i64 key] w fun e w' => e = .returned (.int .i64 22) ∧ Below w.heap.size w w' := by
  have hf := Lib.hid (find_eq (ht.reads key) (findV_hasnt h))
  clear h ht
  go_enter Try.func14, Try.ntmps14
  go_wp2_with (go_at_call 24; refine hf.out.mono ?_; rintro e w' ⟨rfl, hb⟩)
  go_ret
  exact ⟨rfl, hb.alloc hb.size _⟩

/-- A builtin of two arguments at the operation, by its run. -/
theorem wpList_builtin2 {P : Program} (w : World) {ops : Array Oper} {rest : List Oper} {o : Oper} {a : Act} {Q : Exit → Act → World → Prop}
    (hg : o.guard = none) (b : Builtin) (x y : Operand) (ts : Array TypeId) (hop : o.op = Op.call { callee := Callee.builtin b, args := #[x, y], argTypes := ts }) (u u' v : Value) (w1 : World) (hx : a.eval x = u) (hy : a.eval y = u')
    (hrun : ∀ cs, (builtin b ts o.type cs #[u, u']).run P w = .ok (.value v) w1) (hK : wpList P ops Q rest (a.put o.dst v) w1) :
    wpList P ops Q (o :: rest) a w := by
  refine wpList_plain hg fun K' hK' => ?_
  unfold Oper.wp
  simp [execOp, hop, hx, hy, resolve, invoke, hrun, Result.andThen]
  exact hK' _ _ hK

theorem run_builtin_delete {P : Program} {w w1 : World} {ts : Array TypeId} {ty ty' : TypeId} {cs : Array Bool} {args : Array Value} {v : Value} (h : (Builtin.delete_ ts ty args).run P w = .ok v w1) : (builtin .delete ts ty' cs args).run P w = .ok (.value v) w1 := by
  have h' : (Builtin.delete_ ts ty' args).run P w = .ok v w1 := h
  simp [builtin, h']

/-- What Leave leaves where the row runs out: the key is struck. -/
def LeaveLast (w : World) (M : Nat) (f : Int → Option Value) (key : Int) (v0 : Value) (w' : World) : Prop :=
  ∃ v o o' w1, w' = (w1.putObj M o).putObj M o' ∧ IMap w' M (upd (upd f key (some v)) key none) ∧ Kept (fun b => v0.ownBlock = some b) w w1

set_option maxRecDepth 100000 in
set_option maxHeartbeats 2000000 in
theorem leave_core {S : Nat → Prop} {w : World} {T M : Nat} {f : Int → Option Value} {R : Int → List Clm} (ht : Tab S w T M f R) (th key : Int) {i : Nat} (h : findAt (R key) th = some i) (hi : i < (R key).length) (v0 : Value) (hv0 : f key = some v0) (m : Nat) (hm : (R key).length = m + 1) :
    Calls Try.prog 14 #[.pointer (some ⟨T, 0, none⟩), .int .i64 th, .int .i64 key] w fun e w' => e = .returned (.int .i64 0) ∧
      ((m = 0 ∧ LeaveLast w M f key v0 w') ∨ (m ≠ 0 ∧ AskDone w M f key v0 m (clmCells ((R key).eraseIdx i)) w')) := by
  obtain ⟨t, a, hh, hv⟩ : ∃ t a hh, findV (R key) th = ((i : Int), ⟨t, a⟩, hh) := ⟨_, _, _, findV_has h⟩
  have hf := Lib.hid (find_eq (ht.reads key) hv)
  clear hv h
  have hTlt := ht.lt _ ht.hT
  have hMlt := ht.lt _ ht.hM
  obtain ⟨hne0, hown⟩ := ht.rows key v0 hv0
  have hS0 : ∀ b, v0.ownBlock = some b → S b := fun b => ht.foot key v0 b hv0
  obtain ⟨g, cap, cur, rfl, hgb, h1, h2, h3, h4⟩ := own_block hown (by simpa using hne0)
  have hglt : g < w.heap.size := ht.lt g (hS0 g rfl)
  have hgT : g ≠ T := fun e => by subst e; rw [ht.cT] at hgb; cases hgb
  have hgM : g ≠ M := fun e => by obtain ⟨es, ck, hm, _⟩ := ht.map; subst e; rw [hm] at hgb; cases hgb
  have hTM : T ≠ M := fun e => by obtain ⟨es, ck, hm, _⟩ := ht.map; have := ht.cT; rw [e, hm] at this; cases this
  have hlen : (R key).length ≤ 64 := ht.small key
  have hmap := ht.map
  have hL : ∀ x : World, x.heap[M]? = w.heap[M]? → (Instr.lookup 56 (.map (some M)) (.int .i64 key) false).run Try.prog x = .ok (.slice (some ⟨g, 0, none⟩) (m + 1) cap) x := fun x hx => by
    rw [← hm]
    have := (hmap.of_block hx).lookup (P := Try.prog) Try.underlying56 Try.underlying3 (zero36 _) key
    rw [hv0] at this; exact this
  have hTb := ht.cT
  have hm64 : m ≤ 64 := by omega
  clear ht hv0 hS0 hne0 h1 h2 h3 h4
  replace hmap := Lib.hid hmap
  replace hTb := Lib.hid hTb
  have hi0 : (0 : Int) ≤ (i : Int) := Int.natCast_nonneg _
  have hi1 : (i : Int) ≤ 64 := by omega
  have hwr : IntKind.i64.wrap ((i : Int) + 1) = (i : Int) + 1 := by rw [IntKind.wrap_i64]; omega
  go_enter Try.func14, Try.ntmps14
  go_wp2_with (go_at_call 24; refine hf.out.mono ?_; rintro e w1 ⟨rfl, hb⟩; have hTc : w1.cell? ⟨T, 0, none⟩ = some (.map (some M)) := (hb.cell (p := ⟨T, 0, none⟩) hTlt).trans (by simp [World.cell?, hTb.out]); have hT1 : T < w1.heap.size := Nat.lt_of_lt_of_le hTlt hb.size)
  have hM1 : M < w1.heap.size := Nat.lt_of_lt_of_le hMlt hb.size
  have hg1 : g < w1.heap.size := Nat.lt_of_lt_of_le hglt hb.size
  have hk1 := Lib.hid (show ∀ o, (w1.alloc o).drew.heap[M]? = w.heap[M]? from fun o => (Below.heap_alloc w1 o M hM1).trans (hb.block M hMlt))
  have hl1 : ∀ o, (Instr.lookup 56 (.map (some M)) (.int .i64 key) false).run Try.prog (w1.alloc o).drew = .ok (.slice (some ⟨g, 0, none⟩) (m + 1) cap) (w1.alloc o).drew := fun o => hL _ (hk1.out o)
  have hown1 : ∀ o, (w1.alloc o).drew.ownsRow 0 39 3 (.slice (some ⟨g, 0, none⟩) (R key).length cap) (R key).length (clmCells (R key)) := fun o => by
    obtain ⟨a1, a2⟩ := hown
    refine ⟨a1, .inr ?_⟩
    rcases a2 with ⟨a2, _⟩ | ⟨g', cap', cur', a2, a3, a4, a5⟩
    · cases a2
    · obtain rfl : g = g' := by simpa using (Value.slice.inj a2).1
      exact ⟨g, cap', cur', a2, a3, ((Below.heap_alloc w1 o g hg1).trans (hb.block g hglt)).trans a4, a5⟩
  have hdel := Lib.hid (show ∀ o, Calls Try.prog 26 #[.slice (some ⟨g, 0, none⟩) (m + 1) cap, .int .i64 i, .int .i64 ((i : Int) + 1)] (w1.alloc o).drew fun e w' =>
      e = .returned (.slice (some ⟨g, 0, none⟩) m cap) ∧ w'.ownsRow 0 39 3 (.slice (some ⟨g, 0, none⟩) m cap) m (clmCells ((R key).eraseIdx i)) ∧ (w1.alloc o).drew.grownBy w' (some g) from fun o => by
    obtain ⟨g', cap', e, hc⟩ := delete_any (hown1 o) i hi hlen
    obtain ⟨e1, _, e2⟩ := Value.slice.inj e
    obtain rfl : g = g' := by simpa using e1
    subst e2
    rw [hm] at hc
    exact hc)
  clear hf hL hm
  replace hown1 := Lib.hid hown1
  go_region_held3 (fun x => x.cell? ⟨T, 0, none⟩ = some (.map (some M)))
    (first
      | go_keep
      | exact hTc2.out
      | exact hTc3.out)
    ((go_at_call 26; ((with_reducible refine (hdel.out _).mono ?_)); rintro e w2 ⟨rfl, hown2, hgrow⟩
      have hTc2 := Lib.hid ((World.cell?_of_block (w := (w1.alloc (.cells #[.int .i64 t, .bool a, .bool hh] 39)).drew) (w' := w2) (a := ⟨T, 0, none⟩) (hgrow.block T (by simp; omega) (by simp; omega))).trans (show _ = some (Value.map (some M)) from by go_keep))
      have hM2 := Lib.hid ((hgrow.block M (by simp; omega) (by simp; omega)).trans (hk1.out _))
      obtain ⟨ob, hmu, him⟩ := (hmap.out.of_block hM2.out).update (P := Try.prog) Try.underlying56 Try.underlying3 key (.slice (some ⟨g, 0, none⟩) m cap)
      have hTc3 := Lib.hid ((World.cell?_of_block (w := w2) (w' := w2.putObj M ob) (a := ⟨T, 0, none⟩) (World.putObj_heap_other hTM)).trans hTc2.out)
      have hlk := Lib.hid (him.lookup (P := Try.prog) Try.underlying56 Try.underlying3 (zero36 _) key)
      have hdl := Lib.hid (him.delete (P := Try.prog) Try.underlying56 Try.underlying3 key 3)
      have him := Lib.hid him
      have hown2 := Lib.hid hown2))
  have hTc4 := hTc3.out
  have hlk1 := hlk.out
  simp only [upd, if_true, Option.getD_some] at hlk1
  have hfin : Kept (fun b => (Value.slice (some ⟨g, 0, none⟩) (m + 1) cap).ownBlock = some b) w w2 := by
    refine (Kept.of_below hb).trans ?_
    have hg := hgrow
    exact ⟨hg.os, hg.tape, hg.output, Nat.le_trans (by simp) hg.size, fun k hk hs => (hg.block k (by simp; omega) (fun e => hs e.symm)).trans (Below.heap_alloc w1 _ k hk)⟩
  have hg2 : g < w2.heap.size := by have := hgrow.size; simp at this; omega
  replace hfin := Lib.hid hfin
  clear hTc hl1 hmu
  by_cases hm0 : m = 0
  · have hz : ((m : Int) == 0) = true := by simpa using hm0
    obtain ⟨od, hd1, hd2⟩ := hdl.out 1
    go_wp2_with (refine wpList_builtin2 _ rfl .delete (.tmp 44) (.tmp 45) #[56, 3] rfl (.map (some M)) (.int .i64 key) (.tuple #[]) ((w2.putObj M ob).putObj M od) rfl rfl (fun cs => run_builtin_delete hd1) ?_)
    go_ret
    exact ⟨rfl, .inl ⟨hm0, _, ob, od, w2, rfl, hd2, hfin.out⟩⟩
  · have hz : ((m : Int) == 0) = false := by simpa using hm0
    go_wp2
    go_ret
    exact ⟨rfl, .inr ⟨hm0, g, cap, ob, w2, rfl, him.out, hown2.out, .inl rfl, hg2, hfin.out⟩⟩

theorem LeaveLast.tab {S : Nat → Prop} {w : World} {T M : Nat} {f : Int → Option Value} {R : Int → List Clm} (ht : Tab S w T M f R) {key : Int} {v0 : Value} (hv0 : f key = some v0) {w' : World}
    (h : LeaveLast w M f key v0 w') : ∃ f', Tab S w' T M f' (setRow R key []) ∧ Kept S w w' := by
  obtain ⟨v, o, o', w1, rfl, him, hk⟩ := h
  have hf' : upd (upd f key (some v)) key none = upd f key none := by
    funext k; unfold upd; split <;> rfl
  rw [hf'] at him
  have hMl := ht.lt _ ht.hM
  have hTl := ht.lt _ ht.hT
  obtain ⟨es, ck, hm, _⟩ := ht.map
  have hTM : T ≠ M := fun e => by have := ht.cT; rw [e, hm] at this; cases this
  have hoth : ∀ k u b, k ≠ key → f k = some u → u.ownBlock = some b → v0.ownBlock ≠ some b := fun k u b hk hu hb e =>
    ht.apart k key u v0 hu hv0 hk (by rw [hb, e])
  obtain ⟨hne, hrow⟩ := ht.rows key v0 hv0
  obtain ⟨g, cap, cur, rfl, hgb, _⟩ := own_block hrow (by simpa using hne)
  have hgT : g ≠ T := fun e => by subst e; rw [ht.cT] at hgb; cases hgb
  have hgS : S g := ht.foot key _ g hv0 rfl
  have hsz : w.heap.size ≤ w1.heap.size := hk.size
  refine ⟨upd f key none, ?_, ((hk.mono (fun k _ h => by simp [Value.ownBlock] at h; subst h; exact hgS)).putObj (fun _ => ht.hM) o).putObj (fun _ => ht.hM) o'⟩
  refine { hT := ht.hT, hM := ht.hM, map := him, foot := ?_, lt := ?_, cT := ?_, empty := ?_, rows := ?_, apart := ?_, ths := ?_ }
  · intro k u b hf hb
    unfold upd at hf
    by_cases h1 : k = key
    · rw [if_pos h1] at hf; cases hf
    · rw [if_neg h1] at hf; exact ht.foot k u b hf hb
  · intro b hb
    rw [World.putObj_size, World.putObj_size]
    have := ht.lt b hb; omega
  · exact (World.putObj_heap_other hTM).trans ((World.putObj_heap_other hTM).trans ((hk.block T hTl (by simp [Value.ownBlock]; exact hgT)).trans ht.cT))
  · intro k hf
    unfold upd at hf
    unfold setRow
    by_cases h1 : k = key
    · rw [if_pos h1]
    · rw [if_neg h1] at hf ⊢; exact ht.empty k hf
  · intro k u hf
    unfold upd at hf
    unfold setRow
    by_cases h1 : k = key
    · rw [if_pos h1] at hf; cases hf
    · rw [if_neg h1] at hf ⊢
      obtain ⟨h2, h3, h4⟩ := ht.rows k u hf
      refine ⟨h2, h3, ?_⟩
      rcases h4 with h4 | ⟨g', cap', cur', rfl, h5, h6, h7⟩
      · exact .inl h4
      · have hg'M : g' ≠ M := fun e => by subst e; rw [hm] at h6; cases h6
        exact .inr ⟨g', cap', cur', rfl, h5, (World.putObj_heap_other hg'M).trans ((World.putObj_heap_other hg'M).trans ((hk.block g' (ht.lt _ (ht.foot k _ g' hf rfl)) (hoth k _ g' h1 hf rfl)).trans h6)), h7⟩
  · intro k k' u u' hf hf' hne'
    unfold upd at hf hf'
    by_cases h1 : k = key
    · rw [if_pos h1] at hf; cases hf
    · by_cases h2 : k' = key
      · rw [if_pos h2] at hf'; cases hf'
      · rw [if_neg h1] at hf; rw [if_neg h2] at hf'
        exact ht.apart k k' u u' hf hf' hne'
  · intro k
    unfold setRow
    by_cases h1 : k = key
    · rw [if_pos h1]; simp
    · rw [if_neg h1]; exact ht.ths k

theorem Tab.leave_ok {S : Nat → Prop} {w : World} {T M : Nat} {f : Int → Option Value} {R : Int → List Clm} (ht : Tab S w T M f R) (th key : Int) {i : Nat} (h : findAt (R key) th = some i) :
    Calls Try.prog 14 #[.pointer (some ⟨T, 0, none⟩), .int .i64 th, .int .i64 key] w fun e w' => e = .returned (.int .i64 0) ∧
      ∃ f' S', Tab S' w' T M f' (setRow R key ((R key).eraseIdx i)) ∧ (∀ b, S' b → S b ∨ w.heap.size ≤ b) ∧ Kept S w w' := by
  have hi : i < (R key).length := by
    unfold findAt at h
    exact (List.findIdx?_eq_some_iff_getElem.1 h).1
  cases hfk : f key with
  | none => rw [ht.empty key hfk] at hi; simp at hi
  | some v0 =>
    obtain ⟨m, hm⟩ : ∃ m, (R key).length = m + 1 := ⟨(R key).length - 1, by omega⟩
    have hel : ((R key).eraseIdx i).length = m := by rw [List.length_eraseIdx_of_lt hi]; omega
    refine (leave_core ht th key h hi v0 hfk m hm).mono ?_
    rintro e w' ⟨he, ⟨hm0, hd⟩ | ⟨hm0, hd⟩⟩
    · refine ⟨he, ?_⟩
      obtain ⟨f', h1, h2⟩ := hd.tab ht hfk
      rw [List.length_eq_zero_iff.1 (hel.trans hm0)]
      exact ⟨f', S, h1, fun b hb => .inl hb, h2⟩
    · refine ⟨he, AskDone.tab ht (by rw [hfk]) (l := (R key).eraseIdx i) (fun e => by rw [e] at hel; simp at hel; omega) ⟨?_, fun c hc => (ht.ths key).2 c ((List.eraseIdx_sublist _ _).subset hc)⟩ (by rw [hel]; exact hd)⟩
      exact (ht.ths key).1.sublist ((List.eraseIdx_sublist _ _).map _)
end Go.Proofs.Ythnffhhbdihalaa
