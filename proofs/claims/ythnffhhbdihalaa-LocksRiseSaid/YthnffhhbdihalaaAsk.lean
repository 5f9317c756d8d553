/- (*Table).Ask: what it refuses, and what it puts in. -/
import Derived.Test.YthnffhhbdihalaaPut
import Derived.Deep.RegionHeld3
import Derived.Deep.AppendLies
import Derived.WalkSpells
import Derived.StillTactics
import Derived.OwnWalk
import Derived.Laws.Pointers
namespace Go.Proofs.Ythnffhhbdihalaa
open Go.RowKit Go.Shelf

theorem ask_nil (th key : Int) (al : Bool) (w : World) :
    Calls Try.prog 12 #[.pointer none, .int .i64 th, .int .i64 key, .bool al] w fun e w' => e = .returned (.int .i64 22) ∧ w' = w := by
  go_enter Try.func12, Try.ntmps12
  go_wp2_with fail
  go_ret
  exact ⟨rfl, rfl⟩

theorem ask_bad (T : Nat) (th key : Int) (al : Bool) (w : World) (h : ¬ (1 ≤ th ∧ th ≤ 64 ∧ 0 ≤ key)) :
    Calls Try.prog 12 #[.pointer (some ⟨T, 0, none⟩), .int .i64 th, .int .i64 key, .bool al] w fun e w' => e = .returned (.int .i64 22) ∧ w' = w := by
  by_cases h1 : th < 1
  · go_enter Try.func12, Try.ntmps12
    go_wp2_with fail
    go_ret
    exact ⟨rfl, rfl⟩
  · by_cases h2 : 64 < th
    · go_enter Try.func12, Try.ntmps12
      go_wp2_with fail
      go_ret
      exact ⟨rfl, rfl⟩
    · have h3 : key < 0 := by omega
      clear h
      go_enter Try.func12, Try.ntmps12
      go_wp2_with fail
      go_ret
      exact ⟨rfl, rfl⟩

theorem findV_has {l : List Clm} {th : Int} {i : Nat} (h : findAt l th = some i) : findV l th = ((i : Int), clmAt l i, holdsAt l i) := by simp [findV, h]
theorem findV_hasnt {l : List Clm} {th : Int} (h : findAt l th = none) : findV l th = (-1, ⟨0, false⟩, false) := by simp [findV, h]

theorem ask_has {S : Nat → Prop} {w : World} {T M : Nat} {f : Int → Option Value} {R : Int → List Clm} (ht : Tab S w T M f R) (th key : Int) (al : Bool) {i : Nat} (h : findAt (R key) th = some i)
    (h1 : 1 ≤ th) (h2 : th ≤ 64) (h3 : 0 ≤ key) :
    Calls Try.prog 12 #[.pointer (some ⟨T, 0, none⟩), .int .i64 th, .int .i64 key, .bool al] w fun e w' => e = .returned (.int .i64 22) ∧ Below w.heap.size w w' := by
  obtain ⟨t, a, hh, hv⟩ : ∃ t a hh, findV (R key) th = ((i : Int), ⟨t, a⟩, hh) := ⟨_, _, _, findV_has h⟩
  have hf := Lib.hid (find_eq (ht.reads key) hv)
  clear hv
  have hi : (0 : Int) ≤ (i : Int) := Int.natCast_nonneg _
  clear h ht
  go_enter Try.func12, Try.ntmps12
  go_wp2_with (go_at_call 24; refine hf.out.mono ?_; rintro e w' ⟨rfl, hb⟩)
  go_ret
  exact ⟨rfl, hb.alloc hb.size _⟩

set_option maxRecDepth 100000 in
set_option maxHeartbeats 2000000 in
theorem ask_core {S : Nat → Prop} {w : World} {T M : Nat} {f : Int → Option Value} {R : Int → List Clm} (ht : Tab S w T M f R) (th key : Int) (al : Bool) (h : findAt (R key) th = none)
    (h1 : 1 ≤ th) (h2 : th ≤ 64) (h3 : 0 ≤ key) (v0 : Value) (hv0 : (f key).getD (.slice none 0 0) = v0) :
    Calls Try.prog 12 #[.pointer (some ⟨T, 0, none⟩), .int .i64 th, .int .i64 key, .bool al] w fun e w' => e = .returned (.int .i64 0) ∧
      AskDone w M f key v0 ((R key).length + 1) (clmCells (R key) ++ [.int .i64 th, .bool al, .bool false]) w' := by
  have hf := Lib.hid (find_eq (ht.reads key) (findV_hasnt h))
  have hTlt := ht.lt _ ht.hT
  have hMlt := ht.lt _ ht.hM
  have hown : w.ownsRow 0 39 3 v0 (R key).length (clmCells (R key)) := by
    cases hfk : f key with
    | none => rw [hfk] at hv0; rw [← hv0, ht.empty key hfk]; exact World.ownsRow_nil _ _ _ _
    | some v => rw [hfk] at hv0; rw [← hv0]; exact (ht.rows key v hfk).2
  have hS0 : ∀ b, v0.ownBlock = some b → S b := by
    cases hfk : f key with
    | none => rw [hfk] at hv0; rw [← hv0]; intro b hb; cases hb
    | some v => rw [hfk] at hv0; rw [← hv0]; exact fun b => ht.foot key v b hfk
  have hne : v0.ownBlock ≠ some T ∧ v0.ownBlock ≠ some M := by
    obtain ⟨es, ck, hm, _⟩ := ht.map
    rcases hown.2 with ⟨rfl, _⟩ | ⟨g, cap, cur, rfl, _, hg, _⟩
    · exact ⟨by simp [Value.ownBlock], by simp [Value.ownBlock]⟩
    · refine ⟨fun e => ?_, fun e => ?_⟩
      · simp [Value.ownBlock] at e; subst e; rw [ht.cT] at hg; cases hg
      · simp [Value.ownBlock] at e; subst e; rw [hm] at hg; cases hg
  obtain ⟨hneT, hneM⟩ := hne
  have hlen : (R key).length ≤ 64 := ht.small key
  have hnm : ∀ w : World, (binOp .eql 56 (.map (some M)) (.map none)).run Try.prog w = .ok (.bool false) w := fun w => by
    have := run_eql_map_nil (P := Try.prog) w 56 3 36 (some M) Try.underlying56
    simpa using this
  have hmap := ht.map
  have hL : ∀ x : World, x.heap[M]? = w.heap[M]? → (Instr.lookup 56 (.map (some M)) (.int .i64 key) false).run Try.prog x = .ok v0 x := fun x hx => by
    rw [← hv0]; exact (hmap.of_block hx).lookup Try.underlying56 Try.underlying3 (zero36 _) key
  have hTb := ht.cT
  obtain ⟨i0, hi0, hz0, hz1, hz2⟩ := info_parts info39
  clear ht hv0 h hS0
  have hTM : T ≠ M := fun e => by obtain ⟨es, ck, hm, _⟩ := hmap; rw [← e, hTb] at hm; cases hm
  replace hmap := Lib.hid hmap
  replace hTb := Lib.hid hTb
  go_enter Try.func12, Try.ntmps12
  go_wp2_with (go_at_call 24; refine hf.out.mono ?_; rintro e w1 ⟨rfl, hb⟩; have hTc : w1.cell? ⟨T, 0, none⟩ = some (.map (some M)) := (hb.cell (p := ⟨T, 0, none⟩) hTlt).trans (by simp [World.cell?, hTb.out]); have hT1 : T < w1.heap.size := Nat.lt_of_lt_of_le hTlt hb.size)
  have hfr : w1.heap[M]? = w.heap[M]? := hb.block M hMlt
  have hM1 : M < w1.heap.size := Nat.lt_of_lt_of_le hMlt hb.size
  have hown1 : w1.ownsRow 0 39 3 v0 (R key).length (clmCells (R key)) := by
    refine hown.kept (row := none) ⟨hb.os, hb.tape, hb.output, hb.size, fun k hk _ => hb.block k hk⟩ ?_
    rcases hown.2 with ⟨rfl, _⟩ | ⟨g, cap, cur, rfl, _⟩
    · exact .inl rfl
    · exact .inr (by simp [Value.ownBlock])
  clear hf hnm
  have hk1 := Lib.hid (show ∀ o, (w1.alloc o).drew.heap[M]? = w.heap[M]? from fun o => (Below.heap_alloc w1 o M hM1).trans hfr)
  have hk2 := Lib.hid (show ∀ o o', ((w1.alloc o).alloc o').drew.heap[M]? = w.heap[M]? from fun o o' => ((Below.heap_alloc _ o' M (by rw [World.size_alloc]; omega)).trans (Below.heap_alloc w1 o M hM1)).trans hfr)
  have hnew := Lib.hid (show ∀ o o', ((w1.alloc o).alloc o').drew.heap[w1.heap.size + 1]? = some o' from fun o o' => by have := World.alloc_heap_new (w1.alloc o) o'; rw [World.size_alloc] at this; exact this)
  have hl1 : ∀ o, (Instr.lookup 56 (.map (some M)) (.int .i64 key) false).run Try.prog (w1.alloc o).drew = .ok v0 (w1.alloc o).drew := fun o => hL _ (hk1.out o)
  have hl2 : ∀ o o', (Instr.lookup 56 (.map (some M)) (.int .i64 key) false).run Try.prog ((w1.alloc o).alloc o').drew = .ok v0 ((w1.alloc o).alloc o').drew := fun o o' => hL _ (hk2.out o o')
  clear hL hfr
  go_region_held3 (fun x => x.cell? ⟨T, 0, none⟩ = some (.map (some M)))
    (first
      | go_keep
      | exact hTc2.out
      | exact hTc3.out)
    ((refine step_append_lies _ (by rfl) _ _ _ (by rfl) 0 39 i0 _ 3 16 Try.underlying36 hi0 hz0 hz1 hz2 rfl (by omega) v0 _ _ (by rfl) (((hown1.alloc _).alloc _).drew)
        ⟨w1.heap.size + 1, 0, none⟩ 1 1 [.int .i64 th, .bool al, .bool false] (by rfl) (by rfl) (World.news_of_block (cs := #[.int .i64 th, .bool al, .bool false]) (t := 39) (fr := (0, 0)) (hnew.out _ _)) (by simp [Value.oneCell'])
        (by omega) (by unfold maxLen; omega) (by omega) (Nat.zero_le _) (w1.heap.size + 1 + 1) (by simp) ?_; intro gg cap w2 hown2 hgrow hat hlt
      have hTc2 := Lib.hid ((hgrow.cell_far ⟨T, 0, none⟩ (by simp; omega) (Ne.symm hneT)).trans (show _ = some (Value.map (some M)) from by go_keep))
      have hM2 := Lib.hid ((hgrow.block M (by simp; omega) (Ne.symm hneM)).trans (hk2.out _ _))
      obtain ⟨ob, hmu, him⟩ := (hmap.out.of_block hM2.out).update (P := Try.prog) Try.underlying56 Try.underlying3 key (.slice (some ⟨gg, 0, none⟩) ((R key).length + 1) cap)
      have hTc3 := Lib.hid ((World.cell?_of_block (w := w2) (w' := w2.putObj M ob) (a := ⟨T, 0, none⟩) (World.putObj_heap_other hTM)).trans hTc2.out)
      have him := Lib.hid him
      have hown2 := Lib.hid hown2))
  all_goals
    go_wp2
    go_ret
    refine ⟨rfl, gg, cap, ob, w2, rfl, him.out, hown2.out, ?_, hlt, ?_⟩
    · rcases hat with hat | hat
      · exact .inl hat
      · exact .inr (by have := hb.size; omega)
    · refine (Kept.of_below hb).trans ?_
      have hg := hgrow
      exact ⟨hg.os, hg.tape, hg.output, Nat.le_trans (by simp; omega) hg.size, fun k hk hs => (hg.block k (by simp; omega) (fun e => hs e.symm)).trans ((Below.heap_alloc _ _ k (by rw [World.size_alloc]; omega)).trans (Below.heap_alloc w1 _ k hk))⟩

theorem Tab.ask_ok {S : Nat → Prop} {w : World} {T M : Nat} {f : Int → Option Value} {R : Int → List Clm} (ht : Tab S w T M f R) (th key : Int) (al : Bool) (h : findAt (R key) th = none)
    (h1 : 1 ≤ th) (h2 : th ≤ 64) (h3 : 0 ≤ key) :
    Calls Try.prog 12 #[.pointer (some ⟨T, 0, none⟩), .int .i64 th, .int .i64 key, .bool al] w fun e w' => e = .returned (.int .i64 0) ∧
      ∃ f' S', Tab S' w' T M f' (setRow R key (R key ++ [⟨th, al⟩])) ∧ (∀ b, S' b → S b ∨ w.heap.size ≤ b) ∧ Kept S w w' := by
  refine (ask_core ht th key al h h1 h2 h3 _ rfl).mono ?_
  rintro e w' ⟨he, hd⟩
  have hne := findAt_none h
  refine ⟨he, AskDone.tab ht rfl (l := R key ++ [⟨th, al⟩]) (by simp) ⟨?_, ?_⟩ (by rw [clmCells_append, List.length_append]; exact hd)⟩
  · rw [List.map_append, List.nodup_append]
    refine ⟨(ht.ths key).1, by simp, fun a ha b hb => ?_⟩
    obtain ⟨c, hc, rfl⟩ := List.mem_map.1 ha
    simp at hb; subst hb
    exact hne c hc
  · intro c hc
    rcases List.mem_append.1 hc with hc | hc
    · exact (ht.ths key).2 c hc
    · simp at hc; subst hc; exact ⟨h1, h2⟩
end Go.Proofs.Ythnffhhbdihalaa
