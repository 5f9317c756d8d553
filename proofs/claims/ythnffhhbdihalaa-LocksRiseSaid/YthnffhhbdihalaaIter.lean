/- The iterator over a key's row of claims has its contract. -/
import Derived.Test.YthnffhhbdihalaaTab
import Derived.RangeFuncNested
import Derived.RangeFuncBound
import Derived.RangeFuncCalls
import Derived.RangeFuncLeaves
import Derived.Shelf.Abstract
import Derived.Shelf.RegionOpen
import Derived.OwnWalkIn
import Derived.TacticsInMore
import Derived.LoopNIn
import Derived.LoopIn
import Derived.Outline
import Derived.BigQuiet
import Derived.Sort.QuietIn
import Derived.Lib.Hide
namespace Go.Proofs.Ythnffhhbdihalaa
open Go.RowKit Go.Shelf
attribute [local go_sem] Oper.semAt_some

theorem zero36 (w : World) : (zeroValue 36).run Try.prog w = .ok (.slice none 0 0) w := by kernel_rfl

theorem row_in (F : Fence) (n : Nat) (h27 : F.fn 27) (hro : F.round = none) (p : Option Addr) (key : Int) (w : World) :
    CallsIn F n Try.prog 27 #[.pointer p, .int .i64 key] w fun e w' => e = .returned (.func (.func 28) #[] #[.pointer (some ⟨w.heap.size, 0, none⟩), .pointer (some ⟨w.heap.size + 1, 0, none⟩)]) ∧
      w' = (w.alloc (.cells #[.pointer p] 24)).alloc (.cells #[.int .i64 key] 3) := by
  refine callsIn_of_wp Try.func27 rfl h27 ?_ hro
  simp only [Try.ntmps27, List.size_toArray, List.length_cons, List.length_nil, Nat.reduceAdd, Nat.reduceSub, Array.replicate_succ, Array.replicate_zero, List.push_toArray, List.append_toArray, List.nil_append, List.cons_append]
  gi_wp2
  go_ret
  exact ⟨rfl, rfl⟩

set_option maxRecDepth 100000 in
set_option maxHeartbeats 1000000 in
theorem iter_nil (F : Fence) (n : Nat) (h28 : F.fn 28) (hro : F.round = none) (l B : Nat) (W : World) (hB : W.cell? ⟨B, 0, none⟩ = some (.pointer none)) (B' : Nat) :
    CallsIn F n Try.prog 28 #[.func (.yield l) #[] #[], .pointer (some ⟨B, 0, none⟩), .pointer (some ⟨B', 0, none⟩)] W fun e W' => (∃ v, e = .returned v) ∧ W' = W := by
  refine callsIn_of_wp Try.func28 rfl h28 ?_ hro
  simp only [Try.ntmps28, List.size_toArray, List.length_cons, List.length_nil, Nat.reduceAdd, Nat.reduceSub, Array.replicate_succ, Array.replicate_zero, List.push_toArray, List.append_toArray, List.nil_append, List.cons_append]
  gi_wp2
  refine bodyPost_ret (results_none rfl _ _ _) rfl ?_
  exact ⟨⟨_, rfl⟩, rfl⟩

set_option maxRecDepth 100000 in
set_option maxHeartbeats 2000000 in
theorem iter_some (F : Fence) (n : Nat) (h28 : F.fn 28) (hro : F.round = none) (hn : 1 ≤ n) (l B B' n₀ : Nat) (T : Nat) (key : Int) (cl : List Clm) (J Jx : List Item → World → Prop)
    (W : World) (hJ : AbidesFrom W.heap.size J)
    (hY : ∀ pre x W1, J pre W1 → pre.length < cl.length → YieldAt F (n - 1) Try.prog l (encItem x) W1 fun e W' =>
      (e = .returned (.bool true) ∧ J (pre ++ [x]) W' ∧ Below n₀ W1 W') ∨ (e = .returned (.bool false) ∧ Jx (pre ++ [x]) W'))
    (hB : W.cell? ⟨B, 0, none⟩ = some (.pointer (some ⟨T, 0, none⟩))) (hB' : W.cell? ⟨B', 0, none⟩ = some (.int .i64 key)) (hR : Reads n₀ W T key cl) (hn₀ : n₀ ≤ W.heap.size) (h0 : J [] W) :
    CallsIn F n Try.prog 28 #[.func (.yield l) #[] #[], .pointer (some ⟨B, 0, none⟩), .pointer (some ⟨B', 0, none⟩)] W fun e W' => (∃ v, e = .returned v) ∧
      (J (itemsTo cl cl.length) W' ∨ (∃ k, k ≤ cl.length ∧ Jx (itemsTo cl k) W')) := by
  obtain ⟨Ffn, Fd, Fa, Fr⟩ := F
  obtain rfl : Fr = none := hro
  obtain ⟨hT, M, f, hM, hTb, hI, hrow⟩ := hR
  have hTc : W.cell? ⟨T, 0, none⟩ = some (.map (some M)) := by simp [World.cell?, hTb]
  obtain ⟨a, cap, hsl, hcells, hlen⟩ : ∃ a cap, (f key).getD (.slice none 0 0) = .slice a cl.length cap ∧ (∀ i, i < cl.length → ∃ b, b < n₀ ∧ a = some ⟨b, 0, none⟩ ∧ RowAt W b cl) ∧ cl.length < 4611686018427387904 := by
    rcases hrow with ⟨h1, rfl⟩ | ⟨b, cap, hb, h1, h2, h3⟩
    · exact ⟨none, 0, by rw [h1]; rfl, fun i hi => by simp at hi, by simp⟩
    · exact ⟨_, cap, by rw [h1]; rfl, fun i hi => ⟨b, hb, rfl, h2⟩, h3⟩
  have hlook : ∀ m, (Instr.lookup 56 (.map (some M)) (.int .i64 key) false).run Try.prog (W.drewN m) = .ok (.slice a cl.length cap) (W.drewN m) := fun m => by
    rw [← hsl]; exact (hI.of_block (w' := W.drewN m) rfl).lookup Try.underlying56 Try.underlying3 (zero36 _) key
  clear hsl hrow
  refine callsIn_of_wp Try.func28 rfl h28 ?_ rfl
  simp only [Try.ntmps28, List.size_toArray, List.length_cons, List.length_nil, Nat.reduceAdd, Nat.reduceSub, Array.replicate_succ, Array.replicate_zero, List.push_toArray, List.append_toArray, List.nil_append, List.cons_append]
  gi_wp2
  gi_quiet (fail)
  clear hlook
  gi_wp2
  have hWd : J [] (W.drewN nq) := hJ _ _ _ none h0 ⟨rfl, rfl, rfl, Nat.le_refl _, fun _ _ _ => rfl⟩ (fun r e => by cases e)
  gi_loopw [4, 16] (fun t i wr => ∃ k : Nat, k ≤ cl.length ∧ i = .int .i64 k ∧ t = .bool (tog cl k) ∧ J (itemsTo cl k) wr ∧ Below n₀ W wr)
    (fun _ i _ => cl.length - (intOf i).toNat)
  case atStart => exact ⟨0, Nat.zero_le _, rfl, by simp [tog], hWd, ⟨rfl, rfl, rfl, Nat.le_refl _, fun _ _ => rfl⟩⟩
  case round =>
    obtain ⟨k, hk, rfl, rfl, hJs, hnx⟩ := hrel
    by_cases hlt : k < cl.length
    · obtain ⟨b, hb, rfl, hra⟩ := hcells k hlt
      have hc := hra k hlt
      obtain ⟨th, al, tg, hth, hal, htg⟩ : ∃ th al tg, (clmAt cl k).th = th ∧ (clmAt cl k).al = al ∧ tog cl k = tg := ⟨_, _, _, rfl, rfl, rfl⟩
      have hit := Lib.hid (itemAt_eq hlt hth hal htg)
      have hts := Lib.hid (tog_succ cl k hlt)
      rw [hth, hal] at hc
      obtain ⟨c1, c2, c3⟩ : wr.cell? ⟨b, k * 3, none⟩ = some (.int .i64 th) ∧ wr.cell? ⟨b, k * 3 + 1, none⟩ = some (.bool al) ∧ wr.cell? ⟨b, k * 3 + 2, none⟩ = some (.bool false) :=
        ⟨(hnx.cell (p := ⟨b, _, none⟩) hb).trans hc.1, (hnx.cell (p := ⟨b, _, none⟩) hb).trans hc.2.1, (hnx.cell (p := ⟨b, _, none⟩) hb).trans hc.2.2⟩
      have hJa : ∀ o, J (itemsTo cl k) (wr.alloc o) := fun o => hJ _ _ _ none hJs (World.grownBy_alloc wr o none) (fun r e => by cases e)
      have hsz : W.heap.size ≤ wr.heap.size := hnx.size
      rw [htg]
      have HTG := Lib.hid htg
      have HAL := Lib.hid hal
      clear hc hra hcells hth hal htg
      by_cases hk0 : k = 0
      · have hk1 : ((k : Int) == 0) = true := by simpa using hk0
        have hb0 : (k == 0) = true := by simpa using hk0
        clear hk0
        cases tg
        · obtain ⟨fn, tmps, assign, body, hy, hR⟩ := hY _ (itemAt cl k) (wr.alloc (.cells #[.int .i64 th, .bool al, .bool (true)] 39)) (hJa _) (by rw [itemsTo_length]; exact hlt)
          rw [hit.out] at hy
          simp only [encItem, hb0, Bool.true_or, Bool.false_or, Bool.false_and, Bool.true_and] at hy
          clear hY hJa
          gi_wp2
          refine hR.mono ?_
          rintro e W3 (⟨rfl, hJ3, hk3⟩ | ⟨rfl, hJx3⟩)
          · gi_wp2
            go_roundw
            case rel => exact ⟨k + 1, by omega, by simp, by rw [hts.out, HTG.out, HAL.out]; rfl, by rw [itemsTo_succ]; exact hJ3, (hnx.alloc (by omega) _).trans hk3⟩
            case measure => simp [intOf]; omega
          · gi_wp2
            refine bodyPost_ret (results_none rfl _ _ _) rfl ?_
            exact ⟨⟨_, rfl⟩, .inr ⟨k + 1, by omega, by rw [itemsTo_succ]; exact hJx3⟩⟩
        · obtain ⟨fn, tmps, assign, body, hy, hR⟩ := hY _ (itemAt cl k) (wr.alloc (.cells #[.int .i64 th, .bool al, .bool (true)] 39)) (hJa _) (by rw [itemsTo_length]; exact hlt)
          rw [hit.out] at hy
          simp only [encItem, hb0, Bool.true_or, Bool.false_or, Bool.false_and, Bool.true_and] at hy
          clear hY hJa
          gi_wp2
          refine hR.mono ?_
          rintro e W3 (⟨rfl, hJ3, hk3⟩ | ⟨rfl, hJx3⟩)
          · gi_wp2
            go_roundw
            case rel => exact ⟨k + 1, by omega, by simp, by rw [hts.out, HTG.out, HAL.out]; rfl, by rw [itemsTo_succ]; exact hJ3, (hnx.alloc (by omega) _).trans hk3⟩
            case measure => simp [intOf]; omega
          · gi_wp2
            refine bodyPost_ret (results_none rfl _ _ _) rfl ?_
            exact ⟨⟨_, rfl⟩, .inr ⟨k + 1, by omega, by rw [itemsTo_succ]; exact hJx3⟩⟩
      · have hk1 : ((k : Int) == 0) = false := by simpa using hk0
        have hb0 : (k == 0) = false := by simpa using hk0
        clear hk0
        cases tg
        · obtain ⟨fn, tmps, assign, body, hy, hR⟩ := hY _ (itemAt cl k) (wr.alloc (.cells #[.int .i64 th, .bool al, .bool (false)] 39)) (hJa _) (by rw [itemsTo_length]; exact hlt)
          rw [hit.out] at hy
          simp only [encItem, hb0, Bool.true_or, Bool.false_or, Bool.false_and, Bool.true_and] at hy
          clear hY hJa
          gi_wp2
          refine hR.mono ?_
          rintro e W3 (⟨rfl, hJ3, hk3⟩ | ⟨rfl, hJx3⟩)
          · gi_wp2
            go_roundw
            case rel => exact ⟨k + 1, by omega, by simp, by rw [hts.out, HTG.out, HAL.out]; rfl, by rw [itemsTo_succ]; exact hJ3, (hnx.alloc (by omega) _).trans hk3⟩
            case measure => simp [intOf]; omega
          · gi_wp2
            refine bodyPost_ret (results_none rfl _ _ _) rfl ?_
            exact ⟨⟨_, rfl⟩, .inr ⟨k + 1, by omega, by rw [itemsTo_succ]; exact hJx3⟩⟩
        · obtain ⟨fn, tmps, assign, body, hy, hR⟩ := hY _ (itemAt cl k) (wr.alloc (.cells #[.int .i64 th, .bool al, .bool (!al)] 39)) (hJa _) (by rw [itemsTo_length]; exact hlt)
          rw [hit.out] at hy
          simp only [encItem, hb0, Bool.true_or, Bool.false_or, Bool.false_and, Bool.true_and] at hy
          clear hY hJa
          gi_wp2
          refine hR.mono ?_
          rintro e W3 (⟨rfl, hJ3, hk3⟩ | ⟨rfl, hJx3⟩)
          · gi_wp2
            go_roundw
            case rel => exact ⟨k + 1, by omega, by simp, by rw [hts.out, HTG.out, HAL.out]; rfl, by rw [itemsTo_succ]; exact hJ3, (hnx.alloc (by omega) _).trans hk3⟩
            case measure => simp [intOf]; omega
          · gi_wp2
            refine bodyPost_ret (results_none rfl _ _ _) rfl ?_
            exact ⟨⟨_, rfl⟩, .inr ⟨k + 1, by omega, by rw [itemsTo_succ]; exact hJx3⟩⟩
    · obtain rfl : k = cl.length := by omega
      gi_wp2
      go_end0
      exact ⟨⟨_, rfl⟩, .inl hJs⟩
end Go.Proofs.Ythnffhhbdihalaa
