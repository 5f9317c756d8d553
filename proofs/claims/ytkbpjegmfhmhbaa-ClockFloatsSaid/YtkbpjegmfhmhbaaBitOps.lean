/- The reference's rows: at, row, twice, number. -/
import Derived.Test.YtkbpjegmfhmhbaaBitRow
namespace Go.Proofs.Ytkbpjegmfhmhbaa
open Go.RowKit Go.Shelf
attribute [local go_sem] Oper.semAt_some

theorem atB_lt (bs : List Bool) (i : Nat) (h : i < bs.length) : atB bs i = bs[i] := by
  unfold atB
  rw [if_pos (by omega), Int.toNat_natCast]
  simp [List.getD, h]
theorem atB_ge (bs : List Bool) (i : Int) (h : (bs.length : Int) ≤ i) : atB bs i = false := by
  unfold atB
  split
  · simp [List.getD]
    rw [List.getElem?_eq_none (by omega)]; rfl
  · rfl
theorem atB_neg (bs : List Bool) (i : Int) (h : i < 0) : atB bs i = false := by
  unfold atB
  rw [if_neg (by omega)]

theorem at_any {w : World} {v : Value} {bs : List Bool} (h : Bts w v bs) (i : Int) :
    Calls Try.prog 53 #[v, .int .i64 i] w fun e w' => e = .returned (.bool (atB bs i)) ∧ ∃ m, w' = w.drewN m := by
  obtain ⟨ad, cap, rfl, h1, h2, hc⟩ := h
  by_cases c1 : i < 0
  · rw [atB_neg bs i c1]
    clear hc
    go_enter Try.func53, Try.ntmps53
    go_wp2_with fail
    go_ret
    exact ⟨rfl, 0, rfl⟩
  · by_cases c2 : (bs.length : Int) ≤ i
    · rw [atB_ge bs i c2]
      clear hc
      go_enter Try.func53, Try.ntmps53
      go_wp2_with fail
      go_ret
      exact ⟨rfl, 0, rfl⟩
    · obtain ⟨k, rfl⟩ : ∃ k : Nat, i = k := ⟨i.toNat, by omega⟩
      have hk : k < bs.length := by omega
      rw [atB_lt bs k hk]
      obtain ⟨g, o, rfl, c0⟩ := hc k hk
      obtain ⟨b, hb⟩ : ∃ b, bs[k] = b := ⟨_, rfl⟩
      rw [hb] at c0 ⊢
      clear hc hb
      go_enter Try.func53, Try.ntmps53
      go_wp2_with fail
      go_ret
      exact ⟨rfl, 0, rfl⟩

set_option maxHeartbeats 4000000 in
theorem row_any (x : Nat) (hx : x < 18446744073709551616) (w : World) :
    Calls Try.prog 38 #[.int .u64 x] w fun e w' => ∃ v bs, e = .returned v ∧ Row w.heap.size w' v bs ∧ bn bs = x ∧ bs.length ≤ 64 ∧ Below w.heap.size w w' := by
  obtain ⟨i0, hi, hz0, hz1, hz2⟩ := info_parts info4
  go_enter Try.func38, Try.ntmps38
  go_wp2_with fail
  go_loopw [0, 3] (fun i v wr => ∃ (y : Nat) (bs : List Bool), i = .int .u64 y ∧ Row w.heap.size wr v bs ∧ bn bs + 2 ^ bs.length * y = x ∧ y < 2 ^ (64 - bs.length) ∧ bs.length ≤ 64 ∧ Below w.heap.size w wr) (fun i _ _ => (intOf i).toNat)
  case atStart => exact ⟨x, [], rfl, Row.nil _ _, by simp [bn], hx, by simp, Below.refl _ _⟩
  case round =>
    obtain ⟨y, bs, rfl, hr, hv, hy, hl, hb⟩ := hrel
    obtain ⟨wo, rfl⟩ : ∃ wo : World, wo = wr := ⟨_, rfl⟩
    obtain ⟨oa, oc, rfl⟩ := hr.form
    by_cases h0 : y = 0
    · subst h0
      replace hr := Lib.hid hr
      replace hb := Lib.hid hb
      replace hv := Lib.hid hv
      clear hy
      go_wp2_with fail
      go_ret
      exact ⟨_, bs, rfl, hr.out, by have := hv.out; simpa using this, hl, hb.out⟩
    · have hlt : bs.length < 64 := by
        rcases Nat.lt_or_ge bs.length 64 with h | h
        · exact h
        · rw [show 64 - bs.length = 0 by omega] at hy; omega
      have b1 : (0 : Int) < (y : Int) := by omega
      have hy64 : y < 18446744073709551616 := by
        have := two_pow_le (show 64 - bs.length ≤ 64 by omega)
        have e : (2 : Nat) ^ 64 = 18446744073709551616 := rfl
        omega
      obtain ⟨d, hd⟩ : ∃ d : Bool, ((y : Int) % 2 == 1) = d := ⟨_, rfl⟩
      have hd2 : y % 2 = d.toNat := by
        rw [← hd]
        by_cases c : y % 2 = 1
        · rw [show ((y : Int) % 2 == 1) = true by simp; omega, c]; rfl
        · rw [show ((y : Int) % 2 == 1) = false by simp; omega]; show y % 2 = 0; omega
      have hown : wo.ownsRow w.heap.size 4 1 (.slice oa bs.length oc) bs.length (bcells bs) := hr
      have hwb : w.heap.size ≤ wo.heap.size := hb.size
      replace hr := Lib.hid hr
      replace hown := Lib.hid hown
      replace hb := Lib.hid hb
      replace hv := Lib.hid hv
      replace hy := Lib.hid hy
      replace hd2 := Lib.hid hd2
      replace h0 := Lib.hid h0
      go_wp2_with (refine wpList_append_own_at _ rfl _ _ 54 rfl w.heap.size 4 i0 _ 1 1 Try.underlying54 hi hz0 hz1 hz2 rfl (by decide) (.slice oa bs.length oc) _ _ rfl (hown.out.alloc _) ⟨wo.heap.size, 0, none⟩ 1 1 [.bool d] rfl rfl (World.news_of_block (cs := #[.bool d]) (t := 4) (fr := (0, 0)) (World.alloc_heap_new _ _)) (by simp [Value.oneCell']) (by unfold maxLen; omega) (by omega) (by simp; omega) ?_; intro v2 w3 hown' hgrow _ hat')
      have hR : Row w.heap.size w3 v2 (bs ++ [d]) := by
        show w3.ownsRow _ 4 1 v2 (bs ++ [d]).length (bcells (bs ++ [d]))
        rw [List.length_append, List.length_singleton, bcells, List.map_append]
        exact hown'
      have hB : Below w.heap.size w w3 := hb.out.trans (grown_alloc hr.out hwb hgrow)
      replace hR := Lib.hid hR
      replace hB := Lib.hid hB
      replace hown' := Lib.hid hown'
      replace hgrow := Lib.hid hgrow
      replace hat' := Lib.hid hat'
      go_wp2_with fail
      go_roundw
      case rel =>
        refine ⟨y / 2, bs ++ [d], by first | rfl | (congr 1; omega) | simp, hR.out, ?_, ?_, by simp; omega, hB.out⟩
        · rw [bn_append, bn_one, List.length_append, List.length_singleton, Nat.pow_succ, ← hd2.out, Nat.mul_assoc, Nat.add_assoc, ← Nat.mul_add]
          rw [show y % 2 + 2 * (y / 2) = y by omega]
          exact hv.out
        · have h5 := hy.out
          rw [List.length_append, List.length_singleton]
          rw [show 64 - bs.length = (64 - (bs.length + 1)) + 1 by omega, Nat.pow_succ] at h5
          omega
      case measure => have := h0.out; simp [intOf]; omega
theorem row_made (n : Nat) (hn : n ≤ maxLen) (w : World) : Row w.heap.size (w.alloc (.cells (madeCells #[.bool false] n) 4)) (.slice (some ⟨w.heap.size, 0, none⟩) n n) (List.replicate n false) := by
  refine ⟨by simp [bcells], .inr ⟨w.heap.size, n, madeCells #[.bool false] n, by simp, Nat.le_refl _, World.alloc_heap_new _ _, by simp, hn, by simp [madeCells], ?_⟩⟩
  apply List.ext_getElem
  · simp [madeCells, bcells]
  · intro i h1 h2
    simp [madeCells, bcells, Nat.mod_one]

theorem twice_nil (n : Nat) (hn : n ≤ 100000) (w : World) : Calls Try.prog 42 #[.slice none 0 0, .int .i64 n] w fun e w' => ∃ v, e = .returned v ∧ Row w.heap.size w' v (List.replicate n false ++ []) ∧ Below w.heap.size w w' := by
  have hmk := fun W => run_make_row' 54 4 (.bool false) 1 Try.underlying54 info4 rfl .i64 .i64 n (by omega) (by omega) W
  have hr := row_made n (by unfold maxLen; omega) w
  replace hr := Lib.hid hr
  go_enter Try.func42, Try.ntmps42
  go_wp2_with fail
  go_ret
  exact ⟨_, rfl, by rw [List.append_nil]; exact hr.out, (Below.refl _ _).alloc (Nat.le_refl _) _⟩

theorem twice_any {w : World} {v : Value} {bs : List Bool} (h : Bts w v bs) (hl : bs.length ≠ 0) (hl2 : bs.length ≤ 100000) (n : Nat) (hn : n ≤ 100000) :
    Calls Try.prog 42 #[v, .int .i64 n] w fun e w' => ∃ v, e = .returned v ∧ Row w.heap.size w' v (List.replicate n false ++ bs) ∧ Below w.heap.size w w' := by
  obtain ⟨i0, hi, hz0, hz1, hz2⟩ := info_parts info4
  have hmk := fun W => run_make_row' 54 4 (.bool false) 1 Try.underlying54 info4 rfl .i64 .i64 n (by omega) (by omega) W
  have hr := row_made n (by unfold maxLen; omega) w
  obtain ⟨ad, cap, rfl, h1, h2, hc⟩ := h
  obtain ⟨g, o, rfl, _⟩ := hc 0 (by omega)
  have hnews : Hid (∀ (W : World), Below w.heap.size w W → ∀ j u, (bcells bs)[j]? = some u → W.cell? ((⟨g, o, none⟩ : Addr).add j) = some u) := by
    intro W hW j u hu
    have hj : j < bs.length := by have := (List.getElem?_eq_some_iff.1 hu).1; simpa [bcells] using this
    rw [Addr.add_lit]
    obtain ⟨g', o', he, hg⟩ := hc j hj
    cases he
    have := hW.block g (cell_lt hg)
    simp [bcells, hj] at hu
    subst hu
    rw [← hg]
    unfold World.cell?
    simp [this]
  have hone : ∀ u ∈ bcells bs, u.oneCell' = true := by
    intro u hu
    obtain ⟨x, _, rfl⟩ := List.mem_map.1 hu
    rfl
  have hbl : (bcells bs).length = bs.length * 1 := by simp [bcells]
  have hbb : Below w.heap.size w (w.alloc (.cells (madeCells #[.bool false] n) 4)) := (Below.refl _ _).alloc (Nat.le_refl _) _
  have hown : (w.alloc (.cells (madeCells #[.bool false] n) 4)).ownsRow w.heap.size 4 1 (.slice (some ⟨w.heap.size, 0, none⟩) n n) n (bcells (List.replicate n false)) := by
    have := hr
    unfold Row at this
    rw [List.length_replicate] at this
    exact this
  replace hone := Lib.hid hone
  replace hbl := Lib.hid hbl
  replace hr := Lib.hid hr
  replace hbb := Lib.hid hbb
  replace hown := Lib.hid hown
  clear hc
  go_enter Try.func42, Try.ntmps42
  go_wp2_with (refine wpList_append_own_at _ rfl _ _ 54 rfl w.heap.size 4 i0 _ 1 1 Try.underlying54 hi hz0 hz1 hz2 rfl (by decide) (.slice (some ⟨w.heap.size, 0, none⟩) n n) _ _ rfl hown.out ⟨g, o, none⟩ bs.length cap (bcells bs) rfl hbl.out (hnews.out _ hbb.out) hone.out (by unfold maxLen; omega) (by omega) (by simp) ?_; intro v' w1 hown' hgrow _ hat')
  go_ret
  refine ⟨v', rfl, ?_, ?_⟩
  · show w1.ownsRow _ 4 1 v' (List.replicate n false ++ bs).length (bcells (List.replicate n false ++ bs))
    rw [List.length_append, List.length_replicate, bcells, List.map_append]
    exact hown'
  · exact hbb.out.trans (grown_below hr.out (by simp) hgrow)

set_option maxHeartbeats 4000000 in
theorem number_any {w : World} {v : Value} {cs : List Bool} (h : Bts w v cs) :
    Calls Try.prog 52 #[v] w fun e w' => e = .returned (.int .u64 (bn (cs.take 64))) ∧ ∃ m, w' = w.drewN m := by
  obtain ⟨ad, cap, rfl, h1, h2, hc0⟩ := h
  have hlen : (cs.take 64).length = min 64 cs.length := List.length_take
  have hc : ∀ i (h : i < (cs.take 64).length), ∃ g o, ad = some ⟨g, o, none⟩ ∧ w.cell? ⟨g, o + i, none⟩ = some (.bool (cs.take 64)[i]) := fun i hi => by
    rw [List.getElem_take]
    exact hc0 i (by omega)
  obtain ⟨bs, hbs⟩ : ∃ bs, cs.take 64 = bs := ⟨_, rfl⟩
  rw [hbs] at hlen hc ⊢
  have hl : bs.length ≤ 64 := by omega
  have hle : bs.length ≤ cs.length := by omega
  have hmin : min (cs.length : Int) 64 = (bs.length : Int) := by omega
  obtain ⟨L, hL⟩ : ∃ L, cs.length = L := ⟨_, rfl⟩
  rw [hL] at h1 hle hmin ⊢
  clear hc0 hbs hlen hL
  obtain ⟨t, ht⟩ : ∃ t, bn bs = t := ⟨_, rfl⟩
  rw [ht]
  replace ht := Lib.hid ht
  go_enter Try.func52, Try.ntmps52
  go_wp2_with fail
  go_loopw [3, 4] (fun x i wr => ∃ k : Nat, k ≤ bs.length ∧ i = .int .i64 ((k : Int) - 1) ∧ x = .int .u64 (bn (bs.drop k)) ∧ ∃ m, wr = w.drewN m) (fun _ i _ => ((intOf i) + 1).toNat)
  case atStart => exact ⟨bs.length, by omega, by first | rfl | (congr 1; omega), by simp [bn], 0, rfl⟩
  case round =>
    obtain ⟨k, hk, rfl, rfl, m, rfl⟩ := hrel
    obtain ⟨wi, hwi⟩ : ∃ wi, w.drewN m = wi := ⟨_, rfl⟩
    have hcw : ∀ a, wi.cell? a = w.cell? a := fun a => by rw [← hwi]; rfl
    have hdn : ∀ n, ∃ m, wi.drewN n = w.drewN m := fun n => ⟨m + n, by rw [← hwi]; exact World.drewN_drewN w m n⟩
    rw [hwi]
    replace hwi := Lib.hid hwi
    rcases Nat.eq_zero_or_pos k with rfl | h0
    · have e : bn (bs.drop 0) = t := ht.out
      rw [e]
      clear hc hcw e
      go_wp2_with fail
      go_ret
      exact ⟨rfl, m, hwi.out.symm⟩
    · obtain ⟨j, rfl⟩ : ∃ j, k = j + 1 := ⟨k - 1, by omega⟩
      have hj : j < bs.length := by omega
      obtain ⟨g, o, rfl, c0⟩ := hc j hj
      rw [← hcw] at c0
      have hd : bs.drop j = bs[j] :: bs.drop (j + 1) := List.drop_eq_getElem_cons hj
      obtain ⟨b, hb⟩ : ∃ b, bs[j] = b := ⟨_, rfl⟩
      rw [hb] at c0 hd
      have hlt := bn_lt (bs.drop (j + 1))
      have hp := two_pow_le (show (bs.drop (j + 1)).length ≤ 63 by simp; omega)
      have e63 : (2 : Nat) ^ 63 = 9223372036854775808 := rfl
      obtain ⟨X, hX⟩ : ∃ X, bn (bs.drop (j + 1)) = X := ⟨_, rfl⟩
      rw [hX] at hlt ⊢
      have hXl : X < 9223372036854775808 := by omega
      have hXd : bn (bs.drop j) = b.toNat + 2 * X := by rw [hd, bn, hX]
      have i1 : (((j + 1 : Nat) : Int) - 1) = (j : Int) := by omega
      rw [i1]
      have w1 : IntKind.u64.wrap ((X : Int) * 2) = (X : Int) * 2 := by rw [IntKind.wrap_u64]; omega
      have w2 : IntKind.u64.wrap ((X : Int) * 2 + 1) = (X : Int) * 2 + 1 := by rw [IntKind.wrap_u64]; omega
      have hv : (X : Int) * 2 = ((2 * X : Nat) : Int) := by omega
      clear hc hcw hb hlt hp e63 hX hd hXl i1
      replace w1 := Lib.hid w1
      replace w2 := Lib.hid w2
      replace hXd := Lib.hid hXd
      replace hv := Lib.hid hv
      cases b
      · have hv2 : (X : Int) * 2 = ((bn (bs.drop j) : Nat) : Int) := by rw [hXd.out]; show _ = (((0 + 2 * X : Nat)) : Int); omega
        replace hv2 := Lib.hid hv2
        go_wp2_with fail
        go_roundw
        case rel => exact ⟨j, by omega, rfl, by rw [w1.out, hv2.out], m, hwi.out.symm⟩
        case measure => simp [intOf]
      · have hv2 : (X : Int) * 2 + 1 = ((bn (bs.drop j) : Nat) : Int) := by rw [hXd.out]; show _ = (((1 + 2 * X : Nat)) : Int); omega
        replace hv2 := Lib.hid hv2
        go_wp2_with fail
        go_roundw
        case rel => exact ⟨j, by omega, rfl, by rw [w1.out, w2.out, hv2.out], m, hwi.out.symm⟩
        case measure => simp [intOf]
end Go.Proofs.Ytkbpjegmfhmhbaa
