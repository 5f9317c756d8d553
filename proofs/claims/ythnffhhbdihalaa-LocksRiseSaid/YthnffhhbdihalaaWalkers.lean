/- The walkers are made. -/
import Derived.Test.YthnffhhbdihalaaGoes
import Derived.Maps.AppendAt
namespace Go.Proofs.Ythnffhhbdihalaa
open Go.RowKit Go.Shelf
attribute [local go_sem] Oper.semAt_some

theorem info3 : (Try.prog.info? 3).map (fun i => (i.zero, i.size, i.bytes)) = some (some (.int .i64 0), 1, 8) := by kernel_rfl
theorem info52 : (Try.prog.info? 52).map (fun i => (i.zero, i.size, i.bytes)) = some (some (.pointer none), 1, 8) := by kernel_rfl

/-- A slice of slices of numbers among the arguments. -/
def Steps (n : Nat) (w : World) (v : Value) : Prop :=
  ∃ ad len cap, v = .slice ad len cap ∧ len ≤ 9223372036854775807 ∧ ∀ i, i < len → ∃ b off ai li ci, ad = some ⟨b, off, none⟩ ∧ b < n ∧ w.cell? ⟨b, off + i, none⟩ = some (.slice ai li ci) ∧ li ≤ 9223372036854775807 ∧
    ∀ j, j < li → ∃ b' off' x, ai = some ⟨b', off', none⟩ ∧ b' < n ∧ w.cell? ⟨b', off' + j, none⟩ = some (.int .i64 x)

variable {n₁ n₂ : Nat} {w w' : World} {v : Value} {Bs : List Nat} {ws : List WD}

theorem row_shape {w : World} {b : Nat} {e : TypeId} {s : Nat} {v : Value} {n : Nat} {xs : List Value} (h : w.ownsRow b e s v n xs) : ∃ ad cap, v = .slice ad n cap := by
  rcases h.2 with ⟨rfl, rfl⟩ | ⟨g, cap, cur, rfl, _⟩
  · exact ⟨_, _, rfl⟩
  · exact ⟨_, _, rfl⟩

theorem row_other {w : World} {n : Nat} {e t : TypeId} {u : Value} {m s B : Nat} {xs : List Value} {cur : Array Value} (hu : w.ownsRow n e s u m xs) (hb : w.heap[B]? = some (.cells cur t (0, 0))) (ht : t ≠ e) : some B ≠ u.ownBlock := by
  intro h
  rcases hu.2 with ⟨rfl, _⟩ | ⟨g, cap, cur', rfl, _, hgb, _⟩
  · simp [Value.ownBlock] at h
  · simp [Value.ownBlock] at h
    subst h
    rw [hgb] at hb
    simp at hb
    exact ht hb.2.symm

theorem grown_below {W w1 : World} {row : Option Nat} {n B i : Nat} {x : Value} (h : W.grownBy w1 row) (hr : ∀ b, row = some b → n ≤ b) (hn : n ≤ W.heap.size) (hB : n ≤ B) : Below n W (w1.setCell ⟨B, i, none⟩ x) :=
  ((Kept.of_grown (S := fun b => n ≤ b) h (fun k hk _ => hr k hk)).setCell (p := ⟨B, i, none⟩) (fun _ => hB) x).below hn (fun k hk h => by omega)

theorem grown_of_alloc {W w1 : World} {row : Option Nat} {o : Obj} (h : (W.alloc o).grownBy w1 row) : W.grownBy w1 row :=
  ⟨h.os, h.tape, h.output, Nat.le_trans (by simp) h.size, fun k hk hn => (h.block k (by simp; omega) hn).trans (Below.heap_alloc _ _ _ hk)⟩

theorem WOne.grown {n₂' B : Nat} {d : WD} {u : Value} {m : Nat} {xs : List Value} (h : WOne n₁ n₂ w B d) (hu : w.ownsRow n₁ 52 1 u m xs) (hg : w.grownBy w' u.ownBlock) (hle : n₂ ≤ n₂') : WOne n₁ n₂' w' B d := by
  obtain ⟨h1, h2, kv, h3, h4, h5⟩ := h
  have hne : ∀ b cur t, t ≠ 52 → w.heap[b]? = some (.cells cur t (0, 0)) → some b ≠ u.ownBlock := by
    intro b cur t ht hb e
    rcases hu.2 with ⟨rfl, _⟩ | ⟨g, cap, cur', rfl, _, hgb, _⟩
    · simp [Value.ownBlock] at e
    · simp [Value.ownBlock] at e
      subst e
      rw [hgb] at hb
      simp at hb
      exact ht hb.2.symm
  refine ⟨h1, by omega, kv, (hg.block B (Array.getElem?_eq_some_iff.1 h3).1 (hne B _ _ (by decide) h3)).trans h3, h4.kept hg ?_, fun b hb => by have := h5 b hb; omega⟩
  rcases h4.2 with ⟨rfl, _⟩ | ⟨g, cap, cur, rfl, _, hb, _⟩
  · exact .inl rfl
  · exact .inr (fun e => hne g _ _ (by decide) hb (by rw [← e]; rfl))

theorem WOne.below {n₂' B : Nat} {d : WD} (h : WOne n₁ n₂ w B d) (hb : Below n₂ w w') (hle : n₂ ≤ n₂') : WOne n₁ n₂' w' B d := by
  obtain ⟨h1, h2, kv, h3, h4, h5⟩ := h.kept (w' := w') (fun b _ hb' => hb.block b hb')
  exact ⟨h1, by omega, kv, h3, h4, fun b hb => by have := h5 b hb; omega⟩

theorem bAt_snoc_last (Bs : List Nat) (B : Nat) : bAt (Bs ++ [B]) Bs.length = B := by simp [bAt]
theorem bAt_snoc_old {Bs : List Nat} {i : Nat} (h : i < Bs.length) (B : Nat) : bAt (Bs ++ [B]) i = bAt Bs i := by simp [bAt, List.getElem?_append_left h]
theorem wAt_snoc_last (ws : List WD) (d : WD) : wAt (ws ++ [d]) ws.length = d := by simp [wAt]
theorem wAt_snoc_old {ws : List WD} {i : Nat} (h : i < ws.length) (d : WD) : wAt (ws ++ [d]) i = wAt ws i := by simp [wAt, List.getElem?_append_left h]

/-- One walker more. -/
theorem WsAt.snoc {u : Value} {B : Nat} {d : WD} (h : WsAt n₁ n₂ w v Bs ws) (hB : n₂ ≤ B) (hd : WOne n₁ w.heap.size w B d) (hg : w.grownBy w' v.ownBlock) (hu : w'.ownsRow n₁ 52 1 u (Bs.length + 1) ((Bs ++ [B]).map fun B => .pointer (some ⟨B, 0, none⟩)))
    (hn : n₂ ≤ w'.heap.size) : WsAt n₁ w'.heap.size w' u (Bs ++ [B]) (ws ++ [d]) := by
  have hl := h.len
  refine ⟨by rw [List.length_append]; exact hu, fun b hb => (hu.lt b hb).2, by simp [hl], fun i j hi hj e => ?_, fun i hi => ?_⟩
  · have hlt : ∀ i, i < Bs.length → bAt Bs i < n₂ := fun i hi => (h.one i (by omega)).2.1
    rw [List.length_append] at hi hj
    simp only [List.length_cons, List.length_nil] at hi hj
    by_cases h1 : i < Bs.length
    · by_cases h2 : j < Bs.length
      · rw [bAt_snoc_old h1, bAt_snoc_old h2] at e; exact h.inj i j h1 h2 e
      · obtain rfl : j = Bs.length := by omega
        rw [bAt_snoc_old h1, bAt_snoc_last] at e
        have := hlt i h1; omega
    · obtain rfl : i = Bs.length := by omega
      by_cases h2 : j < Bs.length
      · rw [bAt_snoc_old h2, bAt_snoc_last] at e
        have := hlt j h2; omega
      · omega
  · rw [List.length_append] at hi
    simp only [List.length_cons, List.length_nil] at hi
    by_cases h1 : i < ws.length
    · rw [bAt_snoc_old (by omega), wAt_snoc_old h1]
      exact (h.one i h1).grown h.row hg hn
    · obtain rfl : i = ws.length := by omega
      have e1 : bAt (Bs ++ [B]) ws.length = B := by rw [← hl]; exact bAt_snoc_last _ _
      rw [e1, wAt_snoc_last]
      exact hd.grown h.row hg hg.size

set_option maxRecDepth 100000 in
set_option maxHeartbeats 4000000 in
theorem walkers_any (hs : Steps w.heap.size w v) :
    Calls Try.prog 21 #[v] w fun e w' => ∃ u Bs ws, e = .returned u ∧ WsAt w.heap.size w'.heap.size w' u Bs ws ∧ ws.length ≤ 8 ∧ (∀ i, i < ws.length → Good (wAt ws i) ∧ (wAt ws i).done = false ∧ (wAt ws i).n = 0) ∧ Below w.heap.size w w' := by
  obtain ⟨ad, len, cap, rfl, hlen, hcells⟩ := hs
  obtain ⟨m, hm1, hm2, hm3⟩ : ∃ m, m ≤ len ∧ m ≤ 8 ∧ (m = len ∨ m = 8) := by
    by_cases h : len ≤ 8
    · exact ⟨len, Nat.le_refl _, h, .inl rfl⟩
    · exact ⟨8, by omega, Nat.le_refl _, .inr rfl⟩
  obtain ⟨i3, hi3, hz30, hz31, hz32⟩ := info_parts info3
  obtain ⟨i52, hi52, hz0, hz1, hz2⟩ := info_parts info52
  go_enter Try.func21, Try.ntmps21
  go_wp2_with fail
  go_loopw [3, 4] (fun u i wr => ∃ k : Nat, k ≤ m ∧ i = .int .i64 k ∧ ∃ Bs ws, WsAt w.heap.size wr.heap.size wr u Bs ws ∧ ws.length = k ∧ (∀ i, i < ws.length → Good (wAt ws i) ∧ (wAt ws i).done = false ∧ (wAt ws i).n = 0) ∧ Below w.heap.size w wr) (fun _ i _ => m - (intOf i).toNat)
  case atStart => exact ⟨0, Nat.zero_le _, rfl, [], [], ⟨World.ownsRow_nil _ _ _ _, fun b hb => by simp [Value.ownBlock] at hb, rfl, fun i j hi => by simp at hi, fun i hi => by simp at hi⟩, rfl, fun i hi => by simp at hi, Below.refl _ _⟩
  case round =>
    obtain ⟨k, hk, rfl, Bs, ws, hW, hwl, hgood, hbw⟩ := hrel
    obtain ⟨wo, rfl⟩ : ∃ wo : World, wo = wr := ⟨_, rfl⟩
    have hu := row_shape hW.row
    obtain ⟨ua, uc, rfl⟩ := hu
    by_cases hlt : k < m
    · obtain ⟨b, off, ai, li, ci, rfl, hb, c0, hli, hel⟩ := hcells k (by omega)
      have q1 : k < len := by omega
      have q2 : (k : Int) < 8 := by omega
      have d0 : wo.cell? ⟨b, off + k, none⟩ = some (.slice ai li ci) := (hbw.cell (p := ⟨b, _, none⟩) hb).trans c0
      have hblt : b < wo.heap.size := by have := hbw.size; omega
      replace hW := Lib.hid hW
      replace hgood := Lib.hid hgood
      replace hcells := Lib.hid hcells
      replace hbw := Lib.hid hbw
      obtain ⟨q, hq1, hq2, hq3⟩ : ∃ q, q ≤ li ∧ q ≤ 8 ∧ (q = li ∨ q = 8) := by
        by_cases h : li ≤ 8
        · exact ⟨li, Nat.le_refl _, h, .inl rfl⟩
        · exact ⟨8, by omega, Nat.le_refl _, .inr rfl⟩
      go_wp2_with fail
      go_loopw [6, 7] (fun y p wr => ∃ (j : Nat) (x : Int) (ks : List Int) (kv : Value), j ≤ q ∧ p = .int .i64 j ∧ y = .int .i64 x ∧ ks.length = j ∧ ks.Pairwise (· < ·) ∧ (∀ z ∈ ks, 0 < z ∧ z ≤ x) ∧ 0 ≤ x ∧ x ≤ 4 * j ∧
        wr.heap[wo.heap.size]? = some (.cells #[kv, .int .i64 0, .bool false] 51 (0, 0)) ∧ wr.ownsRow wo.heap.size 3 1 kv j (ks.map (.int .i64 ·)) ∧ Below wo.heap.size wo wr) (fun _ p _ => q - (intOf p).toNat)
      case atStart => exact ⟨0, 0, [], .slice none 0 0, Nat.zero_le _, rfl, rfl, rfl, List.Pairwise.nil, (fun z hz => by cases hz), by omega, by omega, World.alloc_heap_new _ _, World.ownsRow_nil _ _ _ _, (Below.refl _ _).alloc (Nat.le_refl _) _⟩
      case round =>
        obtain ⟨j, x, ks, kv, hj, rfl, rfl, hkl, hkp, hkx, hx0, hx4, hB, hrow, hbe⟩ := hrel
        obtain ⟨wi, rfl⟩ : ∃ wi : World, wi = wr := ⟨_, rfl⟩
        have f0 : wi.cell? ⟨b, off + k, none⟩ = some (.slice ai li ci) := (hbe.cell (p := ⟨b, _, none⟩) hblt).trans d0
        by_cases hjq : j < q
        · obtain ⟨b', off', s, rfl, hb', hc'⟩ := hel j (by omega)
          have hcw := ((hbe.cell (p := ⟨b', off' + j, none⟩) (show b' < wo.heap.size from by have := hbw.out.size; omega)).trans (hbw.out.cell (p := ⟨b', off' + j, none⟩) hb')).trans hc'
          have z1 : j < li := by omega
          have z2 : (j : Int) < 8 := by omega
          obtain ⟨r, hr, hr0, hr3⟩ : ∃ r, bits BinOp.and IntKind.i64 s 3 = r ∧ 0 ≤ r ∧ r ≤ 3 := ⟨_, rfl, (bits_and_le s 3 (by omega)).1, (bits_and_le s 3 (by omega)).2⟩
          have hw1 : IntKind.i64.wrap (x + 1) = x + 1 := by rw [IntKind.wrap_i64]; omega
          have hw2 : IntKind.i64.wrap (x + 1 + r) = x + 1 + r := by rw [IntKind.wrap_i64]; omega
          have hne := row_other hrow hB (by decide)
          have hBlt : wo.heap.size < wi.heap.size := (Array.getElem?_eq_some_iff.1 hB).1
          have e0 : wi.cell? ⟨wo.heap.size, 0, none⟩ = some kv := by simp [World.cell?, hB]
          replace hB := Lib.hid hB
          replace hrow := Lib.hid hrow
          replace hbe := Lib.hid hbe
          replace hkx := Lib.hid hkx
          replace hkl := Lib.hid hkl
          have hj8 : j ≤ 8 := by omega
          clear hc' hel
          go_wp2_with (refine wpList_append_own_at _ rfl _ _ 44 rfl wo.heap.size 3 i3 _ 1 8 Try.underlying44 hi3 hz30 hz31 hz32 rfl (by decide) kv _ _ rfl (hrow.out.alloc _) ⟨_, 0, none⟩ 1 1 [.int .i64 (x + 1 + r)] rfl rfl (cell_one_new _ _ _) (by simp [Value.oneCell']) (by unfold maxLen; omega) (by omega) (by simp; omega) ?_; intro v' w1 hown' hgrow _ hat'; obtain ⟨g', cap', rfl⟩ := ownsRow_succ hown'; have hB1 := ((grown_of_alloc hgrow).block _ hBlt hne).trans hB.out; have e1 : w1.cell? ⟨wo.heap.size, 0, none⟩ = some kv := (by simp [World.cell?, hB1]); have e2 : w1.frozen? ⟨wo.heap.size, 0, none⟩ = false := (by simp [World.frozen?, hB1]); replace hB1 := Lib.hid hB1; replace hown' := Lib.hid hown')
          go_roundw
          case rel =>
            refine ⟨j + 1, x + 1 + r, ks ++ [x + 1 + r], _, by omega, by go_num, rfl, by rw [List.length_append, hkl.out]; rfl, ?_, ?_, by omega, by omega, by rw [cells3_set _ _ _ _ _ _ _ _ hB1.out]; rfl, ?_, ?_⟩
            · rw [List.pairwise_append]
              refine ⟨hkp, by simp, fun a ha b hb => ?_⟩
              simp at hb; subst hb
              have := hkx.out a ha; omega
            · intro z hz
              rcases List.mem_append.1 hz with hz | hz
              · have := hkx.out z hz; omega
              · simp at hz; subst hz; omega
            · have := hown'.out.kept (grownBy_setCell' w1 wo.heap.size (.slice (some ⟨g', 0, none⟩) (j + 1) cap')) (.inr (row_other hown'.out hB1.out (by decide)).symm)
              rw [List.map_append]
              exact this
            · exact hbe.out.trans (grown_below (grown_of_alloc hgrow) (fun b hb => (hrow.out.lt b hb).1) (by omega) (Nat.le_refl _))
          case measure => simp [intOf]; omega
        · obtain rfl : j = q := by omega
          have hne := row_other hrow hB (by decide)
          have hBlt : wo.heap.size < wi.heap.size := (Array.getElem?_eq_some_iff.1 hB).1
          have hWi : WsAt w.heap.size wo.heap.size wi (.slice ua Bs.length uc) Bs ws := hW.out.kept (fun b _ hb2 => hbe.block b hb2)
          have hd : WOne w.heap.size wi.heap.size wi wo.heap.size ⟨ks, 0, false⟩ := ⟨hbw.out.size, hBlt, kv, hB, by
            refine ⟨by simp [hkl], ?_⟩
            rcases hrow.2 with ⟨h2, h3⟩ | ⟨g, cap, cur, h2, h3, h4, h5⟩
            · exact .inl ⟨h2, by simp only; omega⟩
            · refine .inr ⟨g, cap, cur, by simpa [hkl] using h2, Nat.le_trans hbw.out.size h3, h4, by simpa [hkl] using h5⟩, fun b hb => (hrow.lt b hb).2⟩
          have hgd : Good ⟨ks, 0, false⟩ := ⟨Nat.zero_le _, hkp, fun z hz => (hkx z hz).1, by simp only; omega⟩
          have hbl := hW.out.len
          have hBs8 : Bs.length ≤ 8 := by omega
          have hru := hWi.row
          replace hWi := Lib.hid hWi
          replace hd := Lib.hid hd
          replace hgd := Lib.hid hgd
          replace hbe := Lib.hid hbe
          replace hru := Lib.hid hru
          replace hbl := Lib.hid hbl
          replace hwl := Lib.hid hwl
          replace hB := Lib.hid hB
          replace hrow := Lib.hid hrow
          replace hkx := Lib.hid hkx
          clear hel
          have hcases : (j < li ∧ (8 : Int) ≤ j) ∨ li ≤ j := by omega
          rcases hcases with ⟨y1, y2⟩ | y1
          all_goals
            go_wp2_with (refine wpList_append_own_at _ rfl _ _ 45 rfl w.heap.size 52 i52 _ 1 8 Try.underlying45 hi52 hz0 hz1 hz2 rfl (by decide) (.slice ua Bs.length uc) _ _ rfl (hru.out.alloc _) ⟨_, 0, none⟩ 1 1 [.pointer (some ⟨wo.heap.size, 0, none⟩)] rfl rfl (cell_one_new _ _ _) (by simp [Value.oneCell']) (by unfold maxLen; omega) (by omega) (by simp; have := hbw.out.size; omega) ?_; intro v' w1 hown' hgrow _ hat')
            go_roundw
            case rel =>
              have hg1 := grown_of_alloc hgrow
              refine ⟨k + 1, by omega, by go_num, Bs ++ [wo.heap.size], ws ++ [⟨ks, 0, false⟩], hWi.out.snoc (Nat.le_refl _) hd.out hg1 (by rw [List.map_append]; exact hown') (Nat.le_trans hbe.out.size hg1.size), by simp [hwl.out], fun i hi => ?_, ?_⟩
              · rw [List.length_append] at hi
                simp only [List.length_cons, List.length_nil] at hi
                by_cases h1 : i < ws.length
                · rw [wAt_snoc_old h1]; exact hgood.out i h1
                · obtain rfl : i = ws.length := by omega
                  rw [wAt_snoc_last]; exact ⟨hgd.out, rfl, rfl⟩
              · refine hbw.out.trans ((hbe.out.mono hbw.out.size).trans ((Kept.of_grown (S := fun b => w.heap.size ≤ b) hg1 (fun b hb _ => (hru.out.lt b hb).1)).below (Nat.le_trans hbw.out.size hbe.out.size) (fun b hb h => by omega)))
            case measure => simp [intOf]; omega
    · obtain rfl : k = m := by omega
      have hcases : (k < len ∧ (8 : Int) ≤ k) ∨ len ≤ k := by omega
      replace hW := Lib.hid hW
      replace hgood := Lib.hid hgood
      replace hbw := Lib.hid hbw
      have hl8 : ws.length ≤ 8 := by omega
      clear hcells
      rcases hcases with ⟨y1, y2⟩ | y1
      all_goals
        go_wp2_with fail
        go_ret
        exact ⟨_, Bs, ws, rfl, hW.out, hl8, hgood.out, hbw.out⟩
end Go.Proofs.Ythnffhhbdihalaa
