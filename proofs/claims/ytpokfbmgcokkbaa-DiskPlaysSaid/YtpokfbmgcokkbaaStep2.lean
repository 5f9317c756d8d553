/- One operation on a disk and on the reference's: reads, flushes, crashes, what is pending. -/
import Derived.Test.YtpokfbmgcokkbaaStep
namespace Go.Proofs.Ytpokfbmgcokkbaa
open Go.RowKit Go.Shelf
attribute [local go_sem] Oper.semAt_some

variable {n₀ : Nat} {w0 w w' : World} {l : List Th} {D R : Nat} {a : AD}

theorem bts_nil (w : World) : Bts w (.slice none 0 0) [] := ⟨none, 0, rfl, fun i hi => by simp at hi⟩

set_option maxRecDepth 100000 in
set_option maxHeartbeats 4000000 in
theorem step_read (h : Hold n₀ w0 w [Dk D a, Rk R a]) (hop : a.ops ≤ 1000000) (what blk fill : Int) (kv : Value) (hc : bits .and .i64 what 7 = 4) :
    Calls Try.prog 22 #[.pointer (some ⟨D, 0, none⟩), .pointer (some ⟨R, 0, none⟩), .agg #[.int .i64 what, .int .i64 blk, .int .i64 fill, kv]] w (StepDone n₀ w0 D R a) := by
  have hb0 := h.box #[.int .i64 what, .int .i64 blk, .int .i64 fill, kv] 46
  obtain ⟨B, hB⟩ : ∃ B, w.heap.size = B := ⟨_, rfl⟩
  rw [hB] at hb0
  replace hb0 := Lib.hid hb0
  replace hB := Lib.hid hB
  clear h
  by_cases hin : 0 ≤ blk ∧ blk < a.n
  · go_enter Try.func22, Try.ntmps22
    go_wp2_with fail
    refine (hb0.out.dread 0 rfl blk hin.1 hin.2).mono ?_; rintro e w1 ⟨v, rfl, hl, h1⟩
    rw [hB.out]
    have hcc := Lib.hid hc
    clear hc
    replace h1 : Hold n₀ w0 w1 [Dk D a, Rk R a, Bx B 46 #[.int .i64 what, .int .i64 blk, .int .i64 fill, kv], Rw v (rdA a blk)] := h1
    have c1 : w1.cell? ⟨B, 1, none⟩ = some (.int .i64 blk) := h1.bcell 2 rfl 1
    replace h1 := Lib.hid h1
    replace hl := Lib.hid hl
    go_wp2_with fail
    refine (h1.out.rread 1 rfl hop blk hin.1 hin.2).mono ?_; rintro e w2 ⟨u, rfl, -, h2⟩
    replace h2 : Hold n₀ w0 w2 [Dk D a, Rk R a, Bx B 46 #[.int .i64 what, .int .i64 blk, .int .i64 fill, kv], Rw v (rdA a blk), Rw u (rdA a blk)] := h2
    have hs := h2.same 3 4 rfl rfl (by have := hl.out; omega)
    rw [beq_self_eq_true] at hs
    replace h2 := Lib.hid h2
    replace hs := Lib.hid hs
    clear c1 hb0 h1
    go_wp2_with fail
    refine hs.out.mono ?_; rintro e w3 ⟨rfl, m, h3⟩
    have h4 : Hold n₀ w0 w3 [Dk D a, Rk R a, Bx B 46 #[.int .i64 what, .int .i64 blk, .int .i64 fill, kv], Rw v (rdA a blk), Rw u (rdA a blk)] := by rw [h3]; exact h2.out.drewN m
    clear h3 h2 hs
    obtain ⟨g, cap, rfl, hcap, h5⟩ := h4.junk 3 rfl (by rw [hl.out]; decide)
    rw [hl.out] at hcap h5 ⊢
    replace h5 : Hold n₀ w0 w3 [Dk D a, Rk R a, Bx B 46 #[.int .i64 what, .int .i64 blk, .int .i64 fill, kv], Jk g 256, Rw u (rdA a blk)] := h5
    replace h5 := Lib.hid h5
    clear h4
    go_wp2_with fail
    go_loopw [16] (fun i wr => ∃ k : Nat, k ≤ 256 ∧ i = .int .i64 k ∧ Hold n₀ w0 wr [Dk D a, Rk R a, Bx B 46 #[.int .i64 what, .int .i64 blk, .int .i64 fill, kv], Jk g 256, Rw u (rdA a blk)]) (fun i _ => 256 - (intOf i).toNat)
    case atStart => exact ⟨0, Nat.zero_le _, rfl, h5.out⟩
    case round =>
      obtain ⟨k, hk, rfl, h5⟩ := hrel
      by_cases hlt : k < 256
      · obtain ⟨x, z0, z1⟩ := h5.jcell 3 rfl (j := k) (by omega)
        have q1 : (k : Int) < 256 := by omega
        have h6 := fun y => h5.scribble 3 rfl (j := k) (by omega) y
        replace h6 := Lib.hid h6
        replace h5 := Lib.hid h5
        go_wp2_with fail
        go_roundw
        case rel => exact ⟨k + 1, by omega, by go_num, h6.out _⟩
        case measure => simp [intOf]; omega
      · obtain rfl : k = 256 := by omega
        have h6 := h5.take 2
        replace h6 := Lib.hid h6
        replace h5 := Lib.hid h5
        go_wp2_with fail
        go_ret
        exact ⟨rfl, h6.out⟩
  · have hout : blk < 0 ∨ (a.n : Int) ≤ blk := by omega
    have hs := same_any (bts_nil w) (bts_nil w) (by simp)
    rw [beq_self_eq_true] at hs
    go_enter Try.func22, Try.ntmps22
    go_wp2_with fail
    refine (hb0.out.dread_bad 0 rfl blk hout).mono ?_; rintro e w1 ⟨rfl, rfl⟩
    have hcc := Lib.hid hc
    clear hc hs
    rw [hB.out]
    generalize hW : w.alloc (.cells #[.int .i64 what, .int .i64 blk, .int .i64 fill, kv] 46) = W at *
    have h1 : Hold n₀ w0 W [Dk D a, Rk R a, Bx B 46 #[.int .i64 what, .int .i64 blk, .int .i64 fill, kv]] := hb0.out
    have c1 : W.cell? ⟨B, 1, none⟩ = some (.int .i64 blk) := h1.bcell 2 rfl 1
    clear hb0
    replace h1 := Lib.hid h1
    replace hW := Lib.hid hW
    go_wp2_with fail
    refine (h1.out.rread_bad 1 rfl blk hout).mono ?_; rintro e w2 ⟨rfl, rfl⟩
    have hs := same_any (bts_nil w2) (bts_nil w2) (by simp)
    rw [beq_self_eq_true] at hs
    replace hs := Lib.hid hs
    clear c1
    go_wp2_with fail
    refine hs.out.mono ?_; rintro e w3 ⟨rfl, m, h3⟩
    have h4 : Hold n₀ w0 w3 [Dk D a, Rk R a] := by rw [h3]; exact (h1.out.drewN m).take 2
    clear h3 h1 hs hW
    replace h4 := Lib.hid h4
    go_wp2_with fail
    go_loopw [16] (fun i wr => i = .int .i64 0 ∧ Hold n₀ w0 wr [Dk D a, Rk R a]) (fun i _ => 0)
    case atStart => exact ⟨rfl, h4.out⟩
    case round =>
      obtain ⟨rfl, h5⟩ := hrel
      replace h5 := Lib.hid h5
      go_wp2_with fail
      go_ret
      exact ⟨rfl, h5.out⟩

set_option maxRecDepth 100000 in
set_option maxHeartbeats 4000000 in
theorem step_flush (h : Hold n₀ w0 w [Dk D a, Rk R a]) (hop : a.ops ≤ 1000000) (what blk fill : Int) (kv : Value) (hc : bits .and .i64 what 7 = 5) :
    Calls Try.prog 22 #[.pointer (some ⟨D, 0, none⟩), .pointer (some ⟨R, 0, none⟩), .agg #[.int .i64 what, .int .i64 blk, .int .i64 fill, kv]] w (StepDone n₀ w0 D R (flA a)) := by
  have hb0 := h.box #[.int .i64 what, .int .i64 blk, .int .i64 fill, kv] 46
  replace hb0 := Lib.hid hb0
  clear h
  go_enter Try.func22, Try.ntmps22
  go_wp2_with fail
  refine (hb0.out.dflush 0 rfl hop).mono ?_; rintro e w1 ⟨rfl, h1⟩
  replace h1 : Hold n₀ w0 w1 [Dk D (flA a), Rk R a, Bx w.heap.size 46 #[.int .i64 what, .int .i64 blk, .int .i64 fill, kv]] := h1
  replace h1 := Lib.hid h1
  clear hb0
  go_wp2_with fail
  refine (h1.out.rflush 1 rfl hop).mono ?_; rintro e w2 ⟨rfl, h2⟩
  have h3 : Hold n₀ w0 w2 [Dk D (flA a), Rk R (flA a)] := h2.take 2
  replace h3 := Lib.hid h3
  clear h1 h2
  go_wp2_with fail
  go_ret
  exact ⟨rfl, h3.out⟩

theorem Hold.keeps (h : Hold n₀ w0 w l) {v : Value} {ks : List Bool} (hk : Keeps (fun b => b < n₀) w0 v ks) : Keeps (fun b => b < n₀) w v ks :=
  hk.kept fun b hb => h.frame.block b hb

set_option maxRecDepth 100000 in
set_option maxHeartbeats 4000000 in
theorem step_crash (h : Hold n₀ w0 w [Dk D a, Rk R a]) (hop : a.ops ≤ 1000000) (what blk fill : Int) (kv : Value) (hc : bits .and .i64 what 7 = 6) (ks : List Bool) (hk : Keeps (fun b => b < n₀) w0 kv ks) (hkl : ks.length ≤ 9223372036854775807) :
    Calls Try.prog 22 #[.pointer (some ⟨D, 0, none⟩), .pointer (some ⟨R, 0, none⟩), .agg #[.int .i64 what, .int .i64 blk, .int .i64 fill, kv]] w (StepDone n₀ w0 D R (setA a (keepAt ks))) := by
  have hb0 := h.box #[.int .i64 what, .int .i64 blk, .int .i64 fill, kv] 46
  obtain ⟨B, hB⟩ : ∃ B, w.heap.size = B := ⟨_, rfl⟩
  rw [hB] at hb0
  replace hb0 := Lib.hid hb0
  replace hB := Lib.hid hB
  replace hk := Lib.hid hk
  clear h
  go_enter Try.func22, Try.ntmps22
  go_wp2_with fail
  refine (hb0.out.dcrash 0 rfl hop (hb0.out.keeps hk.out)).mono ?_; rintro e w1 ⟨rfl, h1⟩
  rw [hB.out]
  have hcc := Lib.hid hc
  clear hc
  replace h1 : Hold n₀ w0 w1 [Dk D (setA a (keepAt ks)), Rk R a, Bx B 46 #[.int .i64 what, .int .i64 blk, .int .i64 fill, kv]] := h1
  have c1 : w1.cell? ⟨B, 3, none⟩ = some kv := h1.bcell 2 rfl 3
  replace h1 := Lib.hid h1
  clear hb0
  go_wp2_with fail
  refine (h1.out.rcrash 1 rfl hop (h1.out.keeps hk.out) hkl).mono ?_; rintro e w2 ⟨rfl, h2⟩
  have h3 : Hold n₀ w0 w2 [Dk D (setA a (keepAt ks)), Rk R (setA a (keepAt ks))] := h2.take 2
  replace h3 := Lib.hid h3
  clear h1 h2 c1
  go_wp2_with fail
  go_ret
  exact ⟨rfl, h3.out⟩

/-- What Pending gives is a thing of its own. -/
theorem PRow.pj {S : Nat → Prop} {v : Value} {qs : List PQ} (h : PRow S w v qs) : Pj v qs.length S w := by
  refine ⟨qcells qs, h.1, h.2.1, fun k hk => ?_⟩
  obtain ⟨h1, h2⟩ := qcells_at qs k hk
  have hb := h.2.2 qs[k] (List.getElem_mem _)
  obtain ⟨g, cap, cur, e, _, hg, _, _, _, hc⟩ := hb.2.1.shape (by have := hb.1; omega)
  rw [hb.1] at e
  refine ⟨_, g, cap, h1, by rw [h2, e], hb.2.2 g (by rw [e]; rfl), cur, hg, fun j hj => ⟨_, hc j (by have := hb.1; omega)⟩⟩

theorem Hold.dpending (h : Hold n₀ w0 w l) (i : Nat) (hi : l[i]? = some (Dk D a)) (hop : a.ops ≤ 1000000) :
    Calls Try.prog 25 #[.pointer (some ⟨D, 0, none⟩)] w fun e w' => ∃ v qs, e = .returned v ∧ plain qs = a.pend ∧ PRow (fun b => w.heap.size ≤ b) w' v qs ∧ Hold n₀ w0 w' (l ++ [Pj v qs.length]) := by
  obtain ⟨S, hd⟩ := h.get i hi
  refine (DRep.pending hd hop).mono ?_
  rintro e w' ⟨v, qs, he, h1, h2, h3⟩
  exact ⟨v, qs, he, h2, h1, h.add (Pj.thing _ _) h1.pj h3⟩

theorem Hold.pcell (h : Hold n₀ w0 w l) (i : Nat) {v : Value} {n : Nat} (hi : l[i]? = some (Pj v n)) {k : Nat} (hk : k < n) :
    ∃ pg pc g cap x, v = .slice (some ⟨pg, 0, none⟩) n pc ∧ w.cell? ⟨pg, k * 2 + 1, none⟩ = some (.slice (some ⟨g, 0, none⟩) 256 cap) ∧ w.cell? ⟨g, 0, none⟩ = some (.int .u8 x) ∧ w.frozen? ⟨g, 0, none⟩ = false ∧ ∀ y, Hold n₀ w0 (w.setCell ⟨g, 0, none⟩ (.int .u8 y)) l := by
  obtain ⟨col, h⟩ := h
  obtain ⟨xs, h1, h2, h3⟩ := h.at_ i _ hi
  obtain ⟨x, g, cap, e1, e2, h4, cur, h5, h6⟩ := h3 k hk
  obtain ⟨y0, hy0⟩ := h6 0 (by decide)
  rcases h1.2 with ⟨_, h0⟩ | ⟨pg, pc, pcur, rfl, _, hb, a1, a2, a3, a4⟩
  · omega
  · have hcell : w.cell? ⟨pg, k * 2 + 1, none⟩ = some (.slice (some ⟨g, 0, none⟩) 256 cap) := by
      rw [← a4, List.getElem?_take_of_lt (by omega)] at e2
      simp [World.cell?, hb]
      simpa using e2
    refine ⟨pg, pc, g, cap, y0, rfl, hcell, by simp [World.cell?, h5]; simpa using hy0, by simp [World.frozen?, h5], fun y => ?_⟩
    rw [← set_self hi]
    refine h.turn i hi (Pj.thing _ _) ⟨xs, ?_, fun b hb => .inl (h2 b hb), fun j hj => ?_⟩ ((Kept.refl _ _).setCell (p := ⟨g, 0, none⟩) (fun _ => h4) _)
    · exact own_kept h1 fun b hb' => Below.heap_setCell _ _ _ _ (fun e => row_other h1 h5 (by decide) (by rw [hb', show b = g from e]))
    · obtain ⟨x', g', cap', f1, f2, f3, cur', f4, f5⟩ := h3 j hj
      by_cases hgg : g' = g
      · subst hgg
        rw [h5] at f4
        obtain ⟨rfl⟩ : cur = cur' := by simpa using f4
        refine ⟨x', g', cap', f1, f2, .inl f3, _, setCell_heap _ _ _ _ _ _ h5, fun j' hj' => ?_⟩
        obtain rfl : j' = 0 := by omega
        exact ⟨y, by rw [Array.set!_eq_setIfInBounds, Array.getElem?_setIfInBounds_self_of_lt (Array.getElem?_eq_some_iff.1 hy0).1]⟩
      · exact ⟨x', g', cap', f1, f2, .inl f3, cur', (Below.heap_setCell _ _ _ _ hgg).trans f4, f5⟩

set_option maxRecDepth 100000 in
set_option maxHeartbeats 4000000 in
theorem step_pend (h : Hold n₀ w0 w [Dk D a, Rk R a]) (hop : a.ops ≤ 1000000) (what blk fill : Int) (kv : Value) (hc : bits .and .i64 what 7 = 7) :
    Calls Try.prog 22 #[.pointer (some ⟨D, 0, none⟩), .pointer (some ⟨R, 0, none⟩), .agg #[.int .i64 what, .int .i64 blk, .int .i64 fill, kv]] w (StepDone n₀ w0 D R a) := by
  have hb0 := h.box #[.int .i64 what, .int .i64 blk, .int .i64 fill, kv] 46
  replace hb0 : Hold n₀ w0 _ [Dk D a, Rk R a] := hb0.take 2
  replace hb0 := Lib.hid hb0
  clear h
  go_enter Try.func22, Try.ntmps22
  go_wp2_with fail
  refine (hb0.out.dpending 0 rfl hop).mono ?_; rintro e w1 ⟨v, qs, rfl, hpl, hpr, h1⟩
  replace h1 : Hold n₀ w0 w1 [Dk D a, Rk R a, Pj v qs.length] := h1
  obtain ⟨S, lv, pv, qs', hr⟩ := h1.get 1 rfl
  have c1 : w1.cell? ⟨R, 1, none⟩ = some pv := by simp [World.cell?, hr.cell]
  have hql : qs.length ≤ 1000000 := by
    have h1 := hr.good.few
    have h2 := congrArg List.length hpl
    simp [plain] at h2
    omega
  have hsw := samewrites_true hpr hr.prow (by rw [hpl, hr.pend]) hql
  obtain ⟨va, vc, rfl⟩ := hpr.shape
  have hcc := Lib.hid hc
  replace h1 := Lib.hid h1
  replace hsw := Lib.hid hsw
  clear hc hr hpr hpl hb0
  go_wp2_with fail
  refine hsw.out.mono ?_; rintro e w2 ⟨rfl, m, hm⟩
  have h2 : Hold n₀ w0 w2 [Dk D a, Rk R a, Pj (.slice va qs.length vc) qs.length] := by rw [hm]; exact h1.out.drewN m
  clear hm h1 hsw c1
  replace h2 := Lib.hid h2
  go_wp2_with fail
  go_loopw [19] (fun i wr => ∃ k : Nat, k ≤ qs.length ∧ i = .int .i64 k ∧ Hold n₀ w0 wr [Dk D a, Rk R a, Pj (.slice va qs.length vc) qs.length]) (fun i _ => qs.length - (intOf i).toNat)
  case atStart => exact ⟨0, Nat.zero_le _, rfl, h2.out⟩
  case round =>
    obtain ⟨k, hk, rfl, h5⟩ := hrel
    by_cases hlt : k < qs.length
    · obtain ⟨pg, pc, g, cap, x, hv, z0, z1, z2, h6⟩ := h5.pcell 2 rfl (k := k) hlt
      obtain ⟨rfl, rfl⟩ : va = some ⟨pg, 0, none⟩ ∧ vc = pc := by simpa using hv
      replace h6 := Lib.hid h6
      replace h5 := Lib.hid h5
      clear hv
      go_wp2_with fail
      go_still_tail 14, (by kernel_rfl)
      go_wp2_with fail
      go_roundw
      case rel => exact ⟨k + 1, by omega, by go_num, (h6.out _).drew⟩
      case measure => simp [intOf]; omega
    · obtain rfl : k = qs.length := by omega
      have h6 := h5.take 2
      replace h6 := Lib.hid h6
      replace h5 := Lib.hid h5
      go_wp2_with fail
      go_ret
      exact ⟨rfl, h6.out⟩

/-- Any operation. -/
theorem step_any (h : Hold n₀ w0 w [Dk D a, Rk R a]) (hop : a.ops ≤ 1000000) (o : OpD) (kv : Value) (hk : Keeps (fun b => b < n₀) w0 kv o.keep) (hkl : o.keep.length ≤ 9223372036854775807) :
    Calls Try.prog 22 #[.pointer (some ⟨D, 0, none⟩), .pointer (some ⟨R, 0, none⟩), .agg #[.int .i64 o.what, .int .i64 o.blk, .int .i64 o.fill, kv]] w (StepDone n₀ w0 D R (stepA a o)) := by
  obtain ⟨c, hc⟩ : ∃ c, bits .and .i64 o.what 7 = c := ⟨_, rfl⟩
  have hb := bits_and_le o.what 7 (by omega)
  have hoc : opcode o = c := hc
  unfold stepA
  rw [hoc]
  have hb' : 0 ≤ c ∧ c ≤ 7 := by rw [← hc]; exact hb
  by_cases h4 : c < 4
  · rw [if_pos h4]
    exact step_write h hop _ _ _ _ c hc (by omega)
  · rw [if_neg h4]
    by_cases h5 : c = 5
    · rw [if_pos h5]; exact step_flush h hop _ _ _ _ (hc.trans h5)
    · rw [if_neg h5]
      by_cases h6 : c = 6
      · rw [if_pos h6]; exact step_crash h hop _ _ _ _ (hc.trans h6) o.keep hk hkl
      · rw [if_neg h6]
        by_cases h7 : c = 7
        · exact step_pend h hop _ _ _ _ (hc.trans h7)
        · exact step_read h hop _ _ _ _ (hc.trans (by omega))
end Go.Proofs.Ytpokfbmgcokkbaa
