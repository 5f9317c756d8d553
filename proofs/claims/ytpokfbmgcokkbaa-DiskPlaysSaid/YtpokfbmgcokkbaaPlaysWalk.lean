/- DiskPlays returns true: the walk. -/
import Derived.Test.YtpokfbmgcokkbaaRef4
namespace Go.Proofs.Ytpokfbmgcokkbaa
open Go.RowKit Go.Shelf
attribute [local go_sem] Oper.semAt_some

variable {n₀ : Nat} {w0 w w' : World} {l : List Th} {D R : Nat} {a : AD}

set_option maxRecDepth 100000 in
set_option maxHeartbeats 8000000 in
theorem whole_true {S S' : Nat → Prop} (hd : DRep S w D a) (hr : RRep S' w R a) (hop : a.ops ≤ 1000000) :
    Calls Try.prog 20 #[.pointer (some ⟨D, 0, none⟩), .pointer (some ⟨R, 0, none⟩)] w fun e w' => e = .returned (.bool true) ∧ Below w.heap.size w w' := by
  have hhi := hd.good.hi
  obtain ⟨lv, pv, qs, hra⟩ := hr
  obtain ⟨la, lc, rfl⟩ := hra.lrow.shape
  obtain ⟨pa, pc, rfl⟩ := hra.prow.shape
  have hrW := fun (W : World) (hb : Below w.heap.size w W) => hra.kept (w' := W) (fun b _ hl => hb.block b hl)
  replace hd := Lib.hid hd
  replace hra := Lib.hid hra
  replace hrW := Lib.hid hrW
  go_enter Try.func20, Try.ntmps20
  go_wp2_with fail
  go_loopw [5] (fun i wr => ∃ k : Nat, k ≤ a.n ∧ i = .int .i64 k ∧ Below w.heap.size w wr) (fun i _ => a.n - (intOf i).toNat)
  case atStart => exact ⟨0, Nat.zero_le _, rfl, Below.refl _ _⟩
  case round =>
    obtain ⟨k, hk, rfl, hbe⟩ := hrel
    obtain ⟨wo, rfl⟩ : ∃ wo : World, wo = wr := ⟨_, rfl⟩
    have hrw := hrW.out _ hbe
    have hdw := hd.out.below hbe
    have c0 : wo.cell? ⟨R, 0, none⟩ = some (.slice la a.n lc) := by simp [World.cell?, hrw.cell]
    by_cases hlt : k < a.n
    · have q1 : (k : Int) < (a.n : Int) := by omega
      have r1 := hdw.read_ok k (by omega) q1
      replace r1 := Lib.hid r1
      replace hbe := Lib.hid hbe
      replace hrw := Lib.hid hrw
      replace hdw := Lib.hid hdw
      go_wp2_with fail
      refine r1.out.mono ?_; rintro e w1 ⟨v, rfl, hv, hvl, b1⟩
      have hbe1 := hbe.out.trans (b1.mono hbe.out.size)
      have r2 := RRep.read_ok ⟨_, _, _, hrW.out _ hbe1⟩ hop k (by omega) q1
      replace r2 := Lib.hid r2
      replace hbe1 := Lib.hid hbe1
      replace hv := Lib.hid hv
      replace hvl := Lib.hid hvl
      clear b1 hbe r1
      go_wp2_with fail
      refine r2.out.mono ?_; rintro e w2 ⟨u, rfl, hu, -, b2⟩
      have hbe2 := hbe1.out.trans (b2.mono hbe1.out.size)
      have hs := same_any ((hv.out.below b2).bts) hu.bts (by have := hvl.out; omega)
      rw [beq_self_eq_true] at hs
      replace hs := Lib.hid hs
      replace hbe2 := Lib.hid hbe2
      clear hu b2 hbe1 hv r2
      go_wp2_with fail
      refine hs.out.mono ?_; rintro e w3 ⟨rfl, m, hm⟩
      have hbe3 : Below w.heap.size w w3 := hbe2.out.trans (by rw [hm]; exact (drewN_below _ _).mono hbe2.out.size)
      replace hbe3 := Lib.hid hbe3
      clear hm hs hbe2
      go_wp2_with fail
      go_roundw
      case rel => exact ⟨k + 1, by omega, by go_num, hbe3.out⟩
      case measure => simp [intOf]; omega
    · obtain rfl : k = a.n := by omega
      have c1 : wo.cell? ⟨R, 1, none⟩ = some (.slice pa qs.length pc) := by simp [World.cell?, hrw.cell]
      have c2 : wo.cell? ⟨R, 2, none⟩ = some (.int .i64 a.ops) := by simp [World.cell?, hrw.cell]
      have hb14 := blocks_cell wo.drew D a.n hdw.cell0
      have hb24 := ops_cell wo.drew D a.ops hdw.cell4
      have hdd : DRep _ wo.drew D a := hdw.kept (w' := wo.drew) fun _ _ _ => rfl
      have hp25 := hdd.pending hop
      have hRl := World.block_lt_of_cell? wo _ c0
      have h1 : ((a.n : Int) == (a.n : Int)) = true := by simp
      have h2 : ((a.ops : Int) == (a.ops : Int)) = true := by simp
      replace hb14 := Lib.hid hb14
      replace hb24 := Lib.hid hb24
      replace hp25 := Lib.hid hp25
      replace hbe := Lib.hid hbe
      replace hrw := Lib.hid hrw
      replace hdw := Lib.hid hdw
      replace hdd := Lib.hid hdd
      go_wp2_with fail
      go_region_held3 (fun y => y.cell? ⟨R, 0, none⟩ = some (.slice la a.n lc) ∧ y.cell? ⟨R, 1, none⟩ = some (.slice pa qs.length pc) ∧ y.cell? ⟨R, 2, none⟩ = some (.int .i64 a.ops))
        (first
          | go_keep
          | exact s1.out
          | exact s2.out)
        ((first
          | (go_at_call 14; ((with_reducible refine hb14.out.mono ?_)); rintro e wx ⟨rfl, rfl⟩)
          | (go_at_call 24; ((with_reducible refine hb24.out.mono ?_)); rintro e wx ⟨rfl, rfl⟩)
          | (go_at_call 25; ((with_reducible refine hp25.out.mono ?_)); rintro e w2 ⟨v', qs', rfl, hpr, hpl, hb2⟩
             have hb2' : Below wo.heap.size wo w2 := ⟨hb2.os, hb2.tape, hb2.output, hb2.size, hb2.block⟩
             have hbe2 := hbe.out.trans (hb2'.mono hbe.out.size)
             have hrw2 := hrW.out _ hbe2
             have s1 := Lib.hid (show w2.cell? ⟨R, 0, none⟩ = some (.slice la a.n lc) ∧ w2.cell? ⟨R, 1, none⟩ = some (.slice pa qs.length pc) ∧ w2.cell? ⟨R, 2, none⟩ = some (.int .i64 a.ops) from
               ⟨(hb2'.cell (p := ⟨R, 0, none⟩) hRl).trans c0, (hb2'.cell (p := ⟨R, 1, none⟩) hRl).trans c1, (hb2'.cell (p := ⟨R, 2, none⟩) hRl).trans c2⟩)
             have hsw := samewrites_true hpr hrw2.prow (by rw [hpl, hrw2.pend]) (by
               have h1 := hrw2.good.few
               have h2 := congrArg List.length hpl
               simp [plain] at h2
               omega)
             replace hsw := Lib.hid hsw
             replace hbe2 := Lib.hid hbe2
             replace hb2' := Lib.hid hb2'
             replace hrw2 := Lib.hid hrw2
             replace hpr := Lib.hid hpr
             replace hpl := Lib.hid hpl
             replace hb2 := Lib.hid hb2)
          | (go_at_call 33; ((with_reducible refine hsw.out.mono ?_)); rintro e w3 ⟨rfl, m, hm⟩
             have s2 := Lib.hid (show w3.cell? ⟨R, 0, none⟩ = some (.slice la a.n lc) ∧ w3.cell? ⟨R, 1, none⟩ = some (.slice pa qs.length pc) ∧ w3.cell? ⟨R, 2, none⟩ = some (.int .i64 a.ops) from by rw [hm]; exact s1.out)
             have hbe3 : Below w.heap.size w w3 := hbe2.out.trans (by rw [hm]; exact (drewN_below _ _).mono hbe2.out.size)
             replace hbe3 := Lib.hid hbe3
             replace hm := Lib.hid hm)))
      all_goals
        go_wp2_with fail
        go_ret
        exact ⟨rfl, hbe3.out⟩

theorem Hold.whole (h : Hold n₀ w0 w l) (i j : Nat) (hi : l[i]? = some (Dk D a)) (hj : l[j]? = some (Rk R a)) (hop : a.ops ≤ 1000000) :
    Calls Try.prog 20 #[.pointer (some ⟨D, 0, none⟩), .pointer (some ⟨R, 0, none⟩)] w fun e w' => e = .returned (.bool true) ∧ Hold n₀ w0 w' l := by
  obtain ⟨S, hd⟩ := h.get i hi
  obtain ⟨S', hr⟩ := h.get j hj
  exact (whole_true hd hr hop).mono fun e w' ⟨he, hb⟩ => ⟨he, h.below hb⟩
theorem Hold.rcopy (h : Hold n₀ w0 w l) (i : Nat) (hi : l[i]? = some (Rk R a)) (hop : a.ops ≤ 1000000) :
    Calls Try.prog 19 #[.pointer (some ⟨R, 0, none⟩)] w fun e w' => ∃ E, e = .returned (.pointer (some ⟨E, 0, none⟩)) ∧ Hold n₀ w0 w' (l ++ [Rk E a]) := by
  obtain ⟨S, hd⟩ := h.get i hi
  refine (RRep.copy hd hop).mono ?_
  rintro e w' ⟨E, he, h1, h2⟩
  exact ⟨E, he, h.add (Rk.thing _ _) h1 h2⟩

set_option maxRecDepth 100000 in
set_option maxHeartbeats 16000000 in
theorem plays_walk (blocks : Int) (v : Value) (os : List OpD) (w : World) (hs : Script w.heap.size w v os) :
    Calls Try.prog 4 #[.int .i64 blocks, v] w fun e w' => e = .returned (.bool true) ∧ Below w.heap.size w w' := by
  by_cases hbad : blocks < 128 ∨ 4096 < blocks
  · obtain ⟨va, vc, rfl⟩ : ∃ va vc, v = .slice va os.length vc := by obtain ⟨x, y, e, _⟩ := hs; exact ⟨x, y, e⟩
    clear hs
    go_enter Try.func4, Try.ntmps4
    go_wp2_with fail
    refine (Hold.awake w).mono ?_; rintro e w1 ⟨rfl, h1⟩
    have hfr := h1.frame
    replace hfr := Lib.hid hfr
    clear h1
    go_wp2_with fail
    refine (new_bad blocks hbad _).mono ?_; rintro e w2 ⟨rfl, rfl⟩
    go_wp2_with fail
    refine (rnew_bad blocks hbad _).mono ?_; rintro e w3 ⟨rfl, rfl⟩
    go_wp2_with fail
    go_ret
    exact ⟨rfl, hfr.out⟩
  · obtain ⟨n, rfl⟩ : ∃ n : Nat, blocks = (n : Int) := ⟨blocks.toNat, by omega⟩
    have hn1 : 128 ≤ n := by omega
    have hn2 : n ≤ 4096 := by omega
    obtain ⟨va, vc, rfl, hll, hcells⟩ := hs
    obtain ⟨m, hm1, hm2, hm3⟩ : ∃ m, m ≤ os.length ∧ m ≤ 2000 ∧ (m = os.length ∨ m = 2000) := by
      by_cases h : os.length ≤ 2000
      · exact ⟨os.length, Nat.le_refl _, h, .inl rfl⟩
      · exact ⟨2000, by omega, Nat.le_refl _, .inr rfl⟩
    replace hcells := Lib.hid hcells
    have hops0 : (newA n).ops = 0 := rfl
    have hq0 : ((0 : Int) != (0 : Int)) = false := by simp
    replace hops0 := Lib.hid hops0
    clear hbad
    go_enter Try.func4, Try.ntmps4
    go_wp2_with fail
    refine (Hold.awake w).mono ?_; rintro e w1 ⟨rfl, h1⟩
    replace h1 := Lib.hid h1
    go_wp2_with fail
    refine (new_ok n hn1 hn2 _).mono ?_; rintro e w2 ⟨D, rfl, hd, hb⟩
    have h2 : Hold w.heap.size w w2 [Dk D (newA n)] := h1.out.add (Dk.thing _ _) hd hb
    replace h2 := Lib.hid h2
    clear h1 hd hb
    go_wp2_with fail
    refine (rnew_ok n hn1 hn2 _).mono ?_; rintro e w3 ⟨R, rfl, hd, hb⟩
    have h3 : Hold w.heap.size w w3 [Dk D (newA n), Rk R (newA n)] := h2.out.add (Rk.thing _ _) hd hb
    replace h3 := Lib.hid h3
    clear h2 hd hb
    go_wp2_with fail
    refine (h3.out.dcopy 0 rfl (by rw [hops0.out]; omega)).mono ?_; rintro e w4 ⟨C, rfl, h4⟩
    have h4 : Hold w.heap.size w w4 [Dk D (newA n), Rk R (newA n)] := h4.take 2
    replace h4 := Lib.hid h4
    clear h3
    go_wp2_with fail
    go_loopw [11] (fun i wr => ∃ k : Nat, k ≤ m ∧ i = .int .i64 k ∧ Hold w.heap.size w wr [Dk D (foldA (newA n) (os.take k)), Rk R (foldA (newA n) (os.take k))]) (fun i _ => m - (intOf i).toNat)
    case atStart => exact ⟨0, Nat.zero_le _, rfl, h4.out⟩
    case round =>
      obtain ⟨k, hk, rfl, h5⟩ := hrel
      have hops := foldA_take_ops (newA n) os k
      rw [hops0.out] at hops
      obtain ⟨a, ha⟩ : ∃ a, foldA (newA n) (os.take k) = a := ⟨_, rfl⟩
      rw [ha] at h5 hops
      have hna : a.n = n := by rw [← ha]; exact (foldA_ops _ _).2
      by_cases hlt : k < m
      · have q1 : k < os.length := by omega
        have q2 : (k : Int) < 2000 := by omega
        obtain ⟨b, off, kv, rfl, hbn, c0, c1, c2, c3, hkp, hkl⟩ := hcells.out k q1
        have hst := fun (W : World) (h : Hold w.heap.size w W [Dk D a, Rk R a]) => step_any h (by omega) os[k] kv hkp hkl
        have hfs := foldA_snoc (newA n) os k q1
        rw [ha] at hfs
        rw [← hfs] at hst
        have hcl := fun (W : World) (h : Hold w.heap.size w W [Dk D a, Rk R a]) =>
          And.intro (And.intro ((h.frame.cell (p := ⟨b, off + k * 4, none⟩) hbn).trans c0) ((h.frame.cell (p := ⟨b, off + k * 4 + 1, none⟩) hbn).trans c1))
            (And.intro ((h.frame.cell (p := ⟨b, off + k * 4 + 2, none⟩) hbn).trans c2) ((h.frame.cell (p := ⟨b, off + k * 4 + 3, none⟩) hbn).trans c3))
        obtain ⟨x0, x1, x2, e0, e1, e2⟩ : ∃ x0 x1 x2, os[k].what = x0 ∧ os[k].blk = x1 ∧ os[k].fill = x2 := ⟨_, _, _, rfl, rfl, rfl⟩
        rw [e0] at hst hcl
        rw [e1] at hst hcl
        rw [e2] at hst hcl
        replace hst := Lib.hid hst
        replace hcl := Lib.hid hcl
        replace hfs := Lib.hid hfs
        replace ha := Lib.hid ha
        replace hna := Lib.hid hna
        clear c0 c1 c2 c3 e0 e1 e2 hkp hkl
        by_cases hmid : (k : Int) = (os.length : Int) / 2
        · have hmb : ((k : Int) == (os.length : Int) / 2) = true := by simpa using hmid
          replace hmid := Lib.hid hmid
          replace h5 := Lib.hid h5
          go_wp2_with fail
          refine (h5.out.dcopy 0 rfl (by omega)).mono ?_; rintro e w5 ⟨C, rfl, h6⟩
          replace h6 : Hold w.heap.size w w5 [Dk D a, Rk R a, Dk C a] := h6
          replace h6 := Lib.hid h6
          clear h5
          go_wp2_with fail
          refine (h6.out.rcopy 1 rfl (by omega)).mono ?_; rintro e w6 ⟨K, rfl, h7⟩
          replace h7 : Hold w.heap.size w w6 [Dk D a, Rk R a, Dk C a, Rk K a] := h7
          replace h7 := Lib.hid h7
          clear h6
          go_wp2_with fail
          refine (h7.out.whole 2 3 rfl rfl (by omega)).mono ?_; rintro e w7 ⟨rfl, h8⟩
          have h8 : Hold w.heap.size w w7 [Dk D a, Rk R a, Dk C a] := h8.take 3
          replace h8 := Lib.hid h8
          clear h7
          go_wp2_with fail
          refine (h8.out.filled 1).mono ?_; rintro e w8 ⟨g, cap, rfl, hcap, h9⟩
          replace h9 : Hold w.heap.size w w8 [Dk D a, Rk R a, Dk C a, Rw (.slice (some ⟨g, 0, none⟩) 256 cap) (fillB (1 % 256))] := h9
          replace h9 := Lib.hid h9
          clear h8
          go_wp2_with fail
          refine (h9.out.dwriteX 2 rfl (by omega) 0 (ad := some ⟨g, 0, none⟩) (len := 256) (cap := cap) (m := 0) (bs := fillB (1 % 256)) (fun _ => by obtain ⟨S, hr⟩ := h9.out.get 3 rfl; exact ⟨hr.1, fillB_length _⟩)).mono ?_
          rintro e wA ⟨rfl, hA⟩
          have hA := hA.take 3
          have hoc := (wstep_ops a 0 256 (fillB (1 % 256))).1
          generalize wstep a 0 256 (fillB (1 % 256)) = c at *
          replace hA : Hold w.heap.size w wA [Dk D a, Rk R a, Dk C c] := hA
          replace hA := Lib.hid hA
          clear h9
          go_wp2_with fail
          refine (hA.out.dflush 2 rfl (by omega)).mono ?_; rintro e wB ⟨rfl, hB⟩
          have hB : Hold w.heap.size w wB [Dk D a, Rk R a] := hB.take 2
          obtain ⟨⟨d0, d1⟩, d2, d3⟩ := hcl.out _ hB
          have hstep := hst.out _ hB
          replace hstep := Lib.hid hstep
          replace hB := Lib.hid hB
          clear hA
          go_wp2_with fail
          refine hstep.out.mono ?_; rintro e wC ⟨rfl, hC⟩
          replace hC := Lib.hid hC
          clear d0 d1 d2 d3
          go_wp2_with fail
          go_roundw
          case rel => exact ⟨k + 1, by omega, by go_num, hC.out⟩
          case measure => simp [intOf]; omega
        · have hmb : ((k : Int) == (os.length : Int) / 2) = false := by simpa using hmid
          replace hmid := Lib.hid hmid
          obtain ⟨⟨d0, d1⟩, d2, d3⟩ := hcl.out _ h5
          have hstep := hst.out _ h5
          replace hstep := Lib.hid hstep
          replace h5 := Lib.hid h5
          go_wp2_with fail
          refine hstep.out.mono ?_; rintro e wC ⟨rfl, hC⟩
          replace hC := Lib.hid hC
          clear d0 d1 d2 d3
          go_wp2_with fail
          go_roundw
          case rel => exact ⟨k + 1, by omega, by go_num, hC.out⟩
          case measure => simp [intOf]; omega
      · obtain rfl : k = m := by omega
        have hwh := h5.whole 0 1 rfl rfl (show a.ops ≤ 1000000 by omega)
        replace hwh := Lib.hid hwh
        replace h5 := Lib.hid h5
        replace ha := Lib.hid ha
        replace hna := Lib.hid hna
        have hkc : (k < os.length ∧ (2000 : Int) ≤ (k : Int)) ∨ k = os.length := by omega
        rcases hkc with ⟨hk1, hk2⟩ | rfl
        all_goals
          go_wp2_with fail
          refine hwh.out.mono ?_; rintro e w6 ⟨rfl, h6⟩
          have hfr := h6.frame
          replace hfr := Lib.hid hfr
          clear h6
          go_wp2_with fail
          go_ret
          exact ⟨rfl, hfr.out⟩
end Go.Proofs.Ytpokfbmgcokkbaa
