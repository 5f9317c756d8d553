/- LocksPlays returns true: the walk. -/
import Derived.Test.YthnffhhbdihalaaSame
import Derived.Deep.DeepCutAuto
import Derived.Deep.CutBlock
import Derived.Deep.RegionHeld3
namespace Go.Proofs.Ythnffhhbdihalaa
open Go.RowKit Go.Shelf

variable {Pr : Nat → Prop} {w0 w : World} {T Rb : Nat} {R : Int → List Clm} {l : List RC} {n₀ : Nat}

theorem bits_three (x : Int) : bits BinOp.and IntKind.i64 x 3 = 0 ∨ bits BinOp.and IntKind.i64 x 3 = 1 ∨ bits BinOp.and IntKind.i64 x 3 = 2 ∨ bits BinOp.and IntKind.i64 x 3 = 3 := by
  have : 0 ≤ bits BinOp.and IntKind.i64 x 3 ∧ bits BinOp.and IntKind.i64 x 3 ≤ 3 := bits_and_le x 3 (by omega)
  omega

theorem TabI.both (h : TabI n₀ w0 w T (fun _ => [])) (h0 : n₀ ≤ w0.heap.size) : Both (fun b => b < n₀) w0 (w.alloc (.cells #[.slice none 0 0] 29)) T w.heap.size (keyRow []) [] := by
  have hsz := h.size
  obtain ⟨S, M, f, ht, hs, hb⟩ := h
  refine ⟨S, M, f, .slice none 0 0, ht.below ((Below.refl _ _).alloc (Nat.le_refl _) _), ⟨World.alloc_heap_new _ _, World.ownsRow_nil _ _ _ _⟩, fun b hb' => ⟨?_, ?_, by simp [Value.ownBlock]⟩, by omega, fun b hb' => by simp [Value.ownBlock] at hb', ⟨fun b hb' => ?_, hb.os, hb.tape, hb.output, ?_, fun b hb' => ?_⟩⟩
  · have := hs b hb'; omega
  · have := ht.lt b hb'; omega
  · have hb'' : b < n₀ := hb'
    omega
  · simp; have := hb.size; omega
  · exact (Below.heap_alloc _ _ _ (by omega)).trans (hb.block b hb')

/-- The operation's own block is laid. -/
theorem Both.box (h : Both (fun b => b < n₀) w0 w T Rb R l) (hn : n₀ ≤ w.heap.size) (o : Obj) : Both (fun b => b < n₀ ∨ b = w.heap.size) (w.alloc o) (w.alloc o) T Rb R l := by
  obtain ⟨S, M, f, v, ht, hr, h1, h2, h3, hf⟩ := h
  refine ⟨S, M, f, v, ht.below ((Below.refl _ _).alloc (Nat.le_refl _) _), hr.below ((Below.refl _ _).alloc (Nat.le_refl _) _), fun b hb => ⟨?_, (h1 b hb).2⟩, ?_, fun b hb => ?_, ⟨fun b hb => ?_, rfl, rfl, rfl, Nat.le_refl _, fun _ _ => rfl⟩⟩
  · rintro (hp | hp)
    · exact (h1 b hb).1 hp
    · have := ht.lt b hb; omega
  · rintro (hp | hp)
    · exact h2 hp
    · have := hr.lt; omega
  · rintro (hp | hp)
    · exact h3 b hb hp
    · have := hr.blk hb; omega
  · rw [World.size_alloc]; omega

/-- The operation's own block reads as it was laid. -/
theorem Both.boxcell {wo wx : World} {cs : Array Value} {t : TypeId} (h : Both (fun b => b < n₀ ∨ b = wo.heap.size) (wo.alloc (.cells cs t)) wx T Rb R l) (i : Nat) : wx.cell? ⟨wo.heap.size, i, none⟩ = cs[i]? := by
  have := (h.fr.same _ (.inr rfl)).trans (World.alloc_heap_new _ _)
  simp [World.cell?, this]

set_option maxRecDepth 100000 in
set_option maxHeartbeats 8000000 in
theorem plays_walk (v : Value) (os : List OpD) (w : World) (hs : Script w.heap.size w v os) :
    Calls Try.prog 3 #[v] w fun e w' => e = .returned (.bool true) ∧ Below w.heap.size w w' := by
  obtain ⟨ad, cap, rfl, hlen, hcells⟩ := hs
  obtain ⟨m, hm1, hm2, hm3⟩ : ∃ m, m ≤ os.length ∧ m ≤ 3000 ∧ (m = os.length ∨ m = 3000) := by
    by_cases h : os.length ≤ 3000
    · exact ⟨os.length, Nat.le_refl _, h, .inl rfl⟩
    · exact ⟨3000, by omega, Nat.le_refl _, .inr rfl⟩
  go_enter Try.func3, Try.ntmps3
  go_wp2_with fail
  refine (awake_any _).mono ?_; rintro e w1 ⟨rfl, b1⟩
  go_wp2_with fail
  refine (new_I _).mono ?_; rintro e w2 ⟨rfl, t2⟩
  have t2' := (t2.rebase b1 b1.size).both (Nat.le_refl _)
  clear t2
  generalize w1.heap.size + 1 = T at *
  go_wp2_with fail
  obtain ⟨Rb, hRb⟩ : ∃ Rb, w2.heap.size = Rb := ⟨_, rfl⟩
  rw [hRb] at t2' ⊢
  go_loopw [6] (fun i wr => ∃ k : Nat, k ≤ m ∧ i = .int .i64 k ∧ ∃ l, l.length ≤ k ∧ Both (fun b => b < w.heap.size) w wr T Rb (keyRow l) l) (fun i _ => m - (intOf i).toNat)
  case atStart => exact ⟨0, Nat.zero_le _, rfl, [], Nat.le_refl _, t2'⟩
  case round =>
    obtain ⟨k, hk, rfl, l, hl, hR⟩ := hrel
    obtain ⟨wo, rfl⟩ : ∃ wo : World, wo = wr := ⟨_, rfl⟩
    by_cases hlt : k < m
    · obtain ⟨b, off, rfl, hb, c0, c1, c2, c3⟩ := hcells k (by omega)
      obtain ⟨what, th, key, al, e0, e1, e2, e3⟩ : ∃ what th key al, (os[k]'(by omega)).what = what ∧ (os[k]'(by omega)).th = th ∧ (os[k]'(by omega)).key = key ∧ (os[k]'(by omega)).al = al := ⟨_, _, _, _, rfl, rfl, rfl, rfl⟩
      rw [e0] at c0; rw [e1] at c1; rw [e2] at c2; rw [e3] at c3
      have q1 : k < os.length := by omega
      have q2 : (k : Int) < 3000 := by omega
      have hfr := hR.fr.toBelow (n₀ := w.heap.size) (fun b hb => hb)
      have hsz := hfr.size
      have d0 : wo.cell? ⟨b, off + k * 4, none⟩ = some (.int .i64 what) := (hfr.cell (p := ⟨b, _, none⟩) hb).trans c0
      have d1 : wo.cell? ⟨b, off + k * 4 + 1, none⟩ = some (.int .i64 th) := (hfr.cell (p := ⟨b, _, none⟩) hb).trans c1
      have d2 : wo.cell? ⟨b, off + k * 4 + 2, none⟩ = some (.int .i64 key) := (hfr.cell (p := ⟨b, _, none⟩) hb).trans c2
      have d3 : wo.cell? ⟨b, off + k * 4 + 3, none⟩ = some (.bool al) := (hfr.cell (p := ⟨b, _, none⟩) hb).trans c3
      have hblt : b < wo.heap.size := by omega
      clear c0 c1 c2 c3 e0 e1 e2 e3 hcells
      replace hR := Lib.hid hR
      replace hfr := Lib.hid hfr
      obtain ⟨ob, hob⟩ : ∃ ob, ob = Obj.cells #[.int .i64 what, .int .i64 th, .int .i64 key, .bool al] 31 (0, 0) := ⟨_, rfl⟩
      have hK := (hR.out.box hsz ob).below (w' := (wo.alloc ob).drew) ⟨rfl, rfl, rfl, Nat.le_refl _, fun _ _ => rfl⟩
      have hK0 := hR.out.box hsz ob
      obtain ⟨bw, hbw⟩ : ∃ bw, bits BinOp.and IntKind.i64 what 3 = bw := ⟨_, rfl⟩
      have hbw' := bits_three what
      rw [hbw] at hbw'
      have hfr2 := hR.out.fr.below (w' := wo.alloc ob) ((Below.refl _ _).alloc (Nat.le_refl _) _)
      replace hfr2 := Lib.hid hfr2
      subst hob
      replace hK := Lib.hid hK
      replace hK0 := Lib.hid hK0
      have hl3 : l.length ≤ 100000 := by omega
      go_upto_block 2 with fail
      clear d0 d1 d2 d3
      go_cut [8] (fun ok wx => ok = .bool true ∧ ∃ l', l'.length ≤ k + 1 ∧ Both (fun b => b < w.heap.size ∨ b = wo.heap.size) (wo.alloc (.cells #[.int .i64 what, .int .i64 th, .int .i64 key, .bool al] 31)) wx T Rb (keyRow l') l')
      case first =>
        rcases hbw' with rfl | rfl | rfl | rfl
        · go_wp2_with fail
          go_region_held3 (fun x => x.cell? ⟨wo.heap.size, 1, none⟩ = some (.int .i64 th) ∧ x.cell? ⟨wo.heap.size, 2, none⟩ = some (.int .i64 key) ∧ x.cell? ⟨wo.heap.size, 3, none⟩ = some (.bool al))
            (first
              | exact ⟨hb1.out, hb2.out, hb3.out⟩
              | exact ⟨ha1.out, ha2.out, ha3.out⟩
              | go_keep)
            (first
              | (go_at_call 12; refine (hK.out.ask th key al).mono ?_; rintro e wa ⟨rfl, hKa⟩; have ha1 := Lib.hid (hKa.boxcell 1); have ha2 := Lib.hid (hKa.boxcell 2); have ha3 := Lib.hid (hKa.boxcell 3); replace hKa := Lib.hid hKa)
              | (go_at_call 13; refine (hKa.out.rask hl3 th key al).mono ?_; rintro e wb ⟨rfl, hKb⟩; have hb1 := Lib.hid (hKb.boxcell 1); have hb2 := Lib.hid (hKb.boxcell 2); have hb3 := Lib.hid (hKb.boxcell 3); replace hKb := Lib.hid hKb))
          go_wp2_with fail
          go_meet
          exact ⟨by simp, _, Nat.le_trans (askL_length l th key al) (by omega), by rw [askL_row]; exact hKb.out⟩
        · go_wp2_with fail
          go_region_held3 (fun x => x.cell? ⟨wo.heap.size, 1, none⟩ = some (.int .i64 th) ∧ x.cell? ⟨wo.heap.size, 2, none⟩ = some (.int .i64 key) ∧ x.cell? ⟨wo.heap.size, 3, none⟩ = some (.bool al))
            (first
              | exact ⟨hb1.out, hb2.out, hb3.out⟩
              | exact ⟨ha1.out, ha2.out, ha3.out⟩
              | go_keep)
            (first
              | (go_at_call 12; refine (hK.out.ask th key al).mono ?_; rintro e wa ⟨rfl, hKa⟩; have ha1 := Lib.hid (hKa.boxcell 1); have ha2 := Lib.hid (hKa.boxcell 2); have ha3 := Lib.hid (hKa.boxcell 3); replace hKa := Lib.hid hKa)
              | (go_at_call 13; refine (hKa.out.rask hl3 th key al).mono ?_; rintro e wb ⟨rfl, hKb⟩; have hb1 := Lib.hid (hKb.boxcell 1); have hb2 := Lib.hid (hKb.boxcell 2); have hb3 := Lib.hid (hKb.boxcell 3); replace hKb := Lib.hid hKb))
          go_wp2_with fail
          go_meet
          exact ⟨by simp, _, Nat.le_trans (askL_length l th key al) (by omega), by rw [askL_row]; exact hKb.out⟩
        · go_wp2_with fail
          go_region_held3 (fun x => x.cell? ⟨wo.heap.size, 1, none⟩ = some (.int .i64 th) ∧ x.cell? ⟨wo.heap.size, 2, none⟩ = some (.int .i64 key))
            (first
              | exact ⟨hb1.out, hb2.out⟩
              | exact ⟨ha1.out, ha2.out⟩
              | go_keep)
            (first
              | (go_at_call 14; refine (hK.out.leave th key).mono ?_; rintro e wa ⟨rfl, hKa⟩; have ha1 := Lib.hid (hKa.boxcell 1); have ha2 := Lib.hid (hKa.boxcell 2); have ha3 := Lib.hid (hKa.boxcell 3); replace hKa := Lib.hid hKa)
              | (go_at_call 15; refine (hKa.out.rleave hl3 th key).mono ?_; rintro e wb ⟨rfl, l', hKb, hrw, hln⟩; replace hrw := Lib.hid hrw; have hb1 := Lib.hid (hKb.boxcell 1); have hb2 := Lib.hid (hKb.boxcell 2); have hb3 := Lib.hid (hKb.boxcell 3); replace hKb := Lib.hid hKb))
          go_wp2_with fail
          go_meet
          exact ⟨by simp, l', by omega, by rw [hrw.out]; exact hKb.out⟩
        · go_wp2_with fail
          go_region_held3 (fun x => x.cell? ⟨wo.heap.size, 1, none⟩ = some (.int .i64 th) ∧ x.cell? ⟨wo.heap.size, 2, none⟩ = some (.int .i64 key))
            (first
              | exact ⟨hb1.out, hb2.out⟩
              | exact ⟨ha1.out, ha2.out⟩
              | go_keep)
            (first
              | (go_at_call 16; refine (hK.out.holds th key).mono ?_; rintro e wa ⟨rfl, hKa⟩; have ha1 := Lib.hid (hKa.boxcell 1); have ha2 := Lib.hid (hKa.boxcell 2); have ha3 := Lib.hid (hKa.boxcell 3); replace hKa := Lib.hid hKa)
              | (go_at_call 17; refine (hKa.out.rholds hl3 th key).mono ?_; rintro e wb ⟨rfl, hKb⟩; subst hKb; have hKb := hKa.out; have hb1 := Lib.hid (hKb.boxcell 1); have hb2 := Lib.hid (hKb.boxcell 2); have hb3 := Lib.hid (hKb.boxcell 3); replace hKb := Lib.hid hKb))
          go_wp2_with fail
          go_meet
          exact ⟨by simp, l, by omega, hKb.out⟩
      case rest =>
        obtain ⟨rfl, l', hl', hB⟩ := hcut
        have b2 := hB.boxcell 2
        simp at b2
        have hsm := hB.small key
        replace hK := hB
        replace hK := Lib.hid hK
        replace hB := Lib.hid hB
        go_wp2_with fail
        refine (hB.out.claims key).mono ?_
        rintro e wd ⟨cv, rfl, hc, hin, hBd, hBx, hbel⟩
        obtain ⟨ad1, cap1, rfl, hx⟩ := hc
        obtain ⟨N, hN⟩ : ∃ N, (keyRow l' key).length = N := ⟨_, rfl⟩
        rw [hN] at hsm hBx hx hin ⊢
        have hblk : N ≠ 0 → ∃ g cur, ad1 = some ⟨g, 0, none⟩ ∧ wd.heap[g]? = some (.cells cur 39 (0, 0)) ∧ N * 3 ≤ cur.size := by
          intro h0
          obtain ⟨g, hg, cur, hgb, _, _, hlast⟩ := hx (N - 1) (by omega)
          refine ⟨g, cur, hg, hgb, ?_⟩
          simp [World.cell?, hgb] at hlast
          obtain ⟨hlast, _⟩ := Array.getElem?_eq_some_iff.1 hlast
          omega
        have hfd := hBd.fr
        have hgn : ∀ b, inBlock (.slice ad1 N cap1) b → ¬ (b < w.heap.size ∨ b = wo.heap.size) := fun b hb => by
          have := hin b hb
          have h1 := hB.out.fr.size
          rw [World.size_alloc] at h1
          omega
        replace hgn := Lib.hid hgn
        clear hx hbel hBd hin
        replace hfd := Lib.hid hfd
        replace hN := Lib.hid hN
        go_wp2_with fail
        go_loopw [10] (fun i wr => ∃ j : Nat, j ≤ N ∧ i = .int .i64 j ∧ Both (fun b => (b < w.heap.size ∨ b = wo.heap.size) ∨ inBlock (.slice ad1 N cap1) b) wr wr T Rb (keyRow l') l' ∧ Fr (fun b => b < w.heap.size ∨ b = wo.heap.size) (wo.alloc (.cells #[.int .i64 what, .int .i64 th, .int .i64 key, .bool al] 31)) wr ∧ (N ≠ 0 → ∃ g cur, ad1 = some ⟨g, 0, none⟩ ∧ wr.heap[g]? = some (.cells cur 39 (0, 0)) ∧ N * 3 ≤ cur.size)) (fun i _ => N - (intOf i).toNat)
        case atStart => exact ⟨0, Nat.zero_le _, rfl, hBx, hfd.out, hblk⟩
        case round =>
          obtain ⟨j, hj, rfl, hC, hF, hblk⟩ := hrel
          obtain ⟨wi, rfl⟩ : ∃ wi : World, wi = wr := ⟨_, rfl⟩
          by_cases hjl : j < N
          · obtain ⟨g, cur, rfl, hgb, hgs⟩ := hblk (by omega)
            have z0 : wi.cell? ⟨g, j * 3, none⟩ = some cur[j * 3] := by simp [World.cell?, hgb]
            have z1 : wi.cell? ⟨g, j * 3 + 1, none⟩ = some cur[j * 3 + 1] := by simp [World.cell?, hgb]
            have z2 : wi.cell? ⟨g, j * 3 + 2, none⟩ = some cur[j * 3 + 2] := by simp [World.cell?, hgb]
            have y0 : ∀ i, wi.frozen? ⟨g, i, none⟩ = false := fun i => by simp [World.frozen?, hgb]
            have y1 := y0 (j * 3)
            have y2 := y0 (j * 3 + 1)
            have y3 := y0 (j * 3 + 2)
            replace hC := Lib.hid hC
            replace hF := Lib.hid hF
            clear hblk
            replace hgb := Lib.hid hgb
            go_wp2_with fail
            obtain ⟨cur1, a1, a2, -, -⟩ := setCells_block g [.int .i64 (-7), .bool false, .bool false] (j * 3) wi cur 39 (0, 0) hgb.out
            have hkp : Kept (fun b => b = g) wi (wi.setCells g (j * 3) [.int .i64 (-7), .bool false, .bool false]) :=
              (((Kept.refl (fun b => b = g) wi).setCell (p := ⟨g, j * 3, none⟩) (fun _ => rfl) _).setCell (p := ⟨g, j * 3 + 1, none⟩) (fun _ => rfl) _).setCell (p := ⟨g, j * 3 + 2, none⟩) (fun _ => rfl) _
            have hng : ¬ (g < w.heap.size ∨ g = wo.heap.size) := hgn.out g rfl
            have hC' := hC.out.poke (.inr rfl) hkp
            have hF' := hF.out.kept hkp (fun b hb => by rw [hb]; exact hng)
            go_roundw
            case rel => exact ⟨j + 1, by omega, by go_num, hC', hF', fun _ => ⟨g, cur1, rfl, a1, by omega⟩⟩
            case measure => simp [intOf]; omega
          · obtain rfl : j = N := by omega
            have hfin := hC.back hF (fun b hb => .inl hb)
            have c2 := hfin.boxcell 2
            simp at c2
            obtain ⟨rv, hrc, ra, rcap, rfl, -⟩ := hfin.row
            have hD := hfin.below (w' := wi.drew) ⟨rfl, rfl, rfl, Nat.le_refl _, fun _ _ => rfl⟩
            have hRlt : Rb < wi.heap.size := by obtain ⟨S, M, f, v, ht, hr, _⟩ := hfin; exact hr.lt
            have hrd := Lib.hid (show wi.drew.cell? ⟨Rb, 0, none⟩ = _ from hrc)
            have hl3' : l'.length ≤ 100000 := by omega
            replace hD := Lib.hid hD
            clear hblk hC hF hfin
            go_wp2_with fail
            go_region_held3 (fun x => x.cell? ⟨wo.heap.size, 2, none⟩ = some (.int .i64 key) ∧ x.cell? ⟨Rb, 0, none⟩ = some (.slice ra l'.length rcap))
              (first
                | exact ⟨hs1.out, hs2.out⟩
                | go_keep)
              (first
                | (go_at_call 19; refine (same_any hD.out hl3' key).mono ?_; rintro e ws ⟨rfl, hsb⟩; have hE := hD.out.below hsb; have hs1 := Lib.hid (hE.boxcell 2); have hs2 := Lib.hid ((hsb.cell (p := ⟨Rb, 0, none⟩) hRlt).trans hrd.out); have hE := Lib.hid hE)
                | (go_at_call 20; refine hE.out.free.mono ?_; rintro e wf ⟨rfl, hwf⟩; subst hwf))
            have hE' := hE.out.back (hfr2.out) (fun b hb => .inl hb)
            replace hE' := Lib.hid hE'
            go_wp2_with fail
            go_roundw
            case rel => exact ⟨k + 1, by omega, by go_num, l', by omega, hE'.out⟩
            case measure => simp [intOf]; omega
    · have hkm : m = k := by omega
      subst hkm
      clear hlt hk hcells
      have hfr := hR.fr.toBelow (n₀ := w.heap.size) (fun b hb => hb)
      have hcases : (m < os.length ∧ (3000 : Int) ≤ m) ∨ os.length ≤ m := by omega
      rcases hcases with ⟨hq1, hq2⟩ | hq
      all_goals
        go_wp2_with fail
        go_ret
        exact ⟨rfl, hfr⟩
end Go.Proofs.Ythnffhhbdihalaa
