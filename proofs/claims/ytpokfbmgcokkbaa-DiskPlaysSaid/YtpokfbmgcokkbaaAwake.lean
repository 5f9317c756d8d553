/- The law's own examples: awake. -/
import Derived.Test.YtpokfbmgcokkbaaPend2
namespace Go.Proofs.Ytpokfbmgcokkbaa
open Go.RowKit Go.Shelf
attribute [local go_sem] Oper.semAt_some

variable {n₀ : Nat} {w0 w w' : World} {D : Nat} {a : AD}

/-- The disk at D lies in blocks from n₀ on; below n₀ the world is as w0 was. -/
structure DI (n₀ : Nat) (w0 w : World) (D : Nat) (a : AD) : Prop where
  rep : DRep (fun b => n₀ ≤ b) w D a
  frame : Below n₀ w0 w
  le : n₀ ≤ w.heap.size

theorem DI.below (h : DI n₀ w0 w D a) (hb : Below w.heap.size w w') : DI n₀ w0 w' D a := ⟨h.rep.below hb, h.frame.trans (hb.mono h.le), Nat.le_trans h.le hb.size⟩
theorem DI.kept {a' : AD} (h : DI n₀ w0 w D a) (hr : DRep (fun b => n₀ ≤ b) w' D a') (hk : Kept (fun b => n₀ ≤ b) w w') : DI n₀ w0 w' D a' :=
  ⟨hr, h.frame.trans (hk.below h.le (fun b hb hn => by omega)), Nat.le_trans h.le hk.size⟩
theorem DI.write (h : DI n₀ w0 w D a) (hop : a.ops ≤ 1000000) (i : Int) (h0 : 0 ≤ i) (h1 : i < a.n) {m : Nat} {bv : Value} {bs : List Int} (hb : Row m w bv bs) (hbl : bs.length = 256) :
    Calls Try.prog 12 #[.pointer (some ⟨D, 0, none⟩), .int .i64 i, bv] w fun e w' => e = .returned (.int .i64 0) ∧ DI n₀ w0 w' D (wrA a i bs) :=
  (h.rep.write_ok hop i h0 h1 hb hbl).mono fun e w' ⟨he, hd, hk⟩ => ⟨he, h.kept (hd.mono fun b _ hb => hb.elim id (fun h2 => Nat.le_trans h.le h2)) hk⟩
theorem DI.flush (h : DI n₀ w0 w D a) (hop : a.ops ≤ 1000000) :
    Calls Try.prog 21 #[.pointer (some ⟨D, 0, none⟩)] w fun e w' => e = .returned (.tuple #[]) ∧ DI n₀ w0 w' D (flA a) :=
  (h.rep.flush hop).mono fun e w' ⟨he, hd, hk⟩ => ⟨he, h.kept hd hk⟩
/-- A crash whose keep was laid behind the disk. -/
theorem DI.crash_later {W : World} (h : DI n₀ w0 w D a) (hop : a.ops ≤ 1000000) (hW : Below w.heap.size w W) {v : Value} {ks : List Bool} (hk : Keeps (fun b => w.heap.size ≤ b ∧ b < W.heap.size) W v ks) :
    Calls Try.prog 23 #[.pointer (some ⟨D, 0, none⟩), v] W fun e w' => e = .returned (.tuple #[]) ∧ DI n₀ w0 w' D (setA a (keepAt ks)) := by
  have h1 : DRep (fun b => n₀ ≤ b ∧ b < w.heap.size) W D a := (h.rep.mono fun b hb hs => ⟨hs, hb⟩).below hW
  exact (h1.crash hop hk fun b hb => ⟨hb.2, fun hs => by omega⟩).mono fun e w' ⟨he, hd, hkp⟩ => ⟨he, (h.below hW).kept (hd.mono fun b _ hb => hb.1) (hkp.mono fun k _ hk => hk.1)⟩

theorem DI.has (h : DI n₀ w0 w D a) (i : Int) {b : Bool} (hb : decide (0 ≤ i ∧ i < (a.n : Int)) = b) : Calls Try.prog 27 #[.pointer (some ⟨D, 0, none⟩), .int .i64 i] w fun e w' => e = .returned (.bool b) ∧ w' = w := hb ▸ h.rep.has i

/-- The row from one on is none of 256 bytes. -/
def exA : AD := setA (wrA (wrA (flA (wrA (newA 128) 3 (fillB 7))) 3 (fillB 8)) 4 (fillB 9)) (keepAt [false, true])
theorem exA_3 : rdA exA 3 = fillB 7 := by rfl
theorem exA_4 : rdA exA 4 = fillB 9 := by rfl
theorem exA_ops : exA.ops = 4 := rfl
theorem exA_pend : exA.pend = [] := rfl
theorem exA_n : exA.n = 128 := rfl

set_option maxRecDepth 100000 in
set_option maxHeartbeats 8000000 in
theorem awake_any (w : World) : Calls Try.prog 9 #[] w fun e w' => e = .returned (.bool true) ∧ Below w.heap.size w w' := by
  go_enter Try.func9, Try.ntmps9
  go_wp2_with fail
  refine (new_ok 128 (by omega) (by omega) w).mono ?_; rintro e w1 ⟨D, rfl, hD1, hb1⟩
  have h1 : DI w.heap.size w w1 D (newA 128) := ⟨hD1, hb1, hb1.size⟩
  replace h1 := Lib.hid h1
  clear hD1 hb1
  go_wp2_with fail
  refine (new_bad 127 (by omega) w1).mono ?_; rintro e w2 ⟨rfl, rfl⟩
  have hb : Calls Try.prog 14 #[.pointer (some ⟨D, 0, none⟩)] w2 fun e w' => e = .returned (.int .i64 128) ∧ w' = w2 := blocks_cell _ _ _ h1.out.rep.cell0
  replace hb := Lib.hid hb
  go_wp2_with (go_at_call 14; refine hb.out.mono ?_; rintro e w2 ⟨rfl, rfl⟩)
  clear hb
  refine (filled_any 7 _).mono ?_; rintro e w3 ⟨v3, rfl, r3, b3⟩
  have h3 := h1.out.below b3
  clear b3
  replace h3 := Lib.hid h3
  replace r3 := Lib.hid r3
  go_wp2_with fail
  refine (h3.out.write (by decide) 3 (by decide) (by decide) r3.out (fillB_length _)).mono ?_; rintro e w4 ⟨rfl, h4⟩
  replace h4 := Lib.hid h4
  clear h3 r3 h1
  go_wp2_with fail
  refine (h4.out.flush (by decide)).mono ?_; rintro e w5 ⟨rfl, h5⟩
  replace h5 := Lib.hid h5
  clear h4
  go_wp2_with fail
  refine (filled_any 8 _).mono ?_; rintro e w6 ⟨v6, rfl, r6, b6⟩
  have h6 := h5.out.below b6
  clear b6 h5
  replace h6 := Lib.hid h6
  replace r6 := Lib.hid r6
  go_wp2_with fail
  refine (h6.out.write (by decide) 3 (by decide) (by decide) r6.out (fillB_length _)).mono ?_; rintro e w7 ⟨rfl, h7⟩
  replace h7 := Lib.hid h7
  clear h6 r6
  go_wp2_with fail
  refine (filled_any 9 _).mono ?_; rintro e w8 ⟨v8, rfl, r8, b8⟩
  have h8 := h7.out.below b8
  clear b8 h7
  replace h8 := Lib.hid h8
  replace r8 := Lib.hid r8
  go_wp2_with fail
  refine (h8.out.write (by decide) 4 (by decide) (by decide) r8.out (fillB_length _)).mono ?_; rintro e w9 ⟨rfl, h9⟩
  replace h9 := Lib.hid h9
  clear h8 r8
  go_wp2_with fail
  refine (filled_any 9 _).mono ?_; rintro e wA ⟨vA, rfl, rA, bA⟩
  have hA := h9.out.below bA
  clear bA h9 rA
  replace hA := Lib.hid hA
  go_wp2_with fail
  refine (write_bad _ _ (-1) _ (hA.out.has (-1) rfl)).mono ?_; rintro e wB ⟨rfl, rfl⟩
  go_wp2_with fail
  refine (filled_any 9 _).mono ?_; rintro e wC ⟨vC, rfl, rC, bC⟩
  have hC := hA.out.below bC
  clear bC hA
  replace hC := Lib.hid hC
  obtain ⟨gC, cC, -, hvC, -, -, -, hcC, -⟩ := rC.shape (by rw [fillB_length]; decide)
  rw [fillB_length] at hvC hcC
  subst hvC
  have hne : ¬ (cC = 1) := by omega
  clear rC
  go_wp2_with fail
  refine (write_len _ _ 0 _ 255 _ (by decide) (hC.out.has 0 rfl)).mono ?_; rintro e wD ⟨rfl, rfl⟩
  have hks : Keeps (fun b => wD.heap.size ≤ b ∧ b < (wD.alloc (.cells #[.bool false, .bool true] 4)).heap.size) (wD.alloc (.cells #[.bool false, .bool true] 4)) (.slice (some ⟨wD.heap.size, 0, none⟩) 2 2) [false, true] := by
    have hn := World.alloc_heap_new wD (.cells #[.bool false, .bool true] 4)
    refine ⟨_, 2, rfl, fun i hi => ⟨wD.heap.size, 0, rfl, ⟨Nat.le_refl _, by simp⟩, ?_⟩⟩
    have : i < 2 := hi
    obtain rfl | rfl : i = 0 ∨ i = 1 := by omega
    · exact (cell_of_row _ _ 0 _ _ _ hn).trans rfl
    · exact (cell_of_row _ _ 1 _ _ _ hn).trans rfl
  replace hks := Lib.hid hks
  go_wp2_with fail
  refine (hC.out.crash_later (by decide) ((Below.refl _ _).alloc (Nat.le_refl _) _) hks.out).mono ?_; rintro e wE ⟨rfl, hE⟩
  have hE : DI w.heap.size w wE D exA := hE
  replace hE := Lib.hid hE
  clear hC hks
  go_wp2_with fail
  refine (hE.out.rep.read_ok 3 (by decide) (by decide)).mono ?_; rintro e wF ⟨vF, rfl, rF, -, bF⟩
  have hF := hE.out.below bF
  rw [exA_3] at rF
  clear bF hE
  replace hF := Lib.hid hF
  replace rF := Lib.hid rF
  go_wp2_with fail
  refine (hF.out.rep.read_ok 4 (by decide) (by decide)).mono ?_; rintro e wG ⟨vG, rfl, rG, -, bG⟩
  have hG := hF.out.below bG
  have rF2 := rF.out.below bG
  rw [exA_4] at rG
  clear bG hF rF
  replace hG := Lib.hid hG
  replace rG := Lib.hid rG
  replace rF2 := Lib.hid rF2
  go_wp2_with fail
  refine (read_bad _ _ 128 (hG.out.has 128 rfl)).mono ?_; rintro e wH ⟨rfl, rfl⟩
  go_wp2_with fail
  refine (filled_any 7 _).mono ?_; rintro e wI ⟨vI, rfl, rI, bI⟩
  have hI := hG.out.below bI
  have hsI := same_any ((rF2.out.below bI).bts) rI.bts (by rw [fillB_length]; decide)
  rw [show (fillB 7 == fillB (7 % 256)) = true from beq_self_eq_true _] at hsI
  have rG2 := rG.out.below bI
  clear bI hG rG rF2 rI
  replace hI := Lib.hid hI
  replace hsI := Lib.hid hsI
  replace rG2 := Lib.hid rG2
  go_wp2_with fail
  refine hsI.out.mono ?_; rintro e wJ ⟨rfl, mJ, hJ⟩
  have hbJ : Below wI.heap.size wI wJ := by rw [hJ]; exact drewN_below _ _
  have hJ2 := hI.out.below hbJ
  have rG3 := rG2.out.below hbJ
  clear hJ hbJ hI hsI rG2
  replace hJ2 := Lib.hid hJ2
  replace rG3 := Lib.hid rG3
  go_wp2_with fail
  refine (filled_any 9 _).mono ?_; rintro e wK ⟨vK, rfl, rK, bK⟩
  have hK := hJ2.out.below bK
  have hsK := same_any ((rG3.out.below bK).bts) rK.bts (by rw [fillB_length]; decide)
  rw [show (fillB 9 == fillB (9 % 256)) = true from beq_self_eq_true _] at hsK
  clear bK hJ2 rG3 rK
  replace hK := Lib.hid hK
  replace hsK := Lib.hid hsK
  go_wp2_with fail
  refine hsK.out.mono ?_; rintro e wL ⟨rfl, mL, hL⟩
  have hbL : Below wK.heap.size wK wL := by rw [hL]; exact drewN_below _ _
  have hL2 := hK.out.below hbL
  clear hL hbL hK hsK
  have hops : Calls Try.prog 24 #[.pointer (some ⟨D, 0, none⟩)] wL fun e w' => e = .returned (.int .i64 4) ∧ w' = wL := ops_cell _ _ _ hL2.rep.cell4
  have hpd := hL2.rep.pending (by decide)
  replace hL2 := Lib.hid hL2
  replace hops := Lib.hid hops
  replace hpd := Lib.hid hpd
  go_wp2_with fail
  refine hops.out.mono ?_; rintro e wM ⟨rfl, rfl⟩
  go_wp2_with fail
  refine hpd.out.mono ?_; rintro e wN ⟨vN, qs, rfl, hpr, hpl, hbN⟩
  have hq0 : qs.length = 0 := by
    have h1 : (plain qs).length = exA.pend.length := by rw [hpl]
    have h2 : (plain qs).length = qs.length := List.length_map _
    rw [← h2, h1]
    rfl
  obtain ⟨aN, cN, rfl⟩ := hpr.shape
  rw [hq0]
  have hfin := (hL2.out.below hbN).frame
  clear hpr hpl hbN hpd hops hL2 hq0
  replace hfin := Lib.hid hfin
  go_wp2_with fail
  go_ret
  exact ⟨rfl, hfin.out⟩
end Go.Proofs.Ytpokfbmgcokkbaa
