/- DiskCopies and DiskLoses return true: the walks. -/
import Derived.Test.YtpokfbmgcokkbaaCopy
namespace Go.Proofs.Ytpokfbmgcokkbaa
open Go.RowKit Go.Shelf
attribute [local go_sem] Oper.semAt_some

variable {n₀ : Nat} {w0 w w' : World} {l : List Th} {D E R : Nat} {a b : AD}

theorem Hold.dcopy (h : Hold n₀ w0 w l) (i : Nat) (hi : l[i]? = some (Dk D a)) (hop : a.ops ≤ 1000000) :
    Calls Try.prog 18 #[.pointer (some ⟨D, 0, none⟩)] w fun e w' => ∃ E, e = .returned (.pointer (some ⟨E, 0, none⟩)) ∧ Hold n₀ w0 w' (l ++ [Dk E a]) := by
  obtain ⟨S, hd⟩ := h.get i hi
  refine (DRep.copy hd hop).mono ?_
  rintro e w' ⟨E, he, h1, h2⟩
  exact ⟨E, he, h.add (Dk.thing _ _) h1 h2⟩
theorem Hold.alike (h : Hold n₀ w0 w l) (i j : Nat) (hi : l[i]? = some (Dk D a)) (hj : l[j]? = some (Dk E b)) (hn : a.n = b.n) (hr : ∀ i : Nat, i < a.n → rdA a i = rdA b i) :
    Calls Try.prog 26 #[.pointer (some ⟨D, 0, none⟩), .pointer (some ⟨E, 0, none⟩)] w fun e w' => e = .returned (.bool true) ∧ Hold n₀ w0 w' l := by
  obtain ⟨S, hd⟩ := h.get i hi
  obtain ⟨S', hd'⟩ := h.get j hj
  exact (alike_true hd hd' hn hr).mono fun e w' ⟨he, hb⟩ => ⟨he, h.below hb⟩
theorem Hold.pendlen (h : Hold n₀ w0 w l) (i : Nat) (hi : l[i]? = some (Dk D a)) (hop : a.ops ≤ 1000000) :
    Calls Try.prog 25 #[.pointer (some ⟨D, 0, none⟩)] w fun e w' => ∃ ad cap, e = .returned (.slice ad a.pend.length cap) ∧ Hold n₀ w0 w' l := by
  obtain ⟨S, hd⟩ := h.get i hi
  refine (DRep.pending hd hop).mono ?_
  rintro e w' ⟨v, qs, he, h1, h2, h3⟩
  obtain ⟨ad, cap, rfl⟩ := h1.shape
  have hl : qs.length = a.pend.length := by rw [← h2]; simp [plain]
  rw [hl] at he
  exact ⟨ad, cap, he, h.below h3⟩

theorem setTo_none (a : AD) (st : Nat → Bool) (h : ∀ k, st k = false) (n : Nat) : setTo a st n = a.done := setTo_same a st 0 n (Nat.zero_le _) fun j _ _ => h j
theorem keepAt_nil (k : Nat) : keepAt [] k = false := rfl
theorem rd_crash_nil (a : AD) (i : Int) : rdA (setA a (keepAt [])) i = a.done i := by
  show (lastB [] i).getD (setTo a (keepAt []) a.pend.length i) = _
  rw [setTo_none a _ keepAt_nil]
  rfl
theorem rd_fl (a : AD) (i : Int) : rdA (flA a) i = (flA a).done i := rfl
theorem keeps_nil (Q : Nat → Prop) (w : World) : Keeps Q w (.slice none 0 0) [] := ⟨none, 0, rfl, fun i hi => by simp at hi⟩

set_option maxRecDepth 100000 in
set_option maxHeartbeats 8000000 in
theorem copies_walk (blocks n fill : Int) (v : Value) (os : List OpD) (w : World) (hs : Script w.heap.size w v os) :
    Calls Try.prog 8 #[.int .i64 blocks, v, .int .i64 n, .int .i64 fill] w fun e w' => e = .returned (.bool true) ∧ Below w.heap.size w w' := by
  obtain ⟨hn1, hn2, ho⟩ := made_facts blocks os
  replace hs := Lib.hid hs
  obtain ⟨va, vc, rfl⟩ : ∃ va vc, v = .slice va os.length vc := by obtain ⟨x, y, e, _⟩ := hs.out; exact ⟨x, y, e⟩
  obtain ⟨a, ha⟩ : ∃ a, madeA blocks os = a := ⟨_, rfl⟩
  rw [ha] at hn1 hn2 ho
  replace ha := Lib.hid ha
  go_enter Try.func8, Try.ntmps8
  go_wp2_with fail
  refine (Hold.awake w).mono ?_; rintro e w1 ⟨rfl, h1⟩
  replace h1 := Lib.hid h1
  go_wp2_with fail
  refine (h1.out.made blocks hs.out).mono ?_; rintro e w2 ⟨D, rfl, h2⟩
  rw [ha.out] at h2
  replace h2 : Hold w.heap.size w w2 [Dk D a] := h2
  replace h2 := Lib.hid h2
  clear h1
  go_wp2_with fail
  refine (h2.out.dcopy 0 rfl (by omega)).mono ?_; rintro e w3 ⟨C, rfl, h3⟩
  replace h3 : Hold w.heap.size w w3 [Dk D a, Dk C a] := h3
  replace h3 := Lib.hid h3
  clear h2
  go_wp2_with fail
  refine (h3.out.dcopy 0 rfl (by omega)).mono ?_; rintro e w4 ⟨K, rfl, h4⟩
  replace h4 : Hold w.heap.size w w4 [Dk D a, Dk C a, Dk K a] := h4
  replace h4 := Lib.hid h4
  clear h3
  go_wp2_with fail
  refine (h4.out.filled fill).mono ?_; rintro e w5 ⟨g, cap, rfl, hcap, h5⟩
  replace h5 : Hold w.heap.size w w5 [Dk D a, Dk C a, Dk K a, Rw (.slice (some ⟨g, 0, none⟩) 256 cap) (fillB (fill % 256))] := h5
  replace h5 := Lib.hid h5
  clear h4
  go_wp2_with fail
  refine (h5.out.dwriteX 1 rfl (by omega) n (ad := some ⟨g, 0, none⟩) (len := 256) (cap := cap) (m := 0) (bs := fillB (fill % 256)) (fun _ => by obtain ⟨S, hr⟩ := h5.out.get 3 rfl; exact ⟨hr.1, fillB_length _⟩)).mono ?_
  rintro e w6 ⟨rfl, h6⟩
  have h6 := h6.take 3
  have hops := (wstep_ops a n 256 (fillB (fill % 256))).1
  generalize wstep a n 256 (fillB (fill % 256)) = c at *
  replace h6 : Hold w.heap.size w w6 [Dk D a, Dk C c, Dk K a] := h6
  replace h6 := Lib.hid h6
  clear h5
  go_wp2_with fail
  refine (h6.out.dflush 1 rfl (by omega)).mono ?_; rintro e w7 ⟨rfl, h7⟩
  replace h7 : Hold w.heap.size w w7 [Dk D a, Dk C (flA c), Dk K a] := h7
  replace h7 := Lib.hid h7
  clear h6
  go_wp2_with fail
  refine (h7.out.alike 0 2 rfl rfl rfl (fun _ _ => rfl)).mono ?_; rintro e w8 ⟨rfl, h8⟩
  replace h8 := Lib.hid h8
  clear h7
  go_wp2_with fail
  refine (h8.out.pendlen 0 rfl (by omega)).mono ?_; rintro e w9 ⟨q1, q2, rfl, h9⟩
  replace h9 := Lib.hid h9
  clear h8
  go_wp2_with fail
  refine (h9.out.pendlen 2 rfl (by omega)).mono ?_; rintro e wA ⟨q3, q4, rfl, hA⟩
  have hoD := hA.opsD 0 rfl
  have hoK := hA.opsD 2 rfl
  have hq : ((a.pend.length : Int) == (a.pend.length : Int)) = true := by simp
  replace hA := Lib.hid hA
  replace hoD := Lib.hid hoD
  replace hoK := Lib.hid hoK
  clear h9
  go_wp2_with fail
  refine hoD.out.mono ?_; rintro e wB ⟨rfl, rfl⟩
  go_wp2_with fail
  refine hoK.out.mono ?_; rintro e wC ⟨rfl, rfl⟩
  have hq2 : ((a.ops : Int) == (a.ops : Int)) = true := by simp
  clear hoD hoK
  go_wp2_with fail
  refine (hA.out.dcrash 0 rfl (by omega) (keeps_nil _ _)).mono ?_; rintro e wD ⟨rfl, hD⟩
  have hopc : (setA a (keepAt [])).ops ≤ 1000000 := by show a.ops ≤ _; omega
  replace hD : Hold w.heap.size w wD [Dk D (setA a (keepAt [])), Dk C (flA c), Dk K a] := hD
  replace hD := Lib.hid hD
  clear hA
  go_wp2_with fail
  refine (hD.out.dflush 0 rfl hopc).mono ?_; rintro e wE ⟨rfl, hE⟩
  replace hE : Hold w.heap.size w wE [Dk D (flA (setA a (keepAt []))), Dk C (flA c), Dk K a] := hE
  replace hE := Lib.hid hE
  clear hD
  go_wp2_with fail
  refine (hE.out.pendlen 2 rfl (by omega)).mono ?_; rintro e wF ⟨q5, q6, rfl, hF⟩
  replace hF := Lib.hid hF
  clear hE
  go_wp2_with fail
  refine (hF.out.made blocks hs.out).mono ?_; rintro e wG ⟨D2, rfl, hG⟩
  rw [ha.out] at hG
  replace hG : Hold w.heap.size w wG [Dk D (flA (setA a (keepAt []))), Dk C (flA c), Dk K a, Dk D2 a] := hG
  replace hG := Lib.hid hG
  clear hF
  go_wp2_with fail
  refine (hG.out.pendlen 3 rfl (by omega)).mono ?_; rintro e wH ⟨q7, q8, rfl, hH⟩
  have hfr := hH.frame
  replace hfr := Lib.hid hfr
  clear hG hH
  go_wp2_with fail
  go_ret
  exact ⟨by simp, hfr.out⟩

set_option maxRecDepth 100000 in
set_option maxHeartbeats 8000000 in
theorem loses_walk (blocks : Int) (v u : Value) (os ls : List OpD) (w : World) (hs : Script w.heap.size w v os) (hs2 : Script w.heap.size w u ls) :
    Calls Try.prog 7 #[.int .i64 blocks, v, u] w fun e w' => e = .returned (.bool true) ∧ Below w.heap.size w w' := by
  obtain ⟨hn1, hn2, ho⟩ := made_facts blocks os
  replace hs := Lib.hid hs
  obtain ⟨va, vc, rfl⟩ : ∃ va vc, v = .slice va os.length vc := by obtain ⟨x, y, e, _⟩ := hs.out; exact ⟨x, y, e⟩
  obtain ⟨ua, uc, rfl, hll, hcells⟩ := hs2
  obtain ⟨m, hm1, hm2, hm3⟩ : ∃ m, m ≤ ls.length ∧ m ≤ 200 ∧ (m = ls.length ∨ m = 200) := by
    by_cases h : ls.length ≤ 200
    · exact ⟨ls.length, Nat.le_refl _, h, .inl rfl⟩
    · exact ⟨200, by omega, Nat.le_refl _, .inr rfl⟩
  obtain ⟨a, ha⟩ : ∃ a, madeA blocks os = a := ⟨_, rfl⟩
  rw [ha] at hn1 hn2 ho
  replace ha := Lib.hid ha
  replace hcells := Lib.hid hcells
  go_enter Try.func7, Try.ntmps7
  go_wp2_with fail
  refine (Hold.awake w).mono ?_; rintro e w1 ⟨rfl, h1⟩
  replace h1 := Lib.hid h1
  go_wp2_with fail
  refine (h1.out.made blocks hs.out).mono ?_; rintro e w2 ⟨D, rfl, h2⟩
  rw [ha.out] at h2
  replace h2 : Hold w.heap.size w w2 [Dk D a] := h2
  replace h2 := Lib.hid h2
  clear h1
  go_wp2_with fail
  refine (h2.out.dflush 0 rfl (by omega)).mono ?_; rintro e w3 ⟨rfl, h3⟩
  have hfo : (flA a).ops ≤ 501 := by show a.ops + 1 ≤ _; omega
  obtain ⟨f, hf⟩ : ∃ f, flA a = f := ⟨_, rfl⟩
  have hfp : f.pend = [] := by rw [← hf]; rfl
  rw [hf] at h3 hfo
  replace h3 : Hold w.heap.size w w3 [Dk D f] := h3
  replace h3 := Lib.hid h3
  replace hf := Lib.hid hf
  replace hfp := Lib.hid hfp
  clear h2
  go_wp2_with fail
  refine (h3.out.dcopy 0 rfl (by omega)).mono ?_; rintro e w4 ⟨C, rfl, h4⟩
  replace h4 : Hold w.heap.size w w4 [Dk D f, Dk C f] := h4
  replace h4 := Lib.hid h4
  clear h3
  go_wp2_with fail
  go_loopw [10] (fun i wr => ∃ (k : Nat) (b : AD), k ≤ m ∧ i = .int .i64 k ∧ Hold w.heap.size w wr [Dk D b, Dk C f] ∧ b.n = f.n ∧ b.done = f.done ∧ b.ops ≤ f.ops + k) (fun i _ => m - (intOf i).toNat)
  case atStart => exact ⟨0, f, Nat.zero_le _, rfl, h4.out, rfl, rfl, Nat.le_refl _⟩
  case round =>
    obtain ⟨k, b, hk, rfl, h5, hbn, hbd, hbo⟩ := hrel
    by_cases hlt : k < m
    · have q1 : k < ls.length := by omega
      have q2 : (k : Int) < 200 := by omega
      obtain ⟨bb, off, kv, rfl, hbb, c0, c1, c2, c3, _, _⟩ := hcells.out k q1
      have hfr := h5.frame
      have d1 := (hfr.cell (p := ⟨bb, _, none⟩) hbb).trans c1
      have d2 := (hfr.cell (p := ⟨bb, _, none⟩) hbb).trans c2
      obtain ⟨x1, x2, e1, e2⟩ : ∃ x1 x2, ls[k].blk = x1 ∧ ls[k].fill = x2 := ⟨_, _, rfl, rfl⟩
      rw [e1] at d1 c1
      rw [e2] at d2 c2
      replace c1 := Lib.hid c1
      replace c2 := Lib.hid c2
      have h6 := h5.drew
      replace h6 := Lib.hid h6
      replace hbn := Lib.hid hbn
      replace hbd := Lib.hid hbd
      clear c0 c3 e1 e2 h5 hfr
      go_wp2_with fail
      go_region_held3 (fun y => y.cell? ⟨bb, off + k * 4 + 1, none⟩ = some (.int .i64 x1) ∧ y.cell? ⟨bb, off + k * 4 + 2, none⟩ = some (.int .i64 x2))
        (first
          | go_keep
          | exact ⟨g1.out, g2.out⟩
          | exact ⟨i1.out, i2.out⟩)
        ((first
          | (go_at_call 13; ((with_reducible refine (h6.out.filled x2).mono ?_)); rintro e w5 ⟨g, cap, rfl, hcap, h7⟩
             replace h7 : Hold w.heap.size w w5 [Dk D b, Dk C f, Rw (.slice (some ⟨g, 0, none⟩) 256 cap) (fillB (x2 % 256))] := h7
             have hW9 := Lib.hid (h7.dwriteX 0 rfl (by omega) x1 (ad := some ⟨g, 0, none⟩) (len := 256) (cap := cap) (m := 0) (bs := fillB (x2 % 256)) (fun _ => by obtain ⟨S, hr⟩ := h7.get 2 rfl; exact ⟨hr.1, fillB_length _⟩))
             have hfr7 := h7.frame
             have g1 := Lib.hid ((hfr7.cell (p := ⟨bb, off + k * 4 + 1, none⟩) hbb).trans c1.out)
             have g2 := Lib.hid ((hfr7.cell (p := ⟨bb, off + k * 4 + 2, none⟩) hbb).trans c2.out)
             replace hfr7 := Lib.hid hfr7
             replace h7 := Lib.hid h7)
          | (go_at_call 12; ((with_reducible refine hW9.out.mono ?_))
             rintro e w6 ⟨rfl, h8⟩
             have h8 := h8.take 2
             have hfr8 := h8.frame
             have i1 := Lib.hid ((hfr8.cell (p := ⟨bb, off + k * 4 + 1, none⟩) hbb).trans c1.out)
             have i2 := Lib.hid ((hfr8.cell (p := ⟨bb, off + k * 4 + 2, none⟩) hbb).trans c2.out)
             have hw1 := wstep_ops b x1 256 (fillB (x2 % 256))
             have hw2 : (wstep b x1 256 (fillB (x2 % 256))).done = b.done := (by
               unfold wstep
               split
               · split <;> rfl
               · rfl)
             generalize wstep b x1 256 (fillB (x2 % 256)) = b' at *
             replace h8 : Hold w.heap.size w w6 [Dk D b', Dk C f] := h8
             replace h8 := Lib.hid h8
             replace hw1 := Lib.hid hw1
             replace hw2 := Lib.hid hw2
             replace hfr8 := Lib.hid hfr8)))
      all_goals
        go_wp2_with fail
        go_roundw
        case rel => exact ⟨k + 1, b', by omega, by go_num, h8.out, hw1.out.2.trans hbn.out, hw2.out.trans hbd.out, by have := hw1.out.1; omega⟩
        case measure => simp [intOf]; omega
    · obtain rfl : k = m := by omega
      have hopc : (setA b (keepAt [])).ops ≤ 1000000 := by show b.ops ≤ _; omega
      have hal : ∀ i : Nat, i < f.n → rdA f i = rdA (setA b (keepAt [])) i := fun i _ => by
        rw [rd_crash_nil, hbd]
        show (lastB f.pend i).getD (f.done i) = _
        rw [hfp.out]; rfl
      have hnn : f.n = (setA b (keepAt [])).n := hbn.symm
      replace h5 := Lib.hid h5
      replace hbn := Lib.hid hbn
      replace hbd := Lib.hid hbd
      replace hal := Lib.hid hal
      replace hnn := Lib.hid hnn
      have hkc : (k < ls.length ∧ (200 : Int) ≤ (k : Int)) ∨ k = ls.length := by omega
      rcases hkc with ⟨hk1, hk2⟩ | rfl
      all_goals
        go_wp2_with fail
        refine (h5.out.dcrash 0 rfl (by omega) (keeps_nil _ _)).mono ?_; rintro e w6 ⟨rfl, h6⟩
        replace h6 : Hold w.heap.size w w6 [Dk D (setA b (keepAt [])), Dk C f] := h6
        replace h6 := Lib.hid h6
        clear h5
        go_wp2_with fail
        refine (h6.out.alike 1 0 rfl rfl hnn.out hal.out).mono ?_; rintro e w7 ⟨rfl, h7⟩
        replace h7 := Lib.hid h7
        clear h6
        go_wp2_with fail
        refine (h7.out.pendlen 0 rfl hopc).mono ?_; rintro e w8 ⟨q3, q4, rfl, h8⟩
        have hfr := h8.frame
        replace hfr := Lib.hid hfr
        clear h7 h8
        rw [show (setA b (keepAt [])).pend.length = 0 from rfl]
        go_wp2_with fail
        go_ret
        exact ⟨rfl, hfr.out⟩
end Go.Proofs.Ytpokfbmgcokkbaa
