/- DiskSafe returns true: the walk. -/
import Derived.Test.YtpokfbmgcokkbaaCopiesWalk
namespace Go.Proofs.Ytpokfbmgcokkbaa
open Go.RowKit Go.Shelf Go.ChangeShapes Go.WideShapes Go.Deep
attribute [local go_sem] Oper.semAt_some

variable {n₀ : Nat} {w0 w w' : World} {l : List Th} {D E R : Nat} {a b : AD}

/-! what a crash leaves, as plain data -/
theorem setTo_congr (a : AD) (st st' : Nat → Bool) : ∀ n, (∀ k, k < n → st k = st' k) → setTo a st n = setTo a st' n
  | 0, _ => rfl
  | n + 1, h => by
    simp only [setTo, h n (by omega), setTo_congr a st st' n fun k hk => h k (by omega)]
theorem setTo_last (a : AD) (i : Int) : ∀ k, k ≤ a.pend.length → setTo a (fun _ => true) k i = (lastB (a.pend.take k) i).getD (a.done i)
  | 0, _ => rfl
  | k + 1, hk => by
    have hp : pAt a.pend k = a.pend[k]'(by omega) := by simp [pAt, show k < a.pend.length by omega]
    rw [setTo_step a (fun _ => true) (k := k) rfl (x := (a.pend[k]'(by omega)).1) (bs := (a.pend[k]'(by omega)).2) hp, List.take_succ_eq_append_getElem (by omega), lastB_snoc]
    by_cases e : i = (a.pend[k]'(by omega)).1
    · simp only [e, if_true]; rfl
    · simp only [e, if_false]; exact setTo_last a i k (by omega)
theorem rd_flush (a : AD) (i : Int) : (flA a).done i = rdA a i := by
  show setTo a (fun _ => true) a.pend.length i = _
  rw [setTo_last a i _ (Nat.le_refl _), List.take_length]
  rfl
theorem setTo_untouched (a : AD) (st : Nat → Bool) (i : Int) (h : ∀ p ∈ a.pend, p.1 ≠ i) : ∀ n, n ≤ a.pend.length → setTo a st n i = a.done i
  | 0, _ => rfl
  | n + 1, hn => by
    have hp : pAt a.pend n = a.pend[n]'(by omega) := by simp [pAt, show n < a.pend.length by omega]
    have hne := h _ (List.getElem_mem (show n < a.pend.length by omega))
    have ih := setTo_untouched a st i h n (by omega)
    unfold setTo
    split
    · rw [hp]
      simp only [show ¬ (i = (a.pend[n]'(by omega)).1) from fun e => hne e.symm, if_false]
      exact ih
    · exact ih
theorem lastB_none (i : Int) : ∀ (ps : List (Int × List Int)), (∀ p ∈ ps, p.1 ≠ i) → lastB ps i = none := by
  intro ps
  unfold lastB
  suffices H : ∀ (ps : List (Int × List Int)) (acc : Option (List Int)), (∀ p ∈ ps, p.1 ≠ i) → acc = none → ps.foldl (fun acc p => if i = p.1 then some p.2 else acc) acc = none from fun h => H ps none h rfl
  intro ps
  induction ps with
  | nil => intro acc _ h; exact h
  | cons p r ih =>
    intro acc h hacc
    simp only [List.foldl_cons]
    refine ih _ (fun q hq => h q (List.mem_cons_of_mem _ hq)) ?_
    rw [if_neg (fun e => h p (by simp) e.symm)]
    exact hacc
theorem rd_untouched (a : AD) (st : Nat → Bool) (i : Int) (h : ∀ p ∈ a.pend, p.1 ≠ i) : rdA (setA a st) i = rdA a i := by
  show (lastB [] i).getD (setTo a st a.pend.length i) = (lastB a.pend i).getD (a.done i)
  rw [setTo_untouched a st i h _ (Nat.le_refl _), lastB_none i _ h]
  rfl
theorem rd_crash_fl (a : AD) (st : Nat → Bool) (i : Int) : rdA (setA (flA a) st) i = rdA (flA a) i := rfl
theorem rd_crash_all (a : AD) (i : Int) : rdA (setA a (keepAt (List.replicate a.pend.length true))) i = rdA (flA a) i := by
  show setTo a _ a.pend.length i = setTo a (fun _ => true) a.pend.length i
  rw [setTo_congr a (keepAt (List.replicate a.pend.length true)) (fun _ => true) _ fun k hk => by simp [keepAt, hk]]

theorem open_keeps {H : Type} {enc : TypeId × Value → H} {w : World} {v : Value} {d : DataW H} {p : List MemPlace} (hv : ∃ a len cap, v = .slice a len cap) (h : DataW.Trod enc Try.prog w 0 (fun _ => true) true 44 v d p) : ∃ ks, Keeps (fun b => b < w.heap.size) w v ks ∧ ks.length ≤ 9223372036854775807 := by
  obtain ⟨a0, l0, c0, rfl⟩ := hv
  obtain ⟨fuel, hf⟩ := h
  obtain ⟨v', ks, hcs, hk, hl⟩ := keeps_of hf
  have e : Value.slice a0 l0 c0 = v' := by simpa [Value.cells] using hcs
  exact ⟨ks, e ▸ hk, hl⟩

/-! things -/
def Pr (v : Value) (qs : List PQ) : Th := fun S w => PRow S w v qs
theorem Pr.thing (v : Value) (qs : List PQ) : Thing (Pr v qs) := ⟨fun h hk => PRow.kept h hk, fun h hm => PRow.mono h hm⟩
/-- A slice of k bools, all true. -/
def Al (v : Value) (k : Nat) : Th := fun S w => w.ownsRow 0 4 1 v k (List.replicate k (.bool true)) ∧ ∀ b, v.ownBlock = some b → S b
theorem Al.thing (v : Value) (k : Nat) : Thing (Al v k) :=
  ⟨fun h hk => ⟨own_kept h.1 fun b hb => hk b (h.2 b hb) (World.ownsRow.lt h.1 b hb).2, h.2⟩, fun h hm => ⟨h.1, fun b hb => hm b (World.ownsRow.lt h.1 b hb).2 (h.2 b hb)⟩⟩
/-- A block of n bools. -/
def Tc (g n : Nat) (tb : Nat → Bool) : Th := fun S w => S g ∧ ∃ cur : Array Value, w.heap[g]? = some (.cells cur 4 (0, 0)) ∧ ∀ j, j < n → cur[j]? = some (.bool (tb j))
theorem Tc.thing (g n : Nat) (tb : Nat → Bool) : Thing (Tc g n tb) :=
  ⟨fun ⟨h1, cur, h2, h3⟩ hk => ⟨h1, cur, (hk g h1 (Array.getElem?_eq_some_iff.1 h2).1).trans h2, h3⟩, fun ⟨h1, cur, h2, h3⟩ hm => ⟨hm g (Array.getElem?_eq_some_iff.1 h2).1 h1, cur, h2, h3⟩⟩

theorem info4 : (Try.prog.info? 4).map (fun i => (i.zero, i.size, i.bytes)) = some (some (.bool false), 1, 1) := by kernel_rfl

theorem Hold.dpendR (h : Hold n₀ w0 w l) (i : Nat) (hi : l[i]? = some (Dk D a)) (hop : a.ops ≤ 1000000) :
    Calls Try.prog 25 #[.pointer (some ⟨D, 0, none⟩)] w fun e w' => ∃ ad cap qs, e = .returned (.slice ad a.pend.length cap) ∧ plain qs = a.pend ∧ Hold n₀ w0 w' (l ++ [Pr (.slice ad a.pend.length cap) qs]) := by
  obtain ⟨S, hd⟩ := h.get i hi
  refine (DRep.pending hd hop).mono ?_
  rintro e w' ⟨v, qs, he, h1, h2, h3⟩
  obtain ⟨ad, cap, rfl⟩ := h1.shape
  have hl : qs.length = a.pend.length := by rw [← h2]; simp [plain]
  rw [hl] at he h1
  exact ⟨ad, cap, qs, he, h2, h.add (Pr.thing _ _) h1 h3⟩

theorem Hold.grow (h : Hold n₀ w0 w l) (i : Nat) {v u : Value} {k : Nat} (hi : l[i]? = some (Al v k)) (hg : w.grownBy w' v.ownBlock) (hown : w'.ownsRow 0 4 1 u (k + 1) (List.replicate k (.bool true) ++ [.bool true]))
    (hat : u.ownBlock = v.ownBlock ∨ ∃ b, u.ownBlock = some b ∧ w.heap.size ≤ b) : Hold n₀ w0 w' (l.set i (Al u (k + 1))) := by
  obtain ⟨col, h⟩ := h
  obtain ⟨h1, h2⟩ := h.at_ i _ hi
  refine h.turn i hi (Al.thing _ _) ⟨by rw [List.replicate_succ']; exact hown, fun b hb => ?_⟩ (Kept.of_grown hg fun b hb _ => h2 b hb)
  rcases hat with e | ⟨b', e, hb'⟩
  · exact .inl (h2 b (by rw [← e]; exact hb))
  · rw [hb] at e
    obtain rfl := Option.some.inj e
    exact .inr hb'
theorem Al.keeps {S : Nat → Prop} {v : Value} {k : Nat} (h : Al v k S w) : Keeps S w v (List.replicate k true) := by
  rcases h.1.2 with ⟨rfl, h0⟩ | ⟨g, cap, cur, rfl, _, hb, h4, h5, h6, h7⟩
  · subst h0
    exact ⟨none, 0, rfl, fun i hi => by simp at hi⟩
  · refine ⟨some ⟨g, 0, none⟩, cap, by simp, fun i hi => ?_⟩
    have hik : i < k := by simpa using hi
    refine ⟨g, 0, rfl, h.2 g rfl, ?_⟩
    have : (cur.toList.take (k * 1))[i]? = some (.bool true) := by rw [h7]; simp [hik]
    rw [List.getElem?_take_of_lt (by omega)] at this
    simp [World.cell?, hb]
    simpa using this
theorem Al.shape {S : Nat → Prop} {v : Value} {k : Nat} (h : Al v k S w) : ∃ ad cap, v = .slice ad k cap := by
  rcases h.1.2 with ⟨rfl, h0⟩ | ⟨g, cap, cur, rfl, _⟩
  · exact ⟨none, 0, by rw [h0]⟩
  · exact ⟨_, cap, rfl⟩
theorem Hold.tcell (h : Hold n₀ w0 w l) (i : Nat) {g n : Nat} {tb : Nat → Bool} (hi : l[i]? = some (Tc g n tb)) {j : Nat} (hj : j < n) : w.cell? ⟨g, j, none⟩ = some (.bool (tb j)) ∧ w.frozen? ⟨g, j, none⟩ = false ∧ Hold n₀ w0 (w.setCell ⟨g, j, none⟩ (.bool true)) (l.set i (Tc g n fun x => tb x || x == j)) := by
  obtain ⟨col, h⟩ := h
  obtain ⟨h1, cur, h2, h3⟩ := h.at_ i _ hi
  have hx := h3 j hj
  refine ⟨by simp [World.cell?, h2]; simpa using hx, by simp [World.frozen?, h2], ?_⟩
  refine h.turn i hi (Tc.thing _ _ _) ⟨.inl h1, _, setCell_heap _ _ _ _ _ _ h2, fun k hk => ?_⟩ ((Kept.refl _ _).setCell (p := ⟨g, j, none⟩) (fun _ => h1) _)
  by_cases e : j = k
  · subst e
    rw [Array.set!_eq_setIfInBounds, Array.getElem?_setIfInBounds_self_of_lt (Array.getElem?_eq_some_iff.1 hx).1]; simp
  · rw [Array.set!_eq_setIfInBounds, Array.getElem?_setIfInBounds_ne e, h3 k hk]
    simp [show ¬ (k = j) from fun e2 => e e2.symm]

/-- Which blocks the first k of the pending touch. -/
def tbAt (ps : List (Int × List Int)) (k j : Nat) : Bool := (ps.take k).any fun p => p.1 == (j : Int)

set_option maxRecDepth 100000 in
set_option maxHeartbeats 16000000 in
theorem safe_walk (blocks : Int) (v u : Value) (os : List OpD) (ks : List Bool) (w : World) (hs : Script w.heap.size w v os) (hks : Keeps (fun b => b < w.heap.size) w u ks) (hkl : ks.length ≤ 9223372036854775807) :
    Calls Try.prog 6 #[.int .i64 blocks, v, u] w fun e w' => e = .returned (.bool true) ∧ Below w.heap.size w w' := by
  obtain ⟨hn1, hn2, ho⟩ := made_facts blocks os
  replace hs := Lib.hid hs
  obtain ⟨va, vc, rfl⟩ : ∃ va vc, v = .slice va os.length vc := by obtain ⟨x, y, e, _⟩ := hs.out; exact ⟨x, y, e⟩
  obtain ⟨ua, uc, rfl⟩ : ∃ ua uc, u = .slice ua ks.length uc := by obtain ⟨x, y, e, _⟩ := hks; exact ⟨x, y, e⟩
  obtain ⟨a, ha⟩ : ∃ a, madeA blocks os = a := ⟨_, rfl⟩
  rw [ha] at hn1 hn2 ho
  replace ha := Lib.hid ha
  replace hks := Lib.hid hks
  obtain ⟨i4, hi4, hz0, hz1, hz2⟩ := info_parts info4
  go_enter Try.func6, Try.ntmps6
  go_wp2_with fail
  refine (Hold.awake w).mono ?_; rintro e w1 ⟨rfl, h1⟩
  replace h1 := Lib.hid h1
  go_wp2_with fail
  refine (h1.out.made blocks hs.out).mono ?_; rintro e w2 ⟨D, rfl, h2⟩
  rw [ha.out] at h2
  replace h2 : Hold w.heap.size w w2 [Dk D a] := h2
  have hga := h2.good 0 rfl
  have hpl : a.pend.length ≤ 500 := Nat.le_trans hga.few ho
  replace hga := Lib.hid hga
  replace h2 := Lib.hid h2
  clear h1
  go_wp2_with fail
  refine (h2.out.dcopy 0 rfl (by omega)).mono ?_; rintro e w3 ⟨A, rfl, h3⟩
  replace h3 : Hold w.heap.size w w3 [Dk D a, Dk A a] := h3
  replace h3 := Lib.hid h3
  clear h2
  go_wp2_with fail
  refine (h3.out.dflush 1 rfl (by omega)).mono ?_; rintro e w4 ⟨rfl, h4⟩
  have hfo : (flA a).ops ≤ 501 := by show a.ops + 1 ≤ _; omega
  replace h4 : Hold w.heap.size w w4 [Dk D a, Dk A (flA a)] := h4
  replace h4 := Lib.hid h4
  clear h3
  go_wp2_with fail
  refine (h4.out.dcopy 1 rfl (by omega)).mono ?_; rintro e w5 ⟨B, rfl, h5⟩
  replace h5 : Hold w.heap.size w w5 [Dk D a, Dk A (flA a), Dk B (flA a)] := h5
  replace h5 := Lib.hid h5
  clear h4
  go_wp2_with fail
  refine (h5.out.dcrash 2 rfl (by omega) (h5.out.keeps hks.out)).mono ?_; rintro e w6 ⟨rfl, h6⟩
  replace h6 : Hold w.heap.size w w6 [Dk D a, Dk A (flA a), Dk B (setA (flA a) (keepAt ks))] := h6
  replace h6 := Lib.hid h6
  clear h5
  go_wp2_with fail
  refine (h6.out.dcopy 0 rfl (by omega)).mono ?_; rintro e w7 ⟨C, rfl, h7⟩
  replace h7 : Hold w.heap.size w w7 [Dk D a, Dk A (flA a), Dk B (setA (flA a) (keepAt ks)), Dk C a] := h7
  replace h7 := Lib.hid h7
  clear h6
  go_wp2_with fail
  refine (h7.out.dpendR 0 rfl (by omega)).mono ?_; rintro e w8 ⟨pa, pc, qs, rfl, hqs, h8⟩
  replace h8 : Hold w.heap.size w w8 [Dk D a, Dk A (flA a), Dk B (setA (flA a) (keepAt ks)), Dk C a, Pr (.slice pa a.pend.length pc) qs] := h8
  have hql : qs.length = a.pend.length := by rw [← hqs]; simp [plain]
  have h9 : Hold w.heap.size w w8 [Dk D a, Dk A (flA a), Dk B (setA (flA a) (keepAt ks)), Dk C a, Pr (.slice pa a.pend.length pc) qs, Al (.slice none 0 0) 0] :=
    h8.add (Al.thing _ _) ⟨World.ownsRow_nil _ _ _ _, fun b hb => by simp [Value.ownBlock] at hb⟩ (Below.refl _ _)
  replace h9 := Lib.hid h9
  replace hqs := Lib.hid hqs
  replace hql := Lib.hid hql
  clear h7 h8
  go_wp2_with fail
  go_loopw [12, 14] (fun o i wr => ∃ k : Nat, k ≤ a.pend.length ∧ i = .int .i64 k ∧ Hold w.heap.size w wr [Dk D a, Dk A (flA a), Dk B (setA (flA a) (keepAt ks)), Dk C a, Pr (.slice pa a.pend.length pc) qs, Al o k]) (fun _ i _ => a.pend.length - (intOf i).toNat)
  case atStart => exact ⟨0, Nat.zero_le _, rfl, h9.out⟩
  case round =>
    obtain ⟨k, hk, rfl, hA⟩ := hrel
    obtain ⟨wo, rfl⟩ : ∃ wo : World, wo = wr := ⟨_, rfl⟩
    obtain ⟨S, hal⟩ := hA.get 5 rfl
    obtain ⟨oa, oc, rfl⟩ := hal.shape
    by_cases hlt : k < a.pend.length
    · have hown := hal.1
      replace hown := Lib.hid hown
      replace hA := Lib.hid hA
      clear hal
      go_wp2_with (refine wpList_append_own_at _ rfl _ _ 44 rfl 0 4 i4 _ 1 1 Try.underlying44 hi4 hz0 hz1 hz2 rfl (by decide) (.slice oa k oc) _ _ rfl (hown.out.alloc _) ⟨wo.heap.size, 0, none⟩ 1 1 [.bool true] rfl rfl (World.news_of_block (cs := #[.bool true]) (t := 4) (fr := (0, 0)) (World.alloc_heap_new _ _)) (by simp [Value.oneCell']) (by unfold maxLen; omega) (by omega) (Nat.zero_le _) ?_; intro v2 w3 hown' hgrow _ hat')
      have hB := hA.out.grow 5 rfl (grown_of_alloc hgrow) hown' (hat'.imp id fun e => ⟨_, e, by simp⟩)
      replace hB := Lib.hid hB
      replace hown' := Lib.hid hown'
      replace hgrow := Lib.hid hgrow
      replace hat' := Lib.hid hat'
      go_wp2_with fail
      go_roundw
      case rel => exact ⟨k + 1, by omega, by go_num, hB.out⟩
      case measure => simp [intOf]; omega
    · obtain rfl : k = a.pend.length := by omega
      have hB := hA.conv 5 rfl (Kp.thing (.slice oa a.pend.length oc) (List.replicate a.pend.length true)) (fun S h => Al.keeps h)
      replace hB : Hold w.heap.size w wo [Dk D a, Dk A (flA a), Dk B (setA (flA a) (keepAt ks)), Dk C a, Pr (.slice pa a.pend.length pc) qs, Kp (.slice oa a.pend.length oc) (List.replicate a.pend.length true)] := hB
      replace hB := Lib.hid hB
      clear hA hal
      go_wp2_with fail
      refine (hB.out.dcrashK 3 rfl (by omega) 5 rfl (by omega)).mono ?_; rintro e wC ⟨rfl, hC⟩
      replace hC : Hold w.heap.size w wC [Dk D a, Dk A (flA a), Dk B (setA (flA a) (keepAt ks)), Dk C (setA a (keepAt (List.replicate a.pend.length true))), Pr (.slice pa a.pend.length pc) qs, Kp (.slice oa a.pend.length oc) (List.replicate a.pend.length true)] := hC
      replace hC := Lib.hid hC
      clear hB
      go_wp2_with fail
      refine (hC.out.alike 1 2 rfl rfl rfl (fun i _ => (rd_crash_fl a _ i).symm)).mono ?_; rintro e wD ⟨rfl, hD⟩
      replace hD := Lib.hid hD
      clear hC
      go_wp2_with fail
      refine (hD.out.alike 1 3 rfl rfl rfl (fun i _ => (rd_crash_all a i).symm)).mono ?_; rintro e wE ⟨rfl, hE⟩
      replace hE := Lib.hid hE
      clear hD
      go_wp2_with fail
      refine (hE.out.alike 1 0 rfl rfl rfl (fun i _ => by rw [rd_fl]; exact rd_flush a i)).mono ?_; rintro e wF ⟨rfl, hF⟩
      have hF := hF.take 5
      replace hF : Hold w.heap.size w wF [Dk D a, Dk A (flA a), Dk B (setA (flA a) (keepAt ks)), Dk C (setA a (keepAt (List.replicate a.pend.length true))), Pr (.slice pa a.pend.length pc) qs] := hF
      replace hF := Lib.hid hF
      clear hE
      go_wp2_with fail
      refine (hF.out.dcopy 0 rfl (by omega)).mono ?_; rintro e wG ⟨K, rfl, hG⟩
      replace hG : Hold w.heap.size w wG [Dk D a, Dk A (flA a), Dk B (setA (flA a) (keepAt ks)), Dk C (setA a (keepAt (List.replicate a.pend.length true))), Pr (.slice pa a.pend.length pc) qs, Dk K a] := hG
      replace hG := Lib.hid hG
      clear hF
      go_wp2_with fail
      refine (hG.out.dcrash 5 rfl (by omega) (hG.out.keeps hks.out)).mono ?_; rintro e wH ⟨rfl, hH⟩
      obtain ⟨l0, hl0⟩ : ∃ l0, l0 = [Dk D a, Dk A (flA a), Dk B (setA (flA a) (keepAt ks)), Dk C (setA a (keepAt (List.replicate a.pend.length true))), Pr (.slice pa a.pend.length pc) qs, Dk K (setA a (keepAt ks))] := ⟨_, rfl⟩
      replace hH : Hold w.heap.size w wH l0 := by rw [hl0]; exact hH
      have hb := hH.blocks 0 (a := a) (D := D) (by rw [hl0]; rfl)
      replace hH := Lib.hid hH
      replace hb := Lib.hid hb
      replace hl0 := Lib.hid hl0
      obtain ⟨Z, hZ, hmk⟩ : ∃ Z : Array Value, (∀ j, j < a.n → Z[j]? = some (.bool false)) ∧ ∀ w : World, (Instr.makeSlice 44 (.int .i64 (a.n : Int)) (.int .i64 (a.n : Int))).run Try.prog w = .ok (.slice (some ⟨w.heap.size, 0, none⟩) a.n a.n) (w.alloc (.cells Z 4)) :=
        ⟨madeCells #[.bool false] a.n, fun j hj => by simp [madeCells, hj, Nat.mod_one], fun w => run_make_row' 44 4 (.bool false) 1 Try.underlying44 info4 rfl .i64 .i64 a.n (by omega) (by omega) w⟩
      replace hZ := Lib.hid hZ
      clear hG
      go_wp2_with fail
      refine hb.out.mono ?_; rintro e wI ⟨rfl, rfl⟩
      have hJ : Hold w.heap.size w (wI.alloc (.cells Z 4)) (l0 ++ [Tc wI.heap.size a.n (tbAt a.pend 0)]) := hH.out.add (Tc.thing _ _ _) ⟨Nat.le_refl _, Z, World.alloc_heap_new _ _, fun j hj => by rw [hZ.out j hj]; rfl⟩ ((Below.refl _ _).alloc (Nat.le_refl _) _)
      obtain ⟨T, hT⟩ : ∃ T, wI.heap.size = T := ⟨_, rfl⟩
      rw [hT] at hJ
      replace hJ := Lib.hid hJ
      replace hT := Lib.hid hT
      go_wp2_with fail
      rw [hT.out]
      clear hmk
      go_loopw [17] (fun i wr => ∃ k : Nat, k ≤ a.pend.length ∧ i = .int .i64 k ∧ Hold w.heap.size w wr (l0 ++ [Tc T a.n (tbAt a.pend k)])) (fun i _ => a.pend.length - (intOf i).toNat)
      case atStart => exact ⟨0, Nat.zero_le _, rfl, hJ.out⟩
      case round =>
        obtain ⟨k, hk, rfl, hK⟩ := hrel
        obtain ⟨wp, rfl⟩ : ∃ wp : World, wp = wr := ⟨_, rfl⟩
        have hK2 := hK
        rw [hl0.out] at hK2
        by_cases hlt : k < a.pend.length
        · obtain ⟨S, hpr⟩ := hK2.get 4 rfl
          have hltq : k < qs.length := by rw [hql.out]; exact hlt
          have hpr : PRow S wp (.slice pa a.pend.length pc) qs := hpr
          rw [← hql.out] at hpr
          obtain ⟨pg, rfl⟩ := hpr.head hltq
          obtain ⟨e0, _⟩ := hpr.cells k hltq
          have hpk : a.pend[k] = (qs[k].blk, qs[k].bs) := by
            have h1 := plain_at hltq
            rw [hqs.out] at h1
            simpa [pAt, hlt] using h1
          have hin := hga.out.pend a.pend[k] (List.getElem_mem _)
          rw [hpk] at hin
          obtain ⟨m, hm⟩ : ∃ m : Nat, qs[k].blk = (m : Int) := ⟨qs[k].blk.toNat, by have := hin.2.1; simp at this; omega⟩
          rw [hm] at hin e0 hpk
          have hmn : m < a.n := by have := hin.2.2; simp at this; omega
          obtain ⟨t0, t1, hL⟩ := hK2.tcell 6 rfl (j := m) hmn
          have htb : (fun x => tbAt a.pend k x || x == m) = tbAt a.pend (k + 1) := by
            funext x
            unfold tbAt
            rw [List.take_succ_eq_append_getElem hlt, List.any_append, hpk]
            simp only [List.any_cons, List.any_nil, Bool.or_false]
            congr 1
            rw [Bool.eq_iff_iff]
            simp
            omega
          rw [htb] at hL
          replace hL : Hold w.heap.size w (wp.setCell ⟨T, m, none⟩ (.bool true)) (l0 ++ [Tc T a.n (tbAt a.pend (k + 1))]) := by rw [hl0.out]; exact hL
          have hm0 : (0 : Int) ≤ (m : Int) := by omega
          have hm1 : (m : Int) < (a.n : Int) := by omega
          replace hL := Lib.hid hL
          replace hK := Lib.hid hK
          replace hK2 := Lib.hid hK2
          replace hin := Lib.hid hin
          replace hpk := Lib.hid hpk
          replace hm := Lib.hid hm
          replace htb := Lib.hid htb
          clear hpr
          go_wp2_with fail
          go_roundw
          case rel => exact ⟨k + 1, by omega, by go_num, hL.out⟩
          case measure => simp [intOf]; omega
        · obtain rfl : k = a.pend.length := by omega
          replace hK2 := Lib.hid hK2
          replace hK := Lib.hid hK
          go_wp2_with fail
          go_loopw [18] (fun i wr => ∃ k : Nat, k ≤ a.n ∧ i = .int .i64 k ∧ Hold w.heap.size w wr (l0 ++ [Tc T a.n (tbAt a.pend a.pend.length)])) (fun i _ => a.n - (intOf i).toNat)
          case atStart => exact ⟨0, Nat.zero_le _, rfl, hK.out⟩
          case round =>
            obtain ⟨k, hk, rfl, hM⟩ := hrel
            obtain ⟨wq, rfl⟩ : ∃ wq : World, wq = wr := ⟨_, rfl⟩
            rw [hl0.out] at hM
            replace hM : Hold w.heap.size w wq [Dk D a, Dk A (flA a), Dk B (setA (flA a) (keepAt ks)), Dk C (setA a (keepAt (List.replicate a.pend.length true))), Pr (.slice pa a.pend.length pc) qs, Dk K (setA a (keepAt ks)), Tc T a.n (tbAt a.pend a.pend.length)] := hM
            have hb := hM.blocks 0 rfl
            replace hb := Lib.hid hb
            by_cases hlt : k < a.n
            · have q1 : (k : Int) < (a.n : Int) := by omega
              replace hM := Lib.hid hM
              go_wp2_with fail
              refine hb.out.mono ?_; rintro e wz ⟨rfl, rfl⟩
              go_wp2_with fail
              refine (hM.out.dread 0 rfl k (by omega) q1).mono ?_; rintro e wN ⟨x1, rfl, hx1, hN⟩
              replace hN : Hold w.heap.size w wN [Dk D a, Dk A (flA a), Dk B (setA (flA a) (keepAt ks)), Dk C (setA a (keepAt (List.replicate a.pend.length true))), Pr (.slice pa a.pend.length pc) qs, Dk K (setA a (keepAt ks)), Tc T a.n (tbAt a.pend a.pend.length), Rw x1 (rdA a k)] := hN
              replace hN := Lib.hid hN
              replace hx1 := Lib.hid hx1
              go_wp2_with fail
              refine (hN.out.dread 5 rfl k (by omega) q1).mono ?_; rintro e wO ⟨x2, rfl, hx2, hO⟩
              replace hO : Hold w.heap.size w wO [Dk D a, Dk A (flA a), Dk B (setA (flA a) (keepAt ks)), Dk C (setA a (keepAt (List.replicate a.pend.length true))), Pr (.slice pa a.pend.length pc) qs, Dk K (setA a (keepAt ks)), Tc T a.n (tbAt a.pend a.pend.length), Rw x1 (rdA a k), Rw x2 (rdA (setA a (keepAt ks)) k)] := hO
              obtain ⟨t0, _, _⟩ := hO.tcell 6 rfl (j := k) hlt
              have hsame := hO.same 7 8 rfl rfl (by have := hx1.out; omega)
              have htf : tbAt a.pend a.pend.length k = false → rdA (setA a (keepAt ks)) k = rdA a k := fun hf => rd_untouched a _ k fun p hp he => by
                unfold tbAt at hf
                rw [List.take_length, List.any_eq_false] at hf
                exact hf p hp (by simpa using he)
              have hP : Hold w.heap.size w wO (l0 ++ [Tc T a.n (tbAt a.pend a.pend.length)]) := by rw [hl0.out]; exact hO.take 7
              obtain ⟨t, ht⟩ : ∃ t, tbAt a.pend a.pend.length k = t := ⟨_, rfl⟩
              rw [ht] at t0 htf
              replace hO := Lib.hid hO
              replace hP := Lib.hid hP
              replace hx2 := Lib.hid hx2
              replace ht := Lib.hid ht
              clear hN hM hb
              cases t
              · rw [htf rfl, beq_self_eq_true] at hsame
                replace hsame := Lib.hid hsame
                clear htf
                go_wp2_with fail
                refine hsame.out.mono ?_; rintro e wQ ⟨rfl, mQ, hmQ⟩
                have hQ : Hold w.heap.size w wQ (l0 ++ [Tc T a.n (tbAt a.pend a.pend.length)]) := by rw [hmQ]; exact hP.out.drewN mQ
                replace hQ := Lib.hid hQ
                clear hmQ
                go_wp2_with fail
                go_roundw
                case rel => exact ⟨k + 1, by omega, by go_num, hQ.out⟩
                case measure => simp [intOf]; omega
              · replace hsame := Lib.hid hsame
                clear htf
                go_wp2_with fail
                go_roundw
                case rel => exact ⟨k + 1, by omega, by go_num, hP.out⟩
                case measure => simp [intOf]; omega
            · obtain rfl : k = a.n := by omega
              have hpz := hM.pendlen 5 rfl (show a.ops ≤ 1000000 by omega)
              rw [show (setA a (keepAt ks)).pend.length = 0 from rfl] at hpz
              replace hM := Lib.hid hM
              replace hpz := Lib.hid hpz
              go_wp2_with fail
              refine hb.out.mono ?_; rintro e wz ⟨rfl, rfl⟩
              go_wp2_with fail
              refine hpz.out.mono ?_; rintro e wR ⟨z1, z2, rfl, hR⟩
              have hfr := hR.frame
              replace hfr := Lib.hid hfr
              clear hR
              go_wp2_with fail
              go_ret
              exact ⟨rfl, hfr.out⟩
end Go.Proofs.Ytpokfbmgcokkbaa
