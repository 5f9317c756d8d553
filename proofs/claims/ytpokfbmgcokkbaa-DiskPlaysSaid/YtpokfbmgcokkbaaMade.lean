/- A disk that a script was done to; are two disks alike? -/
import Derived.Test.YtpokfbmgcokkbaaStep2
import Derived.Deep.Slices
import Derived.Deep.Fields
import Derived.ProofKit
import Derived.OpenShut
namespace Go.Proofs.Ytpokfbmgcokkbaa
open Go.RowKit Go.Shelf Go.ChangeShapes Go.WideShapes Go.Deep
attribute [local go_sem] Oper.semAt_some

/-- The value v is a slice of the operations os, all in blocks below n. -/
def Script (n : Nat) (w : World) (v : Value) (os : List OpD) : Prop :=
  ∃ ad cap, v = .slice ad os.length cap ∧ os.length ≤ 9223372036854775807 ∧ ∀ (i : Nat) (h : i < os.length), ∃ b off kv, ad = some ⟨b, off, none⟩ ∧ b < n ∧
    w.cell? ⟨b, off + i * 4, none⟩ = some (.int .i64 os[i].what) ∧ w.cell? ⟨b, off + i * 4 + 1, none⟩ = some (.int .i64 os[i].blk) ∧ w.cell? ⟨b, off + i * 4 + 2, none⟩ = some (.int .i64 os[i].fill) ∧ w.cell? ⟨b, off + i * 4 + 3, none⟩ = some kv ∧
    Keeps (fun b => b < n) w kv os[i].keep ∧ os[i].keep.length ≤ 9223372036854775807

theorem Script.below {n : Nat} {w w' : World} {v : Value} {os : List OpD} (h : Script n w v os) (hb : Below n w w') : Script n w' v os := by
  obtain ⟨ad, cap, h1, h2, h3⟩ := h
  refine ⟨ad, cap, h1, h2, fun i hi => ?_⟩
  obtain ⟨b, off, kv, e, hbn, c0, c1, c2, c3, hk, hl⟩ := h3 i hi
  exact ⟨b, off, kv, e, hbn, (hb.cell (p := ⟨b, _, none⟩) hbn).trans c0, (hb.cell (p := ⟨b, _, none⟩) hbn).trans c1, (hb.cell (p := ⟨b, _, none⟩) hbn).trans c2, (hb.cell (p := ⟨b, _, none⟩) hbn).trans c3, hk.kept fun b hb' => hb.block b hb', hl⟩
theorem Keeps.mono {Q Q' : Nat → Prop} {w : World} {v : Value} {ks : List Bool} (h : Keeps Q w v ks) (hq : ∀ b, Q b → Q' b) : Keeps Q' w v ks := by
  obtain ⟨ad, cap, h1, h2⟩ := h
  refine ⟨ad, cap, h1, fun i hi => ?_⟩
  obtain ⟨b, off, e1, e2, e3⟩ := h2 i hi
  exact ⟨b, off, e1, hq b e2, e3⟩
theorem Script.mono {n n' : Nat} {w : World} {v : Value} {os : List OpD} (h : Script n w v os) (hn : n ≤ n') : Script n' w v os := by
  obtain ⟨ad, cap, h1, h2, h3⟩ := h
  refine ⟨ad, cap, h1, h2, fun i hi => ?_⟩
  obtain ⟨b, off, kv, e, hbn, c0, c1, c2, c3, hk, hl⟩ := h3 i hi
  exact ⟨b, off, kv, e, by omega, c0, c1, c2, c3, hk.mono (fun b hb => by omega), hl⟩

theorem cell_spot {w : World} {a : Addr} {v : Value} (h : w.cell? a = some v) : a = ⟨a.block, a.off, none⟩ := by
  obtain ⟨b, o, s⟩ := a
  cases s with
  | none => rfl
  | some x =>
    unfold World.cell? at h
    split at h
    · simp at h
    · cases h

section
variable {H : Type} {enc : TypeId × Value → H} {w : World}
theorem keeps_of {fuel : Nat} {cs : List Value} {x : DataW H × List MemPlace} (h : DataW.trod enc Try.prog w 0 (fun _ => true) true fuel 44 cs = some x) : ∃ v ks, cs = [v] ∧ Keeps (fun b => b < w.heap.size) w v ks ∧ ks.length ≤ 9223372036854775807 := by
  rcases open_slice Try.underlying44 h with ⟨hcs, _⟩ | ⟨a, len, cap, m, n, D, Pl, hcs, _, hl, hm, hmm, _, hi⟩
  · exact ⟨_, [], hcs, ⟨none, 0, rfl, fun i hi => by simp at hi⟩, by simp⟩
  · have hml : len ≤ m := by rw [hmm]; simp; omega
    have h4 : Try.prog.cellsOf 4 = 1 := by kernel_rfl
    have hel : ∀ i, i < len → ∃ k : Bool, ∃ b off, some a = some (⟨b, off, none⟩ : Addr) ∧ b < w.heap.size ∧ w.cell? ⟨b, off + i, none⟩ = some (.bool k) := by
      intro i hil
      obtain ⟨cs0, hc0, _⟩ := hi 0 (by omega)
      rw [h4] at hc0
      obtain ⟨_, hcl0, hat0⟩ := World.cells?_some hc0
      have q := hat0 0 (by omega)
      rw [List.getElem?_eq_getElem (by omega)] at q
      have hsp := cell_spot q
      have hsp' : a = ⟨a.block, a.off, none⟩ := by simpa [Addr.add] using hsp
      obtain ⟨cs, hc, ht⟩ := hi i (by omega)
      rw [h4] at hc
      obtain ⟨k, e0, _⟩ := DataW.trod_bool Try.underlying4 ht
      obtain ⟨_, hcl, hat⟩ := World.cells?_some hc
      have a0 := hat 0 (by omega)
      subst e0
      rw [hsp'] at a0
      have a1 : w.cell? ⟨a.block, a.off + i, none⟩ = some (.bool k) := by simpa [Addr.add_lit] using a0
      exact ⟨k, a.block, a.off, by rw [← hsp'], World.block_lt_of_cell? w ⟨a.block, a.off + i, none⟩ a1, a1⟩
    refine ⟨_, (List.range len).map fun i => if h : i < len then (hel i h).choose else false, hcs, ⟨some a, cap, by simp, fun i hi => ?_⟩, by simp; unfold maxLen at hm; omega⟩
    have hil : i < len := by simpa using hi
    simp only [List.getElem_map, List.getElem_range, dif_pos hil]
    exact (hel i hil).choose_spec

theorem open_script {v : Value} {d : DataW H} {p : List MemPlace} (hv : ∃ a len cap, v = .slice a len cap) (h : DataW.Trod enc Try.prog w 0 (fun _ => true) true 22 v d p) : ∃ os, Script w.heap.size w v os := by
  obtain ⟨a0, l0, c0, rfl⟩ := hv
  obtain ⟨fuel, hf⟩ := h
  rcases open_slice Try.underlying22 hf with ⟨hcs, _⟩ | ⟨a, len, cap, m, n, D, Pl, hcs, _, hl, hm, hmm, _, hi⟩
  · have e0 : Value.slice a0 l0 c0 = .slice none 0 0 := by simpa [Value.cells] using hcs
    rw [e0]
    exact ⟨[], none, 0, rfl, by simp, fun i hi => by simp at hi⟩
  · obtain ⟨rfl, rfl, rfl⟩ : a0 = some a ∧ l0 = len ∧ c0 = cap := by simpa [Value.cells] using hcs
    have hml : l0 ≤ m := by rw [hmm]; simp; omega
    have hC : Try.prog.cellsOf 46 = 4 := by kernel_rfl
    have h3 : Try.prog.cellsOf 3 = 1 := by kernel_rfl
    have h4 : Try.prog.cellsOf 44 = 1 := by kernel_rfl
    have hsp : 0 < l0 → a = ⟨a.block, a.off, none⟩ := by
      intro h0
      obtain ⟨cs, hc, _⟩ := hi 0 (by omega)
      rw [hC] at hc
      obtain ⟨_, hcl, hat⟩ := World.cells?_some hc
      have q := hat 0 (by omega)
      rw [List.getElem?_eq_getElem (by omega)] at q
      have q' := cell_spot q
      simpa [Addr.add] using q'
    have hel : ∀ i, i < l0 → ∃ o : OpD, ∃ b off kv, some a = some (⟨b, off, none⟩ : Addr) ∧ b < w.heap.size ∧
        w.cell? ⟨b, off + i * 4, none⟩ = some (.int .i64 o.what) ∧ w.cell? ⟨b, off + i * 4 + 1, none⟩ = some (.int .i64 o.blk) ∧ w.cell? ⟨b, off + i * 4 + 2, none⟩ = some (.int .i64 o.fill) ∧ w.cell? ⟨b, off + i * 4 + 3, none⟩ = some kv ∧
        Keeps (fun b => b < w.heap.size) w kv o.keep ∧ o.keep.length ≤ 9223372036854775807 := by
      intro i hil
      have hsp' := hsp (by omega)
      obtain ⟨cs, hc, ht⟩ := hi i (by omega)
      rw [hC] at hc
      obtain ⟨ys, n', _, _, _, hyl, hf'⟩ := DataW.trod_struct Try.underlying46 ht
      obtain ⟨_, hcl, hat⟩ := World.cells?_some hc
      match cs, hcl with
      | [v0, v1, v2, v3], _ =>
        have k0 := hf' 0 _ rfl
        have k1 := hf' 1 _ rfl
        have k2 := hf' 2 _ rfl
        have k3 := hf' 3 _ rfl
        have hys : ys.length = 4 := hyl
        rw [List.getElem?_eq_getElem (by omega)] at k0 k1 k2 k3
        simp [h3, h4] at k0 k1 k2 k3
        obtain ⟨x0, e0, _, _⟩ := DataW.trod_int Try.underlying3 k0
        obtain ⟨x1, e1, _, _⟩ := DataW.trod_int Try.underlying3 k1
        obtain ⟨x2, e2, _, _⟩ := DataW.trod_int Try.underlying3 k2
        obtain ⟨x3, ks, e3, hks, hkl⟩ := keeps_of k3
        have a0 := hat 0 (by omega)
        have a1 := hat 1 (by omega)
        have a2 := hat 2 (by omega)
        have a3 := hat 3 (by omega)
        simp only [List.cons.injEq, and_true] at e0 e1 e2 e3
        subst e0 e1 e2 e3
        rw [hsp'] at a0 a1 a2 a3
        rw [hsp']
        generalize a.block = b at *
        generalize a.off = off at *
        simp only [Addr.add_lit] at a0 a1 a2 a3
        have hbl : b < w.heap.size := by
          have := World.block_lt_of_cell? w _ a0
          exact this
        exact ⟨⟨x0, x1, x2, ks⟩, b, off, _, rfl, hbl, a0, a1, a2, a3, hks, hkl⟩
    refine ⟨(List.range l0).map fun i => if h : i < l0 then (hel i h).choose else ⟨0, 0, 0, []⟩, some a, c0, by simp, by simp; unfold maxLen at hm; omega, fun i hi => ?_⟩
    have hil : i < l0 := by simpa using hi
    simp only [List.getElem_map, List.getElem_range, dif_pos hil]
    exact (hel i hil).choose_spec
end

def foldA (a : AD) (os : List OpD) : AD := os.foldl stepA a
def madeA (blocks : Int) (os : List OpD) : AD := foldA (newA (128 + (bits .and .i64 blocks 127).toNat)) (os.take 500)

theorem wstep_ops (a : AD) (k : Int) (len : Nat) (bs : List Int) : (wstep a k len bs).ops ≤ a.ops + 1 ∧ (wstep a k len bs).n = a.n := by
  unfold wstep
  split
  · split
    · exact ⟨Nat.le_refl _, rfl⟩
    · exact ⟨Nat.le_succ _, rfl⟩
  · exact ⟨Nat.le_succ _, rfl⟩
theorem stepA_ops (a : AD) (o : OpD) : (stepA a o).ops ≤ a.ops + 1 ∧ (stepA a o).n = a.n := by
  unfold stepA
  split
  · exact wstep_ops _ _ _ _
  · split
    · exact ⟨Nat.le_refl _, rfl⟩
    · split
      · exact ⟨Nat.le_succ _, rfl⟩
      · exact ⟨Nat.le_succ _, rfl⟩
theorem foldA_ops : ∀ (os : List OpD) (a : AD), (foldA a os).ops ≤ a.ops + os.length ∧ (foldA a os).n = a.n
  | [], a => ⟨Nat.le_refl _, rfl⟩
  | o :: os, a => by
    obtain ⟨h1, h2⟩ := foldA_ops os (stepA a o)
    obtain ⟨h3, h4⟩ := stepA_ops a o
    exact ⟨by show (foldA (stepA a o) os).ops ≤ _; simp only [List.length_cons]; omega, by show (foldA (stepA a o) os).n = _; rw [h2, h4]⟩
theorem foldA_snoc (a : AD) (os : List OpD) (k : Nat) (hk : k < os.length) : foldA a (os.take (k + 1)) = stepA (foldA a (os.take k)) os[k] := by
  unfold foldA
  rw [List.take_succ_eq_append_getElem hk, List.foldl_append]
  rfl
theorem foldA_take_ops (a : AD) (os : List OpD) (k : Nat) : (foldA a (os.take k)).ops ≤ a.ops + k := by
  have h := (foldA_ops (os.take k) a).1
  have := List.length_take_le k os
  omega

variable {w : World}

set_option maxRecDepth 100000 in
set_option maxHeartbeats 4000000 in
theorem made_any (blocks : Int) (v : Value) (os : List OpD) (w : World) (hs : Script w.heap.size w v os) :
    Calls Try.prog 10 #[.int .i64 blocks, v] w fun e w' => ∃ D, e = .returned (.pointer (some ⟨D, 0, none⟩)) ∧ DRep (fun b => w.heap.size ≤ b) w' D (madeA blocks os) ∧ Below w.heap.size w w' := by
  obtain ⟨ad, cap, rfl, hlen, hcells⟩ := hs
  obtain ⟨m, hm1, hm2, hm3⟩ : ∃ m, m ≤ os.length ∧ m ≤ 500 ∧ (m = os.length ∨ m = 500) := by
    by_cases h : os.length ≤ 500
    · exact ⟨os.length, Nat.le_refl _, h, .inl rfl⟩
    · exact ⟨500, by omega, Nat.le_refl _, .inr rfl⟩
  have hbb : 0 ≤ bits .and .i64 blocks 127 ∧ bits .and .i64 blocks 127 ≤ 127 := bits_and_le blocks 127 (by omega)
  obtain ⟨c, hc⟩ : ∃ c : Nat, bits .and .i64 blocks 127 = (c : Int) := ⟨(bits .and .i64 blocks 127).toNat, by have := hbb.1; omega⟩
  have hc7 : c ≤ 127 := by have := hbb.2; omega
  have hwr : IntKind.i64.wrap (128 + (c : Int)) = ((128 + c : Nat) : Int) := by rw [IntKind.wrap_i64]; omega
  have hwr2 : (128 + (c : Int)) = ((128 + c : Nat) : Int) := by omega
  have hmade : madeA blocks os = foldA (newA (128 + c)) (os.take m) := by
    unfold madeA
    rw [hc]
    have : (os.take 500) = os.take m := by
      rcases hm3 with e | e
      · rw [e, List.take_length, List.take_of_length_le (by omega)]
      · rw [e]
    rw [this]; rfl
  rw [hmade]
  replace hmade := Lib.hid hmade
  replace hcells := Lib.hid hcells
  clear hbb
  have hn : ∀ w : World, Calls Try.prog 16 #[.int .i64 (128 + (c : Int))] w fun e w' => ∃ D, e = .returned (.tuple #[.pointer (some ⟨D, 0, none⟩), .int .i64 0]) ∧ DRep (fun b => w.heap.size ≤ b) w' D (newA (128 + c)) ∧ Below w.heap.size w w' := fun w => by
    rw [hwr2]; exact new_ok (128 + c) (by omega) (by omega) w
  have hrn : ∀ w : World, Calls Try.prog 17 #[.int .i64 (128 + (c : Int))] w fun e w' => ∃ R, e = .returned (.tuple #[.pointer (some ⟨R, 0, none⟩), .int .i64 0]) ∧ RRep (fun b => w.heap.size ≤ b) w' R (newA (128 + c)) ∧ Below w.heap.size w w' := fun w => by
    rw [hwr2]; exact rnew_ok (128 + c) (by omega) (by omega) w
  replace hn := Lib.hid hn
  replace hrn := Lib.hid hrn
  clear hwr hwr2
  have h0 : Hold w.heap.size w w [] := Hold.start w
  replace h0 := Lib.hid h0
  go_enter Try.func10, Try.ntmps10
  go_wp2_with fail
  refine (hn.out _).mono ?_; rintro e w1 ⟨D, rfl, h1, b1⟩
  have h2 : Hold w.heap.size w w1 [Dk D (newA (128 + c))] := h0.out.add (Dk.thing _ _) h1 b1
  replace h2 := Lib.hid h2
  clear h0 h1 b1
  go_wp2_with fail
  refine (hrn.out _).mono ?_; rintro e w2 ⟨R, rfl, h1, b1⟩
  have h3 : Hold w.heap.size w w2 [Dk D (newA (128 + c)), Rk R (newA (128 + c))] := h2.out.add (Rk.thing _ _) h1 b1
  replace h3 := Lib.hid h3
  clear h2 h1 b1
  go_wp2_with fail
  go_loopw [9] (fun i wr => ∃ k : Nat, k ≤ m ∧ i = .int .i64 k ∧ Hold w.heap.size w wr [Dk D (foldA (newA (128 + c)) (os.take k)), Rk R (foldA (newA (128 + c)) (os.take k))]) (fun i _ => m - (intOf i).toNat)
  case atStart => exact ⟨0, Nat.zero_le _, rfl, h3.out⟩
  case round =>
    obtain ⟨k, hk, rfl, h4⟩ := hrel
    by_cases hlt : k < m
    · have q1 : k < os.length := by omega
      have q2 : (k : Int) < 500 := by omega
      obtain ⟨b, off, kv, rfl, hbn, c0, c1, c2, c3, hkp, hkl⟩ := hcells.out k q1
      have hfr := h4.frame
      have d0 := (hfr.cell (p := ⟨b, _, none⟩) hbn).trans c0
      have d1 := (hfr.cell (p := ⟨b, _, none⟩) hbn).trans c1
      have d2 := (hfr.cell (p := ⟨b, _, none⟩) hbn).trans c2
      have d3 := (hfr.cell (p := ⟨b, _, none⟩) hbn).trans c3
      have hops := foldA_take_ops (newA (128 + c)) os k
      have hops0 : (newA (128 + c)).ops = 0 := rfl
      have hst := step_any h4 (by omega) os[k] kv hkp hkl
      rw [← foldA_snoc _ os k q1] at hst
      obtain ⟨x0, x1, x2, e0, e1, e2⟩ : ∃ x0 x1 x2, os[k].what = x0 ∧ os[k].blk = x1 ∧ os[k].fill = x2 := ⟨_, _, _, rfl, rfl, rfl⟩
      rw [e0] at d0 hst
      rw [e1] at d1 hst
      rw [e2] at d2 hst
      replace hst := Lib.hid hst
      clear c0 c1 c2 c3 e0 e1 e2 hkp hkl hops hops0 h4 hfr
      go_wp2_with fail
      refine hst.out.mono ?_; rintro e w4 ⟨rfl, h5⟩
      replace h5 := Lib.hid h5
      go_wp2_with fail
      go_roundw
      case rel => exact ⟨k + 1, by omega, by go_num, h5.out⟩
      case measure => simp [intOf]; omega
    · obtain rfl : k = m := by omega
      have hfr := h4.frame
      obtain ⟨col, h5⟩ := h4
      have h6 : DRep (fun b => w.heap.size ≤ b) wr D (foldA (newA (128 + c)) (os.take k)) := DRep.mono (h5.at_ 0 _ rfl) fun b _ hb => by
        rcases Nat.lt_or_ge b w.heap.size with h7 | h7
        · have := h5.base b h7
          have h8 : col b = 0 + 1 := hb
          omega
        · exact h7
      replace h6 := Lib.hid h6
      replace hfr := Lib.hid hfr
      clear h5
      by_cases h7 : k < os.length
      · have q2 : (500 : Int) ≤ (k : Int) := by omega
        go_wp2_with fail
        go_ret
        exact ⟨_, rfl, h6.out, hfr.out⟩
      · obtain rfl : k = os.length := by omega
        rw [List.take_length] at h6
        go_wp2_with fail
        go_ret
        exact ⟨_, rfl, by simpa using h6.out, hfr.out⟩

set_option maxRecDepth 100000 in
set_option maxHeartbeats 4000000 in
theorem alike_true {S S' : Nat → Prop} {D E : Nat} {a b : AD} (h1 : DRep S w D a) (h2 : DRep S' w E b) (hn : a.n = b.n) (hr : ∀ i : Nat, i < a.n → rdA a i = rdA b i) :
    Calls Try.prog 26 #[.pointer (some ⟨D, 0, none⟩), .pointer (some ⟨E, 0, none⟩)] w fun e w' => e = .returned (.bool true) ∧ Below w.heap.size w w' := by
  have hhi := h1.good.hi
  replace h1 := Lib.hid h1
  replace h2 := Lib.hid h2
  replace hn := Lib.hid hn
  replace hr := Lib.hid hr
  go_enter Try.func26, Try.ntmps26
  go_wp2_with fail
  go_loopw [5] (fun i wr => ∃ k : Nat, k ≤ a.n ∧ i = .int .i64 k ∧ Below w.heap.size w wr) (fun i _ => a.n - (intOf i).toNat)
  case atStart => exact ⟨0, Nat.zero_le _, rfl, Below.refl _ _⟩
  case round =>
    obtain ⟨k, hk, rfl, hbe⟩ := hrel
    have hb1 := blocks_cell _ _ _ (h1.out.below hbe).cell0
    have hb2 := blocks_cell _ _ _ (h2.out.below hbe).cell0
    rw [← hn.out] at hb2
    replace hb1 := Lib.hid hb1
    replace hb2 := Lib.hid hb2
    by_cases hlt : k < a.n
    · have q1 : (k : Int) < (a.n : Int) := by omega
      have r1 := (h1.out.below hbe).read_ok k (by omega) q1
      replace r1 := Lib.hid r1
      replace hbe := Lib.hid hbe
      clear hb2
      go_wp2_with fail
      refine hb1.out.mono ?_; rintro e wa ⟨rfl, rfl⟩
      go_wp2_with fail
      refine r1.out.mono ?_; rintro e w1 ⟨v, rfl, hv, hvl, b1⟩
      have hbe1 := hbe.out.trans (b1.mono hbe.out.size)
      have r2 := (h2.out.below hbe1).read_ok k (by omega) (by have := hn.out; omega)
      rw [← hr.out k hlt] at r2
      replace r2 := Lib.hid r2
      replace hbe1 := Lib.hid hbe1
      replace hv := Lib.hid hv
      replace hvl := Lib.hid hvl
      clear b1 hb1 hbe r1
      go_wp2_with fail
      refine r2.out.mono ?_; rintro e w2 ⟨u, rfl, hu, -, b2⟩
      have hbe2 := hbe1.out.trans (b2.mono hbe1.out.size)
      have hs := same_any ((hv.out.below b2).bts) hu.bts (by have := hvl.out; omega)
      rw [beq_self_eq_true] at hs
      replace hs := Lib.hid hs
      replace hbe2 := Lib.hid hbe2
      clear hu b2 hbe1 hv r2
      go_wp2_with fail
      refine hs.out.mono ?_; rintro e w3 ⟨rfl, m, hm⟩
      have hbe3 : Below w.heap.size w w3 := hbe2.out.trans (by rw [hm]; exact (drewN_below _ _).mono hbe2.out.size)
      replace hbe3 := Lib.hid hbe3
      clear hm hs hbe2
      go_wp2_with fail
      go_roundw
      case rel => exact ⟨k + 1, by omega, by go_num, hbe3.out⟩
      case measure => simp [intOf]; omega
    · obtain rfl : k = a.n := by omega
      replace hbe := Lib.hid hbe
      go_wp2_with fail
      refine hb1.out.mono ?_; rintro e wa ⟨rfl, rfl⟩
      go_wp2_with fail
      refine hb1.out.mono ?_; rintro e wb ⟨rfl, rfl⟩
      go_wp2_with fail
      refine hb2.out.mono ?_; rintro e wc ⟨rfl, rfl⟩
      go_wp2_with fail
      go_ret
      exact ⟨by simp, hbe.out⟩
end Go.Proofs.Ytpokfbmgcokkbaa
