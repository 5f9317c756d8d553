/- A disk: Flush, Crash. -/
import Derived.Test.YtpokfbmgcokkbaaSettle
namespace Go.Proofs.Ytpokfbmgcokkbaa
open Go.RowKit Go.Shelf
attribute [local go_sem] Oper.semAt_some

variable {S S' : Nat → Prop} {w w' : World} {D : Nat} {a : AD}

theorem DRep.froz (h : DRep S w D a) (i : Nat) : w.frozen? ⟨D, i, none⟩ = false := by obtain ⟨_, _, _, _, _, h⟩ := h; simp [World.frozen?, h.cell]

theorem flush1_any (w : World) (k : Int) : Calls Try.prog 35 #[.int .i64 k] w fun e w' => e = .returned (.bool true) ∧ w' = w := by
  go_enter Try.func35, Try.ntmps35
  go_wp2_with fail
  go_ret
  exact ⟨rfl, rfl⟩

/-- A slice of bools, in a block that Q tells of. -/
def Keeps (Q : Nat → Prop) (w : World) (v : Value) (ks : List Bool) : Prop :=
  ∃ ad cap, v = .slice ad ks.length cap ∧ ∀ i (h : i < ks.length), ∃ b off, ad = some ⟨b, off, none⟩ ∧ Q b ∧ w.cell? ⟨b, off + i, none⟩ = some (.bool ks[i])

theorem Keeps.kept {Q : Nat → Prop} {v : Value} {ks : List Bool} (h : Keeps Q w v ks) (hk : ∀ b, Q b → w'.heap[b]? = w.heap[b]?) : Keeps Q w' v ks := by
  obtain ⟨ad, cap, rfl, h2⟩ := h
  refine ⟨ad, cap, rfl, fun i hi => ?_⟩
  obtain ⟨b, off, e, hq, hc⟩ := h2 i hi
  exact ⟨b, off, e, hq, (World.cell?_of_block (a := ⟨b, _, none⟩) (hk b hq)).trans hc⟩

def keepAt (ks : List Bool) (k : Nat) : Bool := (ks[k]?).getD false

theorem crash1_any {Q : Nat → Prop} (w : World) (B : Nat) (v : Value) (ks : List Bool) (hB : w.cell? ⟨B, 0, none⟩ = some v) (hk : Keeps Q w v ks) (k : Nat) :
    Calls Try.prog 39 #[.int .i64 (k : Int), .pointer (some ⟨B, 0, none⟩)] w fun e w' => e = .returned (.bool (keepAt ks k)) ∧ w' = w := by
  obtain ⟨ad, cap, rfl, h2⟩ := hk
  by_cases hlt : k < ks.length
  · obtain ⟨b, off, rfl, _, hc⟩ := h2 k hlt
    have hr : keepAt ks k = ks[k] := by simp [keepAt, hlt]
    rw [hr]
    generalize ks[k] = x at *
    clear h2 hr
    go_enter Try.func39, Try.ntmps39
    go_wp2_with fail
    go_ret
    exact ⟨rfl, rfl⟩
  · have hr : keepAt ks k = false := by simp [keepAt]; rw [List.getElem?_eq_none (by omega)]; rfl
    rw [hr]
    have hq : ks.length ≤ k := by omega
    clear h2 hr hlt
    go_enter Try.func39, Try.ntmps39
    go_wp2_with fail
    go_ret
    exact ⟨rfl, rfl⟩

theorem DRep.bump (h : DRep S w D a) : DRep S (w.setCell ⟨D, 4, none⟩ (.int .i64 ((a.ops : Int) + 1))) D { a with ops := a.ops + 1 } := by
  obtain ⟨Md, Mn, pv, fd, qs, h⟩ := h
  have hDM := map_other h.cell h.mn
  have hDd := map_other h.cell h.md
  have hk : ∀ b, b ≠ D → (w.setCell ⟨D, 4, none⟩ (.int .i64 ((a.ops : Int) + 1))).heap[b]? = w.heap[b]? := fun b h1 => Below.heap_setCell _ _ _ _ h1
  have hbb : ∀ v bs, BB S w v bs → BB S (w.setCell ⟨D, 4, none⟩ (.int .i64 ((a.ops : Int) + 1))) v bs := fun v bs hb =>
    ⟨hb.1, hb.2.1.kept fun b hbv => hk b (fun e => row_other hb.2.1 h.cell (by decide) (e ▸ hbv)), hb.2.2⟩
  have hg := h.good
  refine ⟨Md, Mn, pv, fd, qs, { hD := h.hD, hMd := h.hMd, hMn := h.hMn, cell := ?_, md := h.md.of_block (hk Md (Ne.symm hDd)), mn := h.mn.of_block (hk Mn (Ne.symm hDM)), ne := h.ne, prow := ⟨⟨h.prow.1.1, ?_⟩, h.prow.2.1, fun q hq => hbb _ _ (h.prow.2.2 q hq)⟩, pend := h.pend, some_ := fun i v hv => hbb _ _ (h.some_ i v hv), none_ := h.none_, good := ⟨hg.lo, hg.hi, hg.done, hg.pend, Nat.le_succ_of_le hg.few⟩ }⟩
  · rw [setCell_heap _ _ _ _ _ _ h.cell]; rfl
  · rcases h.prow.1.2 with h6 | ⟨g, cap, cur, e, a1, a2, a3⟩
    · exact .inl h6
    · exact .inr ⟨g, cap, cur, e, a1, (hk g (fun e' => row_other h.prow.1 h.cell (by decide) (by rw [e, ← e']; rfl))).trans a2, a3⟩

def flA (a : AD) : AD := { setA a (fun _ => true) with ops := a.ops + 1 }

theorem flush_none (w : World) (p : Option Addr) (hb : Calls Try.prog 14 #[.pointer p] w fun e w' => e = .returned (.int .i64 0) ∧ w' = w) :
    Calls Try.prog 21 #[.pointer p] w fun e w' => e = .returned (.tuple #[]) ∧ w' = w := by
  replace hb := Lib.hid hb
  go_enter Try.func21, Try.ntmps21
  go_wp2_with (go_at_call 14; refine hb.out.mono ?_; rintro e w' ⟨rfl, rfl⟩)
  refine bodyPost_ret (results_none rfl _ _ _) rfl ?_
  exact ⟨rfl, rfl⟩

theorem DRep.flush (h : DRep S w D a) (hop : a.ops ≤ 1000000) :
    Calls Try.prog 21 #[.pointer (some ⟨D, 0, none⟩)] w fun e w' => e = .returned (.tuple #[]) ∧ DRep S w' D (flA a) ∧ Kept S w w' := by
  have hb := blocks_cell w D a.n h.cell0
  have hs := h.settle hop (fun _ => true) (fun _ => True) trivial (fun _ _ _ _ => trivial) 35 #[] (enters_of Try.func35 (by kernel_rfl) rfl) (fun wr k _ _ => flush1_any wr k)
  have hlo := h.good.lo
  have hz : ((a.n : Int) == 0) = false := by simp; omega
  have hwr : IntKind.i64.wrap ((a.ops : Int) + 1) = (a.ops : Int) + 1 := by rw [IntKind.wrap_i64]; omega
  have hD : S D := by obtain ⟨_, _, _, _, _, h⟩ := h; exact h.hD
  replace hb := Lib.hid hb
  replace hs := Lib.hid hs
  replace hD := Lib.hid hD
  clear h
  go_enter Try.func21, Try.ntmps21
  go_wp2_with (first
    | (go_at_call 14; refine hb.out.mono ?_; rintro e w' ⟨rfl, rfl⟩)
    | (go_at_call 34; refine hs.out.mono ?_; rintro e w1 ⟨rfl, hd, hk⟩
       have c4 : w1.cell? ⟨D, 4, none⟩ = some (.int .i64 a.ops) := hd.cell4
       have z4 : w1.frozen? ⟨D, 4, none⟩ = false := hd.froz 4
       replace hd := Lib.hid hd
       replace hk := Lib.hid hk))
  go_end0
  exact ⟨rfl, hd.out.bump, hk.out.setCell (p := ⟨D, 4, none⟩) (fun _ => hD.out) _⟩

theorem crash_none (w : World) (p : Option Addr) (v : Value) (hv : ∃ ad l c, v = .slice ad l c) (hb : ∀ o, Calls Try.prog 14 #[.pointer p] (w.alloc o) fun e w' => e = .returned (.int .i64 0) ∧ w' = w.alloc o) :
    Calls Try.prog 23 #[.pointer p, v] w fun e w' => e = .returned (.tuple #[]) ∧ Below w.heap.size w w' := by
  obtain ⟨ad, l, c, rfl⟩ := hv
  replace hb := Lib.hid hb
  go_enter Try.func23, Try.ntmps23
  go_wp2_with (go_at_call 14; refine (hb.out _).mono ?_; rintro e w' ⟨rfl, rfl⟩)
  go_end0
  exact ⟨rfl, (Below.refl _ _).alloc (Nat.le_refl _) _⟩

theorem DRep.crash {Q : Nat → Prop} {v : Value} {ks : List Bool} (h : DRep S w D a) (hop : a.ops ≤ 1000000) (hk : Keeps Q w v ks) (hQ : ∀ b, Q b → b < w.heap.size ∧ ¬ S b) :
    Calls Try.prog 23 #[.pointer (some ⟨D, 0, none⟩), v] w fun e w' => e = .returned (.tuple #[]) ∧ DRep S w' D (setA a (keepAt ks)) ∧ Kept S w w' := by
  obtain ⟨ad, kc, rfl, -⟩ : ∃ ad c, v = .slice ad ks.length c ∧ True := by obtain ⟨ad, c, e, _⟩ := hk; exact ⟨ad, c, e, trivial⟩
  have h0 : DRep (fun b => S b ∧ b < w.heap.size) w D a := h.mono fun b hb hs => ⟨hs, hb⟩
  have hlo := h.good.lo
  have hz : (0 : Int) < (a.n : Int) := by omega
  have hstep := fun o => by
    have hbe : Below w.heap.size w (w.alloc o) := (Below.refl _ w).alloc (Nat.le_refl _) o
    exact And.intro (blocks_cell (w.alloc o) D a.n (h0.below hbe).cell0) (h0.below hbe)
  have hset : ∀ (W : World), W = w.alloc (.cells #[.slice ad ks.length kc] 44) → Calls Try.prog 34 #[.pointer (some ⟨D, 0, none⟩), .func (.func 39) #[] #[.pointer (some ⟨w.heap.size, 0, none⟩)]] W fun e w' => e = .returned (.tuple #[]) ∧ DRep (fun b => S b ∧ b < w.heap.size) w' D (setA a (keepAt ks)) ∧ Kept (fun b => S b ∧ b < w.heap.size) W w' := by
    intro W hW
    have hbe : Below w.heap.size w W := by rw [hW]; exact (Below.refl _ w).alloc (Nat.le_refl _) _
    refine (h0.below hbe).settle hop (keepAt ks) (fun wr => w.heap.size < wr.heap.size ∧ wr.cell? ⟨w.heap.size, 0, none⟩ = some (.slice ad ks.length kc) ∧ Keeps Q wr (.slice ad ks.length kc) ks) ?_ ?_ 39 _ (enters_of Try.func39 (by kernel_rfl) rfl) (fun wr k _ hP => crash1_any wr _ _ ks hP.2.1 hP.2.2 k)
    · refine ⟨by rw [hW]; simp, by rw [hW]; exact (Boxed.new w 44 _).cell, hk.kept fun b hb => hbe.block b (hQ b hb).1⟩
    · rintro w1 w2 ⟨hlt, hc, hks⟩ hkp
      refine ⟨Nat.lt_of_lt_of_le hlt hkp.size, (World.cell?_of_block (a := ⟨w.heap.size, 0, none⟩) (hkp.block _ hlt (fun h => Nat.lt_irrefl _ h.2))).trans hc, hks.kept fun b hb => hkp.block b ?_ (fun h => (hQ b hb).2 h.1)⟩
      have := (hQ b hb).1
      omega
  replace hset := Lib.hid hset
  replace hstep := Lib.hid hstep
  clear h h0 hk
  go_enter Try.func23, Try.ntmps23
  go_wp2_with (first
    | (go_at_call 14; refine (hstep.out _).1.mono ?_; rintro e w' ⟨rfl, rfl⟩)
    | (go_at_call 34; refine (hset.out _ rfl).mono ?_; rintro e w1 ⟨rfl, hd, hkp⟩; replace hd := Lib.hid hd; replace hkp := Lib.hid hkp))
  go_end0
  refine ⟨rfl, hd.out.mono fun b _ hb => hb.1, ?_⟩
  exact ((Kept.refl S w).alloc _).trans (hkp.out.mono fun k _ hk => hk.1)
end Go.Proofs.Ytpokfbmgcokkbaa
