/- The table of locks and the reference's, side by side. -/
import Derived.Test.YthnffhhbdihalaaRefRow
namespace Go.Proofs.Ythnffhhbdihalaa
open Go.RowKit Go.Shelf

/-- The blocks Pr are as they were in w0. -/
structure Fr (Pr : Nat → Prop) (w0 w : World) : Prop where
  lt : ∀ b, Pr b → b < w0.heap.size
  os : w.os = w0.os
  tape : w.tape = w0.tape
  output : w.output = w0.output
  size : w0.heap.size ≤ w.heap.size
  same : ∀ b, Pr b → w.heap[b]? = w0.heap[b]?

theorem Fr.kept {Pr S : Nat → Prop} {w0 w w' : World} (h : Fr Pr w0 w) (hk : Kept S w w') (hs : ∀ b, S b → ¬ Pr b) : Fr Pr w0 w' :=
  ⟨h.lt, hk.os.trans h.os, hk.tape.trans h.tape, hk.output.trans h.output, Nat.le_trans h.size hk.size, fun b hp => (hk.block b (Nat.lt_of_lt_of_le (h.lt b hp) h.size) (fun x => hs b x hp)).trans (h.same b hp)⟩
theorem Fr.below {Pr : Nat → Prop} {w0 w w' : World} (h : Fr Pr w0 w) (hb : Below w.heap.size w w') : Fr Pr w0 w' := h.kept (S := fun _ => False) (Kept.of_below hb) (fun _ x => x.elim)
theorem Fr.weaken {Pr Pr' : Nat → Prop} {w0 w : World} (h : Fr Pr w0 w) (hp : ∀ b, Pr' b → Pr b) : Fr Pr' w0 w := ⟨fun b hb => h.lt b (hp b hb), h.os, h.tape, h.output, h.size, fun b hb => h.same b (hp b hb)⟩
theorem Fr.toBelow {Pr : Nat → Prop} {w0 w : World} {n₀ : Nat} (h : Fr Pr w0 w) (hp : ∀ b, b < n₀ → Pr b) : Below n₀ w0 w := ⟨h.os, h.tape, h.output, h.size, fun k hk => h.same k (hp k hk)⟩

theorem RefAt.lt {w : World} {Rb : Nat} {v : Value} {l : List RC} (h : RefAt w Rb v l) : Rb < w.heap.size := (Array.getElem?_eq_some_iff.1 h.cell).1
theorem RefAt.blk {w : World} {Rb : Nat} {v : Value} {l : List RC} (h : RefAt w Rb v l) {b : Nat} (hb : v.ownBlock = some b) : b < w.heap.size := (h.own.lt b hb).2
theorem RefAt.kept {w w' : World} {Rb : Nat} {v : Value} {l : List RC} (h : RefAt w Rb v l) (h1 : w'.heap[Rb]? = w.heap[Rb]?) (h2 : ∀ b, v.ownBlock = some b → w'.heap[b]? = w.heap[b]?) : RefAt w' Rb v l := by
  refine ⟨h1.trans h.cell, h.own.1, ?_⟩
  rcases h.own.2 with h3 | ⟨g, cap, cur, rfl, a1, a2, a3⟩
  · exact .inl h3
  · exact .inr ⟨g, cap, cur, rfl, a1, (h2 g rfl).trans a2, a3⟩
theorem RefAt.below {w w' : World} {Rb : Nat} {v : Value} {l : List RC} (h : RefAt w Rb v l) (hb : Below w.heap.size w w') : RefAt w' Rb v l := h.kept (hb.block Rb h.lt) (fun b e => hb.block b (h.blk e))

def Both (Pr : Nat → Prop) (w0 w : World) (T Rb : Nat) (R : Int → List Clm) (l : List RC) : Prop :=
  ∃ S M f v, Tab S w T M f R ∧ RefAt w Rb v l ∧ (∀ b, S b → ¬ Pr b ∧ b ≠ Rb ∧ v.ownBlock ≠ some b) ∧ ¬ Pr Rb ∧ (∀ b, v.ownBlock = some b → ¬ Pr b) ∧ Fr Pr w0 w

variable {Pr : Nat → Prop} {w0 w : World} {T Rb : Nat} {R : Int → List Clm} {l : List RC}

theorem Both.below {w' : World} (h : Both Pr w0 w T Rb R l) (hb : Below w.heap.size w w') : Both Pr w0 w' T Rb R l := by
  obtain ⟨S, M, f, v, ht, hr, h1, h2, h3, hf⟩ := h
  exact ⟨S, M, f, v, ht.below hb, hr.below hb, h1, h2, h3, hf.below hb⟩
theorem Both.drewN (h : Both Pr w0 w T Rb R l) (n : Nat) : Both Pr w0 (w.drewN n) T Rb R l := h.below ⟨rfl, rfl, rfl, Nat.le_refl _, fun _ _ => rfl⟩
theorem Both.fr (h : Both Pr w0 w T Rb R l) : Fr Pr w0 w := by obtain ⟨S, M, f, v, ht, hr, h1, h2, h3, hf⟩ := h; exact hf
theorem Both.weaken {Pr' : Nat → Prop} (h : Both Pr w0 w T Rb R l) (hp : ∀ b, Pr' b → Pr b) : Both Pr' w0 w T Rb R l := by
  obtain ⟨S, M, f, v, ht, hr, h1, h2, h3, hf⟩ := h
  exact ⟨S, M, f, v, ht, hr, fun b hb => ⟨fun hq => (h1 b hb).1 (hp b hq), (h1 b hb).2⟩, fun hq => h2 (hp _ hq), fun b hb hq => h3 b hb (hp b hq), hf.weaken hp⟩
/-- The same, told from another world on, where the protected blocks are as they were. -/
theorem Both.rebase (h : Both Pr w0 w T Rb R l) : Both Pr w w T Rb R l := by
  obtain ⟨S, M, f, v, ht, hr, h1, h2, h3, hf⟩ := h
  exact ⟨S, M, f, v, ht, hr, h1, h2, h3, ⟨fun b hb => Nat.lt_of_lt_of_le (hf.lt b hb) hf.size, rfl, rfl, rfl, Nat.le_refl _, fun _ _ => rfl⟩⟩

/-- What was told from a later world on is told from the first one on. -/
theorem Both.back {Pr' : Nat → Prop} {wd : World} (h : Both Pr' wd w T Rb R l) (hf : Fr Pr w0 wd) (hp : ∀ b, Pr b → Pr' b) : Both Pr w0 w T Rb R l := by
  have h' := h.weaken hp
  obtain ⟨S, M, f, v, ht, hr, h1, h2, h3, hf'⟩ := h'
  exact ⟨S, M, f, v, ht, hr, h1, h2, h3, ⟨hf.lt, hf'.os.trans hf.os, hf'.tape.trans hf.tape, hf'.output.trans hf.output, Nat.le_trans hf.size hf'.size, fun b hb => (hf'.same b hb).trans (hf.same b hb)⟩⟩

/-- A protected block is written: the rest stays. -/
theorem Both.poke {w' : World} {g : Nat} (h : Both Pr w0 w T Rb R l) (hg : Pr g) (hk : Kept (fun b => b = g) w w') : Both Pr w' w' T Rb R l := by
  obtain ⟨S, M, f, v, ht, hr, h1, h2, h3, hf⟩ := h
  refine ⟨S, M, f, v, ht.kept hk (fun b hb e => (h1 b hb).1 (e ▸ hg)), hr.kept (hk.block Rb hr.lt (fun e => h2 (e ▸ hg))) (fun b hb => hk.block b (hr.blk hb) (fun e => h3 b hb (e ▸ hg))), h1, h2, h3, ⟨fun b hb => ?_, rfl, rfl, rfl, Nat.le_refl _, fun _ _ => rfl⟩⟩
  have := hf.lt b hb; have := hf.size; have := hk.size; omega

theorem Both.tab {w' : World} {S S' : Nat → Prop} {M M' : Nat} {f f' : Int → Option Value} {R' : Int → List Clm} {v : Value} (ht : Tab S w T M f R) (hr : RefAt w Rb v l) (h1 : ∀ b, S b → ¬ Pr b ∧ b ≠ Rb ∧ v.ownBlock ≠ some b) (h2 : ¬ Pr Rb) (h3 : ∀ b, v.ownBlock = some b → ¬ Pr b) (hf : Fr Pr w0 w)
    (ht' : Tab S' w' T M' f' R') (hn : ∀ b, S' b → S b ∨ w.heap.size ≤ b) (hk : Kept S w w') : Both Pr w0 w' T Rb R' l := by
  refine ⟨S', M', f', v, ht', hr.kept (hk.block Rb hr.lt (fun hs => (h1 _ hs).2.1 rfl)) (fun b hb => hk.block b (hr.blk hb) (fun hs => (h1 _ hs).2.2 hb)), fun b hb => ?_, h2, h3, hf.kept hk (fun b hb => (h1 b hb).1)⟩
  rcases hn b hb with hb | hb
  · exact h1 b hb
  · exact ⟨fun hp => by have := hf.lt b hp; have := hf.size; omega, fun e => by have := hr.lt; omega, fun e => by have := hr.blk e; omega⟩

theorem Both.ref {w' : World} {S : Nat → Prop} {M : Nat} {f : Int → Option Value} {v : Value} {l' : List RC} (ht : Tab S w T M f R) (hr : RefAt w Rb v l) (h1 : ∀ b, S b → ¬ Pr b ∧ b ≠ Rb ∧ v.ownBlock ≠ some b) (h2 : ¬ Pr Rb) (h3 : ∀ b, v.ownBlock = some b → ¬ Pr b) (hf : Fr Pr w0 w)
    (hd : RefDone w Rb v l' w') : Both Pr w0 w' T Rb R l' := by
  obtain ⟨v', hr', hn, hk⟩ := hd
  refine ⟨S, M, f, v', ht.kept hk (fun b hb hs => hs.elim (fun e => (h1 b hb).2.1 e) (fun e => (h1 b hb).2.2 e)), hr', fun b hb => ⟨(h1 b hb).1, (h1 b hb).2.1, fun e => ?_⟩, h2, fun b hb hp => ?_, hf.kept hk (fun b hb hp => hb.elim (fun e => h2 (e ▸ hp)) (fun e => h3 b e hp))⟩
  · rcases hn b e with h | h
    · exact (h1 b hb).2.2 h
    · have := ht.lt b hb; omega
  · rcases hn b hb with h | h
    · exact h3 b h hp
    · have := hf.lt b hp; have := hf.size; omega

theorem Both.ask (h : Both Pr w0 w T Rb R l) (th key : Int) (al : Bool) :
    Calls Try.prog 12 #[.pointer (some ⟨T, 0, none⟩), .int .i64 th, .int .i64 key, .bool al] w fun e w' => e = .returned (.int .i64 (askE R th key)) ∧ Both Pr w0 w' T Rb (askR R th key al) l := by
  obtain ⟨S, M, f, v, ht, hr, h1, h2, h3, hf⟩ := h
  exact (ht.ask th key al).mono fun e w' ⟨he, f', S', a1, a2, a3⟩ => ⟨he, Both.tab ht hr h1 h2 h3 hf a1 a2 a3⟩
theorem Both.leave (h : Both Pr w0 w T Rb R l) (th key : Int) :
    Calls Try.prog 14 #[.pointer (some ⟨T, 0, none⟩), .int .i64 th, .int .i64 key] w fun e w' => e = .returned (.int .i64 (leaveE R th key)) ∧ Both Pr w0 w' T Rb (leaveR R th key) l := by
  obtain ⟨S, M, f, v, ht, hr, h1, h2, h3, hf⟩ := h
  exact (ht.leave th key).mono fun e w' ⟨he, f', S', a1, a2, a3⟩ => ⟨he, Both.tab ht hr h1 h2 h3 hf a1 a2 a3⟩
theorem Both.holds (h : Both Pr w0 w T Rb R l) (th key : Int) :
    Calls Try.prog 16 #[.pointer (some ⟨T, 0, none⟩), .int .i64 th, .int .i64 key] w fun e w' => e = .returned (.bool (findV (R key) th).2.2) ∧ Both Pr w0 w' T Rb R l := by
  have h' := h
  obtain ⟨S, M, f, v, ht, hr, h1, h2, h3, hf⟩ := h
  exact (ht.holds th key).mono fun e w' ⟨he, hb⟩ => ⟨he, h'.below hb⟩
theorem Both.free (h : Both Pr w0 w T Rb (keyRow l) l) :
    Calls Try.prog 20 #[.pointer (some ⟨T, 0, none⟩)] w fun e w' => e = .returned (.bool ((l.length : Int) == 0)) ∧ w' = w := by
  obtain ⟨S, M, f, v, ht, hr, h1, h2, h3, hf⟩ := h
  refine ht.free.mono ?_
  rintro e w' ⟨b, rfl, hb, rfl⟩
  refine ⟨?_, rfl⟩
  have : b = ((l.length : Int) == 0) := by
    rw [Bool.eq_iff_iff, hb, isFree_row, beq_iff_eq]
    constructor
    · rintro rfl; rfl
    · intro h; exact List.length_eq_zero_iff.1 (by omega)
  rw [this]
theorem Both.rask (h : Both Pr w0 w T Rb R l) (hl : l.length ≤ 100000) (th key : Int) (al : Bool) :
    Calls Try.prog 13 #[.pointer (some ⟨Rb, 0, none⟩), .int .i64 th, .int .i64 key, .bool al] w fun e w' => e = .returned (.int .i64 (askE (keyRow l) th key)) ∧ Both Pr w0 w' T Rb R (askL l th key al) := by
  obtain ⟨S, M, f, v, ht, hr, h1, h2, h3, hf⟩ := h
  exact (hr.ask hl th key al).mono fun e w' ⟨he, hd⟩ => ⟨he, Both.ref ht hr h1 h2 h3 hf hd⟩
theorem Both.rleave (h : Both Pr w0 w T Rb R l) (hl : l.length ≤ 100000) (th key : Int) :
    Calls Try.prog 15 #[.pointer (some ⟨Rb, 0, none⟩), .int .i64 th, .int .i64 key] w fun e w' => e = .returned (.int .i64 (leaveE (keyRow l) th key)) ∧ ∃ l', Both Pr w0 w' T Rb R l' ∧ keyRow l' = leaveR (keyRow l) th key ∧ l'.length ≤ l.length := by
  obtain ⟨S, M, f, v, ht, hr, h1, h2, h3, hf⟩ := h
  exact (hr.leave hl th key).mono fun e w' ⟨he, l', hd, h4, h5⟩ => ⟨he, l', Both.ref ht hr h1 h2 h3 hf hd, h4, h5⟩
theorem Both.rholds (h : Both Pr w0 w T Rb R l) (hl : l.length ≤ 100000) (th key : Int) :
    Calls Try.prog 17 #[.pointer (some ⟨Rb, 0, none⟩), .int .i64 th, .int .i64 key] w fun e w' => e = .returned (.bool (findV (keyRow l key) th).2.2) ∧ w' = w := by
  obtain ⟨S, M, f, v, ht, hr, h1, h2, h3, hf⟩ := h
  exact rholds_any w Rb v l th key (Boxed.cell hr.cell) hr.row hl
theorem Both.ths (h : Both Pr w0 w T Rb R l) (key : Int) : ((R key).map Clm.th).Nodup ∧ ∀ c ∈ R key, 1 ≤ c.th ∧ c.th ≤ 64 := by obtain ⟨S, M, f, v, ht, _⟩ := h; exact ht.ths key
theorem Both.small (h : Both Pr w0 w T Rb R l) (key : Int) : (R key).length ≤ 64 := by obtain ⟨S, M, f, v, ht, _⟩ := h; exact ht.small key
theorem Both.row (h : Both Pr w0 w T Rb R l) : ∃ v, w.cell? ⟨Rb, 0, none⟩ = some v ∧ RRow w v l := by obtain ⟨S, M, f, v, ht, hr, _⟩ := h; exact ⟨v, Boxed.cell hr.cell, hr.row⟩
theorem Both.claims (h : Both Pr w0 w T Rb R l) (key : Int) :
    Calls Try.prog 18 #[.pointer (some ⟨T, 0, none⟩), .int .i64 key] w fun e w' =>
      ∃ v, e = .returned v ∧ ClaimsAt w' v (R key) ∧ (∀ b, inBlock v b → w.heap.size ≤ b) ∧ Both Pr w0 w' T Rb R l ∧ Both (fun b => Pr b ∨ inBlock v b) w' w' T Rb R l ∧ Below w.heap.size w w' := by
  have h' := h
  obtain ⟨S, M, f, v, ht, hr, h1, h2, h3, hf⟩ := h
  refine (ht.claims key).mono ?_
  rintro e w' ⟨u, he, ho, hb⟩
  obtain ⟨hc, hi⟩ := ClaimsAt.of_owns ho
  have hb' := h'.below hb
  refine ⟨u, he, hc, fun b hb => (hi b hb).1, hb', ⟨S, M, f, v, ht.below hb, hr.below hb, fun b hs => ⟨?_, (h1 b hs).2⟩, ?_, fun b hv => ?_, ⟨fun b hp => ?_, rfl, rfl, rfl, Nat.le_refl _, fun _ _ => rfl⟩⟩, hb⟩
  · rintro (hp | hp)
    · exact (h1 b hs).1 hp
    · have := ht.lt b hs; have := (hi b hp).1; omega
  · rintro (hp | hp)
    · exact h2 hp
    · have := hr.lt; have := (hi _ hp).1; omega
  · rintro (hp | hp)
    · exact h3 b hv hp
    · have := hr.blk hv; have := (hi b hp).1; omega
  · rcases hp with hp | hp
    · have := hf.lt b hp; have := hf.size; have := hb.size; omega
    · exact (hi b hp).2
end Go.Proofs.Ythnffhhbdihalaa
