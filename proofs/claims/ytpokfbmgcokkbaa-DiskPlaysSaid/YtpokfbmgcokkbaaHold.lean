/- Many things in memory at once: each lies in blocks of its own colour. -/
import Derived.Test.YtpokfbmgcokkbaaRef3
namespace Go.Proofs.Ytpokfbmgcokkbaa
open Go.RowKit Go.Shelf
attribute [local go_sem] Oper.semAt_some

/-- What lies in memory, told of the blocks that it may lie in. -/
abbrev Th := (Nat → Prop) → World → Prop

structure Thing (T : Th) : Prop where
  kept : ∀ {S : Nat → Prop} {w w' : World}, T S w → (∀ b, S b → b < w.heap.size → w'.heap[b]? = w.heap[b]?) → T S w'
  mono : ∀ {S S' : Nat → Prop} {w : World}, T S w → (∀ b, b < w.heap.size → S b → S' b) → T S' w

structure HoldAt (n₀ : Nat) (w0 w : World) (l : List Th) (col : Nat → Nat) : Prop where
  frame : Below n₀ w0 w
  le : n₀ ≤ w.heap.size
  thing : ∀ T ∈ l, Thing T
  base : ∀ b, b < n₀ → col b = 0
  at_ : ∀ (i : Nat) (T : Th), l[i]? = some T → T (fun b => col b = i + 1) w

/-- The things of l lie in memory, all behind n₀, each apart from the others; below n₀ memory is as w0 was. -/
def Hold (n₀ : Nat) (w0 w : World) (l : List Th) : Prop := ∃ col, HoldAt n₀ w0 w l col

variable {n₀ : Nat} {w0 w w' : World} {l : List Th} {col : Nat → Nat} {T T' : Th} {i : Nat}

theorem Hold.frame (h : Hold n₀ w0 w l) : Below n₀ w0 w := by obtain ⟨_, h⟩ := h; exact h.frame
theorem Hold.le (h : Hold n₀ w0 w l) : n₀ ≤ w.heap.size := by obtain ⟨_, h⟩ := h; exact h.le
theorem Hold.start (w : World) : Hold w.heap.size w w [] := ⟨fun _ => 0, Below.refl _ _, Nat.le_refl _, fun T h => (by cases h), fun _ _ => rfl, fun i T h => by simp at h⟩
theorem Hold.get (h : Hold n₀ w0 w l) (i : Nat) (hi : l[i]? = some T) : ∃ S : Nat → Prop, T S w := by obtain ⟨_, h⟩ := h; exact ⟨_, h.at_ i T hi⟩

theorem Hold.below (h : Hold n₀ w0 w l) (hb : Below w.heap.size w w') : Hold n₀ w0 w' l := by
  obtain ⟨col, h⟩ := h
  refine ⟨col, h.frame.trans (hb.mono h.le), Nat.le_trans h.le hb.size, h.thing, h.base, fun i T hi => ?_⟩
  exact (h.thing T (List.mem_of_getElem? hi)).kept (h.at_ i T hi) fun b _ hl => hb.block b hl

/-- One more thing, in new blocks. -/
theorem Hold.add (h : Hold n₀ w0 w l) (hT : Thing T) (h1 : T (fun b => w.heap.size ≤ b) w') (hb : Below w.heap.size w w') : Hold n₀ w0 w' (l ++ [T]) := by
  obtain ⟨col, h⟩ := h
  refine ⟨fun b => if b < w.heap.size then (if col b ≤ l.length then col b else 0) else l.length + 1, h.frame.trans (hb.mono h.le), Nat.le_trans h.le hb.size, fun T hT' => ?_, fun b hb' => ?_, fun i T hi => ?_⟩
  · rcases List.mem_append.1 hT' with h2 | h2
    · exact h.thing T h2
    · simp at h2; subst h2; exact hT
  · have h3 := h.le
    simp only [show b < w.heap.size by omega, if_true, h.base b hb', Nat.zero_le]
  · by_cases hil : i < l.length
    · rw [List.getElem?_append_left hil] at hi
      have ht := h.thing T (List.mem_of_getElem? hi)
      refine ht.kept (ht.mono (h.at_ i T hi) fun b hb1 hb2 => ?_) fun b hb1 hb2 => hb.block b hb2
      simp only [hb1, if_true]
      rw [if_pos (by omega)]; exact hb2
    · rw [List.getElem?_append_right (by omega)] at hi
      have hi0 : i = l.length := by
        have := (List.getElem?_eq_some_iff.1 hi).1
        simp at this; omega
      subst hi0
      simp at hi
      subst hi
      refine hT.mono h1 fun b hb1 hb2 => ?_
      simp only [show ¬ (b < w.heap.size) by omega, if_false]

/-- One of the things has turned; what is new in memory is its own. -/
theorem HoldAt.turn (h : HoldAt n₀ w0 w l col) (i : Nat) (hi : l[i]? = some T) (ht : Thing T') (h1 : T' (fun b => col b = i + 1 ∨ w.heap.size ≤ b) w') (hk : Kept (fun b => col b = i + 1) w w') : Hold n₀ w0 w' (l.set i T') := by
  have hil : i < l.length := (List.getElem?_eq_some_iff.1 hi).1
  refine ⟨fun b => if b < w.heap.size then col b else i + 1, h.frame.trans (hk.below h.le fun b hb hc => ?_), Nat.le_trans h.le hk.size, fun T hT' => ?_, fun b hb' => ?_, fun j U hj => ?_⟩
  · have := h.base b hb; omega
  · rcases List.mem_or_eq_of_mem_set hT' with h2 | h2
    · exact h.thing T h2
    · subst h2; exact ht
  · have h3 := h.le
    simp only [show b < w.heap.size by omega, if_true, h.base b hb']
  · by_cases hji : j = i
    · subst hji
      rw [List.getElem?_set_self hil] at hj
      obtain rfl := Option.some.inj hj
      refine ht.mono h1 fun b hb1 hb2 => ?_
      by_cases hbs : b < w.heap.size
      · simp only [hbs, if_true]; omega
      · simp only [hbs, if_false]
    · rw [List.getElem?_set_ne (Ne.symm hji)] at hj
      have hU := h.thing U (List.mem_of_getElem? hj)
      refine hU.kept (hU.mono (h.at_ j U hj) fun b hb1 hb2 => ?_) fun b hb1 hb2 => hk.block b hb2 fun hc => ?_
      · simp only [hb1, if_true]; exact hb2
      · have hb1' : (if b < w.heap.size then col b else i + 1) = j + 1 := hb1
        rw [if_pos hb2] at hb1'
        have : col b = i + 1 := hc
        omega
/-- The same memory, told otherwise. -/
theorem Hold.conv (h : Hold n₀ w0 w l) (i : Nat) (hi : l[i]? = some T) (ht : Thing T') (h1 : ∀ S, T S w → T' S w) : Hold n₀ w0 w (l.set i T') := by
  obtain ⟨col, h⟩ := h
  exact h.turn i hi ht (ht.mono (h1 _ (h.at_ i T hi)) fun b _ hb => .inl hb) (Kept.refl _ _)
/-- The first m things alone. -/
theorem Hold.take (h : Hold n₀ w0 w l) (m : Nat) : Hold n₀ w0 w (l.take m) := by
  obtain ⟨col, h⟩ := h
  refine ⟨col, h.frame, h.le, fun T hT => h.thing T (List.mem_of_mem_take hT), h.base, fun i T hi => h.at_ i T ?_⟩
  rw [List.getElem?_take] at hi
  split at hi
  · exact hi
  · cases hi
theorem Hold.rebase {n₁ : Nat} {w1 : World} (h : Hold n₁ w1 w l) (hb : Below n₀ w0 w1) (hn : n₀ ≤ n₁) : Hold n₀ w0 w l := by
  obtain ⟨col, h⟩ := h
  exact ⟨col, hb.trans (h.frame.mono hn), Nat.le_trans hn h.le, h.thing, fun b hb => h.base b (by omega), h.at_⟩

/-! the things -/
def Dk (D : Nat) (a : AD) : Th := fun S w => DRep S w D a
def Rk (R : Nat) (a : AD) : Th := fun S w => RRep S w R a
/-- A block of plain cells. -/
def Bx (B : Nat) (t : TypeId) (cs : Array Value) : Th := fun S w => S B ∧ w.heap[B]? = some (.cells cs t (0, 0))
/-- A slice of bytes. -/
def Rw (v : Value) (bs : List Int) : Th := fun S w => Row 0 w v bs ∧ ∀ b, v.ownBlock = some b → S b
/-- A block of n bytes or more. -/
def Jk (g n : Nat) : Th := fun S w => S g ∧ ∃ cur : Array Value, w.heap[g]? = some (.cells cur 5 (0, 0)) ∧ ∀ j, j < n → ∃ x : Int, cur[j]? = some (.int .u8 x)
/-- A slice of writes whose blocks of bytes are this thing's own. -/
def Pj (v : Value) (n : Nat) : Th := fun S w => ∃ xs, w.ownsRow 0 58 2 v n xs ∧ (∀ b, v.ownBlock = some b → S b) ∧ ∀ k, k < n → ∃ x g cap, xs[k * 2]? = some x ∧ xs[k * 2 + 1]? = some (.slice (some ⟨g, 0, none⟩) 256 cap) ∧ Jk g 1 S w
def Kp (v : Value) (ks : List Bool) : Th := fun S w => Keeps S w v ks

theorem Dk.thing (D : Nat) (a : AD) : Thing (Dk D a) := ⟨fun h hk => DRep.kept h hk, fun h hm => DRep.mono h hm⟩
theorem Rk.thing (D : Nat) (a : AD) : Thing (Rk D a) := ⟨fun h hk => RRep.kept h hk, fun h hm => RRep.mono h hm⟩
theorem Bx.thing (B : Nat) (t : TypeId) (cs : Array Value) : Thing (Bx B t cs) :=
  ⟨fun h hk => ⟨h.1, (hk B h.1 (Array.getElem?_eq_some_iff.1 h.2).1).trans h.2⟩, fun h hm => ⟨hm B (Array.getElem?_eq_some_iff.1 h.2).1 h.1, h.2⟩⟩
theorem Rw.thing (v : Value) (bs : List Int) : Thing (Rw v bs) :=
  ⟨fun h hk => ⟨h.1.kept fun b hb => hk b (h.2 b hb) (h.1.lt hb).2, h.2⟩, fun h hm => ⟨h.1, fun b hb => hm b (h.1.lt hb).2 (h.2 b hb)⟩⟩
theorem Jk.kept {g n : Nat} {S : Nat → Prop} {w w' : World} (h : Jk g n S w) (hk : ∀ b, S b → b < w.heap.size → w'.heap[b]? = w.heap[b]?) : Jk g n S w' := by
  obtain ⟨h1, cur, h2, h3⟩ := h
  exact ⟨h1, cur, (hk g h1 (Array.getElem?_eq_some_iff.1 h2).1).trans h2, h3⟩
theorem Jk.mono {g n : Nat} {S S' : Nat → Prop} {w : World} (h : Jk g n S w) (hm : ∀ b, b < w.heap.size → S b → S' b) : Jk g n S' w := by
  obtain ⟨h1, cur, h2, h3⟩ := h
  exact ⟨hm g (Array.getElem?_eq_some_iff.1 h2).1 h1, cur, h2, h3⟩
theorem Jk.thing (g n : Nat) : Thing (Jk g n) := ⟨fun h hk => Jk.kept h hk, fun h hm => Jk.mono h hm⟩
theorem Pj.thing (v : Value) (n : Nat) : Thing (Pj v n) := by
  refine ⟨fun h hk => ?_, fun h hm => ?_⟩
  · obtain ⟨xs, h1, h2, h3⟩ := h
    refine ⟨xs, own_kept h1 fun b hb => hk b (h2 b hb) (World.ownsRow.lt h1 b hb).2, h2, fun k hlt => ?_⟩
    obtain ⟨x, g, cap, e1, e2, e3⟩ := h3 k hlt
    exact ⟨x, g, cap, e1, e2, e3.kept hk⟩
  · obtain ⟨xs, h1, h2, h3⟩ := h
    refine ⟨xs, h1, fun b hb => hm b (World.ownsRow.lt h1 b hb).2 (h2 b hb), fun k hlt => ?_⟩
    obtain ⟨x, g, cap, e1, e2, e3⟩ := h3 k hlt
    exact ⟨x, g, cap, e1, e2, e3.mono hm⟩
theorem Kp.thing (v : Value) (ks : List Bool) : Thing (Kp v ks) := by
  refine ⟨fun h hk => ?_, fun h hm => ?_⟩
  · obtain ⟨ad, cap, h1, h2⟩ := h
    refine ⟨ad, cap, h1, fun i hi => ?_⟩
    obtain ⟨b, off, e1, e2, e3⟩ := h2 i hi
    exact ⟨b, off, e1, e2, (World.cell?_of_block (a := ⟨b, _, none⟩) (hk b e2 (World.block_lt_of_cell? _ _ e3))).trans e3⟩
  · obtain ⟨ad, cap, h1, h2⟩ := h
    refine ⟨ad, cap, h1, fun i hi => ?_⟩
    obtain ⟨b, off, e1, e2, e3⟩ := h2 i hi
    exact ⟨b, off, e1, hm b (World.block_lt_of_cell? _ _ e3) e2, e3⟩

variable {D R : Nat} {a : AD}

theorem Hold.has (h : Hold n₀ w0 w l) (i : Nat) (hi : l[i]? = some (Dk D a)) (k : Int) {b : Bool} (hb : decide (0 ≤ k ∧ k < (a.n : Int)) = b) : Calls Try.prog 27 #[.pointer (some ⟨D, 0, none⟩), .int .i64 k] w fun e w' => e = .returned (.bool b) ∧ w' = w := by
  obtain ⟨S, hd⟩ := h.get i hi
  subst hb
  exact DRep.has hd k
theorem Hold.blocks (h : Hold n₀ w0 w l) (i : Nat) (hi : l[i]? = some (Dk D a)) : Calls Try.prog 14 #[.pointer (some ⟨D, 0, none⟩)] w fun e w' => e = .returned (.int .i64 a.n) ∧ w' = w := by
  obtain ⟨S, hd⟩ := h.get i hi
  exact blocks_cell _ _ _ (DRep.cell0 hd)
theorem Hold.opsD (h : Hold n₀ w0 w l) (i : Nat) (hi : l[i]? = some (Dk D a)) : Calls Try.prog 24 #[.pointer (some ⟨D, 0, none⟩)] w fun e w' => e = .returned (.int .i64 a.ops) ∧ w' = w := by
  obtain ⟨S, hd⟩ := h.get i hi
  exact ops_cell _ _ _ (DRep.cell4 hd)
theorem Hold.good (h : Hold n₀ w0 w l) (i : Nat) (hi : l[i]? = some (Dk D a)) : Good a := by
  obtain ⟨S, hd⟩ := h.get i hi
  exact DRep.good hd
theorem Hold.rgood (h : Hold n₀ w0 w l) (i : Nat) (hi : l[i]? = some (Rk R a)) : Good a := by
  obtain ⟨S, hd⟩ := h.get i hi
  exact RRep.good hd

theorem Hold.dread (h : Hold n₀ w0 w l) (i : Nat) (hi : l[i]? = some (Dk D a)) (k : Int) (h0 : 0 ≤ k) (h1 : k < a.n) :
    Calls Try.prog 11 #[.pointer (some ⟨D, 0, none⟩), .int .i64 k] w fun e w' => ∃ v, e = .returned (.tuple #[v, .int .i64 0]) ∧ (rdA a k).length = 256 ∧ Hold n₀ w0 w' (l ++ [Rw v (rdA a k)]) := by
  obtain ⟨S, hd⟩ := h.get i hi
  refine (DRep.read_ok hd k h0 h1).mono ?_
  rintro e w' ⟨v, he, hr, hl, hb⟩
  exact ⟨v, he, hl, h.add (Rw.thing _ _) ⟨hr.base (Nat.zero_le _), fun b hb => (hr.lt hb).1⟩ hb⟩
theorem Hold.rread (h : Hold n₀ w0 w l) (i : Nat) (hi : l[i]? = some (Rk R a)) (hop : a.ops ≤ 1000000) (k : Int) (h0 : 0 ≤ k) (h1 : k < a.n) :
    Calls Try.prog 32 #[.pointer (some ⟨R, 0, none⟩), .int .i64 k] w fun e w' => ∃ v, e = .returned (.tuple #[v, .int .i64 0]) ∧ (rdA a k).length = 256 ∧ Hold n₀ w0 w' (l ++ [Rw v (rdA a k)]) := by
  obtain ⟨S, hd⟩ := h.get i hi
  refine (RRep.read_ok hd hop k h0 h1).mono ?_
  rintro e w' ⟨v, he, hr, hl, hb⟩
  exact ⟨v, he, hl, h.add (Rw.thing _ _) ⟨hr.base (Nat.zero_le _), fun b hb => (hr.lt hb).1⟩ hb⟩
theorem Hold.dread_bad (h : Hold n₀ w0 w l) (i : Nat) (hi : l[i]? = some (Dk D a)) (k : Int) (hk : k < 0 ∨ (a.n : Int) ≤ k) :
    Calls Try.prog 11 #[.pointer (some ⟨D, 0, none⟩), .int .i64 k] w fun e w' => e = .returned (.tuple #[.slice none 0 0, .int .i64 5]) ∧ w' = w :=
  read_bad _ _ _ (h.has i hi k (decide_eq_false (by omega)))
theorem Hold.rread_bad (h : Hold n₀ w0 w l) (i : Nat) (hi : l[i]? = some (Rk R a)) (k : Int) (hk : k < 0 ∨ (a.n : Int) ≤ k) :
    Calls Try.prog 32 #[.pointer (some ⟨R, 0, none⟩), .int .i64 k] w fun e w' => e = .returned (.tuple #[.slice none 0 0, .int .i64 5]) ∧ w' = w := by
  obtain ⟨S, hd⟩ := h.get i hi
  exact Ytpokfbmgcokkbaa.rread_bad hd k hk

theorem Hold.dwrite (h : Hold n₀ w0 w l) (i : Nat) (hi : l[i]? = some (Dk D a)) (hop : a.ops ≤ 1000000) (k : Int) (h0 : 0 ≤ k) (h1 : k < a.n) {m : Nat} {bv : Value} {bs : List Int} (hb : Row m w bv bs) (hbl : bs.length = 256) :
    Calls Try.prog 12 #[.pointer (some ⟨D, 0, none⟩), .int .i64 k, bv] w fun e w' => e = .returned (.int .i64 0) ∧ Hold n₀ w0 w' (l.set i (Dk D (wrA a k bs))) := by
  obtain ⟨col, h⟩ := h
  refine (DRep.write_ok (h.at_ i _ hi) hop k h0 h1 hb hbl).mono ?_
  rintro e w' ⟨he, hd, hk⟩
  exact ⟨he, h.turn i hi (Dk.thing _ _) hd hk⟩
theorem Hold.rwrite (h : Hold n₀ w0 w l) (i : Nat) (hi : l[i]? = some (Rk R a)) (hop : a.ops ≤ 1000000) (k : Int) (h0 : 0 ≤ k) (h1 : k < a.n) {m : Nat} {bv : Value} {bs : List Int} (hb : Row m w bv bs) (hbl : bs.length = 256) :
    Calls Try.prog 36 #[.pointer (some ⟨R, 0, none⟩), .int .i64 k, bv] w fun e w' => e = .returned (.int .i64 0) ∧ Hold n₀ w0 w' (l.set i (Rk R (wrA a k bs))) := by
  obtain ⟨col, h⟩ := h
  refine (RRep.write_ok (h.at_ i _ hi) hop k h0 h1 hb hbl).mono ?_
  rintro e w' ⟨he, hd, hk⟩
  exact ⟨he, h.turn i hi (Rk.thing _ _) hd hk⟩
theorem Hold.dflush (h : Hold n₀ w0 w l) (i : Nat) (hi : l[i]? = some (Dk D a)) (hop : a.ops ≤ 1000000) :
    Calls Try.prog 21 #[.pointer (some ⟨D, 0, none⟩)] w fun e w' => e = .returned (.tuple #[]) ∧ Hold n₀ w0 w' (l.set i (Dk D (flA a))) := by
  obtain ⟨col, h⟩ := h
  refine (DRep.flush (h.at_ i _ hi) hop).mono ?_
  rintro e w' ⟨he, hd, hk⟩
  exact ⟨he, h.turn i hi (Dk.thing _ _) (DRep.mono hd fun b _ hb => .inl hb) hk⟩
theorem Hold.rflush (h : Hold n₀ w0 w l) (i : Nat) (hi : l[i]? = some (Rk R a)) (hop : a.ops ≤ 1000000) :
    Calls Try.prog 37 #[.pointer (some ⟨R, 0, none⟩)] w fun e w' => e = .returned (.tuple #[]) ∧ Hold n₀ w0 w' (l.set i (Rk R (flA a))) := by
  obtain ⟨col, h⟩ := h
  refine (RRep.flush (h.at_ i _ hi) hop).mono ?_
  rintro e w' ⟨he, hd, hk⟩
  exact ⟨he, h.turn i hi (Rk.thing _ _) (RRep.mono hd fun b _ hb => .inl hb) hk⟩
theorem Hold.dcrash (h : Hold n₀ w0 w l) (i : Nat) (hi : l[i]? = some (Dk D a)) (hop : a.ops ≤ 1000000) {v : Value} {ks : List Bool} (hks : Keeps (fun b => b < n₀) w v ks) :
    Calls Try.prog 23 #[.pointer (some ⟨D, 0, none⟩), v] w fun e w' => e = .returned (.tuple #[]) ∧ Hold n₀ w0 w' (l.set i (Dk D (setA a (keepAt ks)))) := by
  obtain ⟨col, h⟩ := h
  refine (DRep.crash (h.at_ i _ hi) hop hks fun b hb => ⟨Nat.lt_of_lt_of_le hb h.le, fun hc => ?_⟩).mono ?_
  · have := h.base b hb; omega
  rintro e w' ⟨he, hd, hk⟩
  exact ⟨he, h.turn i hi (Dk.thing _ _) (DRep.mono hd fun b _ hb => .inl hb) hk⟩
/-- A crash whose keep is one of the things. -/
theorem Hold.dcrashK (h : Hold n₀ w0 w l) (i : Nat) (hi : l[i]? = some (Dk D a)) (hop : a.ops ≤ 1000000) {v : Value} {ks : List Bool} (j : Nat) (hj : l[j]? = some (Kp v ks)) (hij : i ≠ j) :
    Calls Try.prog 23 #[.pointer (some ⟨D, 0, none⟩), v] w fun e w' => e = .returned (.tuple #[]) ∧ Hold n₀ w0 w' (l.set i (Dk D (setA a (keepAt ks)))) := by
  obtain ⟨col, h⟩ := h
  have hks : Keeps (fun b => col b = j + 1 ∧ b < w.heap.size) w v ks := by
    obtain ⟨ad, cap, h1, h2⟩ := h.at_ j _ hj
    refine ⟨ad, cap, h1, fun i hi => ?_⟩
    obtain ⟨b, off, e1, e2, e3⟩ := h2 i hi
    exact ⟨b, off, e1, ⟨e2, World.block_lt_of_cell? _ _ e3⟩, e3⟩
  refine (DRep.crash (h.at_ i _ hi) hop hks fun b hb => ⟨hb.2, fun hc => ?_⟩).mono ?_
  · have := hb.1; omega
  rintro e w' ⟨he, hd, hk⟩
  exact ⟨he, h.turn i hi (Dk.thing _ _) (DRep.mono hd fun b _ hb => .inl hb) hk⟩
theorem Hold.rcrash (h : Hold n₀ w0 w l) (i : Nat) (hi : l[i]? = some (Rk R a)) (hop : a.ops ≤ 1000000) {v : Value} {ks : List Bool} (hks : Keeps (fun b => b < n₀) w v ks) (hkl : ks.length ≤ 9223372036854775807) :
    Calls Try.prog 38 #[.pointer (some ⟨R, 0, none⟩), v] w fun e w' => e = .returned (.tuple #[]) ∧ Hold n₀ w0 w' (l.set i (Rk R (setA a (keepAt ks)))) := by
  obtain ⟨col, h⟩ := h
  refine (RRep.crash (h.at_ i _ hi) hop hks hkl fun b hb => ⟨Nat.lt_of_lt_of_le hb h.le, fun hc => ?_⟩).mono ?_
  · have := h.base b hb; omega
  rintro e w' ⟨he, hd, hk⟩
  exact ⟨he, h.turn i hi (Rk.thing _ _) (RRep.mono hd fun b _ hb => .inl hb) hk⟩

/-- The bytes of two slices: are they the same? -/
theorem Hold.same (h : Hold n₀ w0 w l) (i j : Nat) {v u : Value} {bs cs : List Int} (hi : l[i]? = some (Rw v bs)) (hj : l[j]? = some (Rw u cs)) (hl : bs.length ≤ 100000) :
    Calls Try.prog 15 #[v, u] w fun e w' => e = .returned (.bool (bs == cs)) ∧ ∃ m, w' = w.drewN m := by
  obtain ⟨S, h1⟩ := h.get i hi
  obtain ⟨S', h2⟩ := h.get j hj
  exact same_any h1.1.bts h2.1.bts hl
theorem Hold.drewN (h : Hold n₀ w0 w l) (m : Nat) : Hold n₀ w0 (w.drewN m) l := h.below (drewN_below _ _)
theorem Hold.drew (h : Hold n₀ w0 w l) : Hold n₀ w0 w.drew l := h.below ⟨rfl, rfl, rfl, Nat.le_refl _, fun _ _ => rfl⟩
theorem Rw.junk {S : Nat → Prop} {v : Value} {bs : List Int} (h : Rw v bs S w) (hl : bs.length ≠ 0) : ∃ g cap, v = .slice (some ⟨g, 0, none⟩) bs.length cap ∧ bs.length ≤ cap ∧ Jk g bs.length S w := by
  obtain ⟨g, cap, cur, rfl, _, hb, _, hlc, _, hc⟩ := h.1.shape hl
  exact ⟨g, cap, rfl, hlc, h.2 g rfl, cur, hb, fun j hj => ⟨_, hc j hj⟩⟩
theorem Hold.junk (h : Hold n₀ w0 w l) (i : Nat) {v : Value} {bs : List Int} (hi : l[i]? = some (Rw v bs)) (hl : bs.length ≠ 0) : ∃ g cap, v = .slice (some ⟨g, 0, none⟩) bs.length cap ∧ bs.length ≤ cap ∧ Hold n₀ w0 w (l.set i (Jk g bs.length)) := by
  obtain ⟨S, h1⟩ := h.get i hi
  obtain ⟨g, cap, rfl, hc, _⟩ := Rw.junk h1 hl
  refine ⟨g, cap, rfl, hc, h.conv i hi (Jk.thing _ _) fun S hS => ?_⟩
  obtain ⟨g', cap', e, _, hj⟩ := Rw.junk hS hl
  obtain rfl : g = g' := by simpa using (Value.slice.inj e).1
  exact hj
/-- A byte of the junk is told anew. -/
theorem Hold.scribble (h : Hold n₀ w0 w l) (i : Nat) {g n : Nat} (hi : l[i]? = some (Jk g n)) {j : Nat} (hj : j < n) (y : Int) : Hold n₀ w0 (w.setCell ⟨g, j, none⟩ (.int .u8 y)) l := by
  obtain ⟨col, h⟩ := h
  obtain ⟨h1, cur, h2, h3⟩ := h.at_ i _ hi
  have hl : l.set i (Jk g n) = l := by
    apply List.ext_getElem?
    intro k
    rw [List.getElem?_set]
    split
    · rename_i e; subst e; rw [hi]; simp [(List.getElem?_eq_some_iff.1 hi).1]
    · rfl
  rw [← hl]
  refine h.turn i hi (Jk.thing _ _) ⟨.inl h1, _, setCell_heap _ _ _ _ _ _ h2, fun k hk => ?_⟩ ((Kept.refl _ _).setCell (p := ⟨g, j, none⟩) (fun _ => h1) _)
  obtain ⟨x, hx⟩ := h3 k hk
  by_cases e : j = k
  · subst e
    exact ⟨y, by rw [Array.set!_eq_setIfInBounds, Array.getElem?_setIfInBounds_self_of_lt (Array.getElem?_eq_some_iff.1 hx).1]⟩
  · exact ⟨x, by rw [Array.set!_eq_setIfInBounds, Array.getElem?_setIfInBounds_ne e]; exact hx⟩
theorem Hold.jcell (h : Hold n₀ w0 w l) (i : Nat) {g n : Nat} (hi : l[i]? = some (Jk g n)) {j : Nat} (hj : j < n) : ∃ x, w.cell? ⟨g, j, none⟩ = some (.int .u8 x) ∧ w.frozen? ⟨g, j, none⟩ = false := by
  obtain ⟨S, _, cur, h2, h3⟩ := h.get i hi
  obtain ⟨x, hx⟩ := h3 j hj
  exact ⟨x, by simp [World.cell?, h2]; simpa using hx, by simp [World.frozen?, h2]⟩
end Go.Proofs.Ytpokfbmgcokkbaa
