/- One operation on a disk and on the reference's: both answer alike and read alike afterwards. -/
import Derived.Test.YtpokfbmgcokkbaaHold
import Derived.StillTailTactics
namespace Go.Proofs.Ytpokfbmgcokkbaa
open Go.RowKit Go.Shelf
attribute [local go_sem] Oper.semAt_some

structure OpD where
  what : Int
  blk : Int
  fill : Int
  keep : List Bool

theorem bits_and_le (x : Int) (m : Nat) (hm : m < 4611686018427387904) : 0 ≤ bits .and .i64 x m ∧ bits .and .i64 x m ≤ m := by
  have h1 : (BitVec.ofInt 64 x &&& BitVec.ofInt 64 (m : Int)).toNat ≤ m := by
    rw [BitVec.toNat_and]
    refine Nat.le_trans Nat.and_le_right ?_
    simp
    omega
  have h2 : bits .and .i64 x m = IntKind.i64.wrap (BitVec.ofInt 64 x &&& BitVec.ofInt 64 (m : Int)).toNat := rfl
  rw [h2]
  generalize (BitVec.ofInt 64 x &&& BitVec.ofInt 64 (m : Int)).toNat = r at *
  rw [IntKind.wrap_i64]
  omega

/-- The code of an answer to a write of len bytes. -/
def wcode (a : AD) (k : Int) (len : Nat) : Int := if 0 ≤ k ∧ k < a.n then if len = 256 then 0 else 22 else 5
def wstep (a : AD) (k : Int) (len : Nat) (bs : List Int) : AD := if 0 ≤ k ∧ k < a.n then if len = 256 then wrA a k bs else a else a
def opcode (o : OpD) : Int := bits .and .i64 o.what 7
/-- What an operation does to a disk. -/
def stepA (a : AD) (o : OpD) : AD :=
  if opcode o < 4 then wstep a o.blk (if o.fill < 0 then 255 else 256) (fillB (o.fill % 256))
  else if opcode o = 5 then flA a
  else if opcode o = 6 then setA a (keepAt o.keep)
  else a

variable {n₀ : Nat} {w0 w w' : World} {l : List Th} {D R : Nat} {a : AD}

theorem set_self {α : Type} {l : List α} {i : Nat} {x : α} (h : l[i]? = some x) : l.set i x = l := by
  apply List.ext_getElem?
  intro k
  rw [List.getElem?_set]
  split
  · rename_i e; subst e; rw [h]; simp [(List.getElem?_eq_some_iff.1 h).1]
  · rfl

theorem Hold.dwriteX (h : Hold n₀ w0 w l) (i : Nat) (hi : l[i]? = some (Dk D a)) (hop : a.ops ≤ 1000000) (k : Int) {ad : Option Addr} {len cap m : Nat} {bs : List Int} (hb : len = 256 → Row m w (.slice ad len cap) bs ∧ bs.length = 256) :
    Calls Try.prog 12 #[.pointer (some ⟨D, 0, none⟩), .int .i64 k, .slice ad len cap] w fun e w' => e = .returned (.int .i64 (wcode a k len)) ∧ Hold n₀ w0 w' (l.set i (Dk D (wstep a k len bs))) := by
  unfold wcode wstep
  by_cases hin : 0 ≤ k ∧ k < a.n
  · by_cases hl : len = 256
    · simp only [hin, hl, and_self, if_true]
      obtain ⟨h1, h2⟩ := hb hl
      subst hl
      exact h.dwrite i hi hop k hin.1 hin.2 h1 h2
    · simp only [hin, hl, and_self, if_true, if_false]
      rw [set_self hi]
      refine (write_len w _ k ad len cap hl (h.has i hi k (decide_eq_true hin))).mono ?_
      rintro e w' ⟨he, rfl⟩
      exact ⟨he, h⟩
  · simp only [hin, if_false]
    rw [set_self hi]
    refine (write_bad w _ k _ (h.has i hi k (decide_eq_false hin))).mono ?_
    rintro e w' ⟨he, rfl⟩
    exact ⟨he, h⟩
theorem Hold.rwriteX (h : Hold n₀ w0 w l) (i : Nat) (hi : l[i]? = some (Rk R a)) (hop : a.ops ≤ 1000000) (k : Int) {ad : Option Addr} {len cap m : Nat} {bs : List Int} (hb : len = 256 → Row m w (.slice ad len cap) bs ∧ bs.length = 256) :
    Calls Try.prog 36 #[.pointer (some ⟨R, 0, none⟩), .int .i64 k, .slice ad len cap] w fun e w' => e = .returned (.int .i64 (wcode a k len)) ∧ Hold n₀ w0 w' (l.set i (Rk R (wstep a k len bs))) := by
  unfold wcode wstep
  obtain ⟨S, hd⟩ := h.get i hi
  by_cases hin : 0 ≤ k ∧ k < a.n
  · by_cases hl : len = 256
    · simp only [hin, hl, and_self, if_true]
      obtain ⟨h1, h2⟩ := hb hl
      subst hl
      exact h.rwrite i hi hop k hin.1 hin.2 h1 h2
    · simp only [hin, hl, and_self, if_true, if_false]
      rw [set_self hi]
      refine (rwrite_len hd k hin.1 hin.2 ad len cap hl).mono ?_
      rintro e w' ⟨he, rfl⟩
      exact ⟨he, h⟩
  · simp only [hin, if_false]
    rw [set_self hi]
    refine (rwrite_bad hd k (by omega) _).mono ?_
    rintro e w' ⟨he, rfl⟩
    exact ⟨he, h⟩

theorem Hold.bcell (h : Hold n₀ w0 w l) (i : Nat) {B : Nat} {t : TypeId} {cs : Array Value} (hi : l[i]? = some (Bx B t cs)) (j : Nat) : w.cell? ⟨B, j, none⟩ = cs[j]? := by
  obtain ⟨S, _, h2⟩ := h.get i hi
  simp [World.cell?, h2]

/-- The operation's own block, laid at the head of step. -/
theorem Hold.box (h : Hold n₀ w0 w l) (cs : Array Value) (t : TypeId) : Hold n₀ w0 (w.alloc (.cells cs t)) (l ++ [Bx w.heap.size t cs]) :=
  h.add (Bx.thing _ _ _) ⟨Nat.le_refl _, World.alloc_heap_new _ _⟩ ((Below.refl _ _).alloc (Nat.le_refl _) _)

theorem Hold.filled (h : Hold n₀ w0 w l) (x : Int) :
    Calls Try.prog 13 #[.int .i64 x] w fun e w' => ∃ g cap, e = .returned (.slice (some ⟨g, 0, none⟩) 256 cap) ∧ 256 ≤ cap ∧ Hold n₀ w0 w' (l ++ [Rw (.slice (some ⟨g, 0, none⟩) 256 cap) (fillB (x % 256))]) := by
  refine (filled_any x w).mono ?_
  rintro e w' ⟨v, he, hr, hb⟩
  obtain ⟨g, cap, cur, rfl, _, _, _, hc, _⟩ := hr.shape (by rw [fillB_length]; decide)
  rw [fillB_length] at he hr hc
  exact ⟨g, cap, he, hc, h.add (Rw.thing _ _) ⟨hr.base (Nat.zero_le _), fun b hb => (hr.lt hb).1⟩ hb⟩

def StepDone (n₀ : Nat) (w0 : World) (D R : Nat) (a' : AD) (e : Ending) (w' : World) : Prop := e = .returned (.bool true) ∧ Hold n₀ w0 w' [Dk D a', Rk R a']

set_option maxRecDepth 100000 in
set_option maxHeartbeats 4000000 in
theorem step_write (h : Hold n₀ w0 w [Dk D a, Rk R a]) (hop : a.ops ≤ 1000000) (what blk fill : Int) (kv : Value) (c : Int) (hc : bits .and .i64 what 7 = c) (h4 : c = 0 ∨ c = 1 ∨ c = 2 ∨ c = 3) :
    Calls Try.prog 22 #[.pointer (some ⟨D, 0, none⟩), .pointer (some ⟨R, 0, none⟩), .agg #[.int .i64 what, .int .i64 blk, .int .i64 fill, kv]] w
      (StepDone n₀ w0 D R (wstep a blk (if fill < 0 then 255 else 256) (fillB (fill % 256)))) := by
  have hb0 := h.box #[.int .i64 what, .int .i64 blk, .int .i64 fill, kv] 46
  replace hb0 := Lib.hid hb0
  obtain ⟨B, hB⟩ : ∃ B, w.heap.size = B := ⟨_, rfl⟩
  replace hB := Lib.hid hB
  clear h
  rcases h4 with rfl | rfl | rfl | rfl
  all_goals
    by_cases hf : fill < 0
    · rw [if_pos hf]
      obtain ⟨r, hr⟩ : ∃ r, wcode a blk 255 = r := ⟨_, rfl⟩
      obtain ⟨a', ha'⟩ : ∃ a', wstep a blk 255 (fillB (fill % 256)) = a' := ⟨_, rfl⟩
      rw [ha']
      replace hr := Lib.hid hr
      replace ha' := Lib.hid ha'
      go_enter Try.func22, Try.ntmps22
      go_wp2_with fail
      rw [hB.out]
      rw [hB.out] at hb0
      refine (hb0.out.filled fill).mono ?_; rintro e w1 ⟨g, cap, rfl, hcap, h1⟩
      have c1 : w1.cell? ⟨B, 1, none⟩ = some (.int .i64 blk) := h1.bcell 2 rfl 1
      have c2 : w1.cell? ⟨B, 2, none⟩ = some (.int .i64 fill) := h1.bcell 2 rfl 2
      replace h1 := Lib.hid h1
      have hcc := Lib.hid hc
      clear hc
      go_wp2_with fail
      have hw := h1.out.dwriteX 0 rfl hop blk (ad := some ⟨g, 0, none⟩) (len := 255) (cap := cap) (m := 0) (bs := fillB (fill % 256)) (fun e => absurd e (by decide))
      rw [hr.out, ha'.out] at hw
      refine hw.mono ?_; rintro e w2 ⟨rfl, h2⟩
      clear hw
      replace h2 : Hold n₀ w0 w2 [Dk D a', Rk R a, Bx B 46 #[.int .i64 what, .int .i64 blk, .int .i64 fill, kv], Rw (.slice (some ⟨g, 0, none⟩) 256 cap) (fillB (fill % 256))] := h2
      have d1 : w2.cell? ⟨B, 1, none⟩ = some (.int .i64 blk) := h2.bcell 2 rfl 1
      replace h2 := Lib.hid h2
      go_wp2_with fail
      have hw := h2.out.rwriteX 1 rfl hop blk (ad := some ⟨g, 0, none⟩) (len := 255) (cap := cap) (m := 0) (bs := fillB (fill % 256)) (fun e => absurd e (by decide))
      rw [hr.out, ha'.out] at hw
      refine hw.mono ?_; rintro e w3 ⟨rfl, h3⟩
      clear hw
      replace h3 : Hold n₀ w0 w3 [Dk D a', Rk R a', Bx B 46 #[.int .i64 what, .int .i64 blk, .int .i64 fill, kv], Rw (.slice (some ⟨g, 0, none⟩) 256 cap) (fillB (fill % 256))] := h3
      obtain ⟨g', cap', hg, _, h4⟩ := h3.junk 3 rfl (by rw [fillB_length]; decide)
      rw [fillB_length] at hg h4
      obtain ⟨rfl, rfl⟩ : g = g' ∧ cap = cap' := by simpa using hg
      replace h4 : Hold n₀ w0 w3 [Dk D a', Rk R a', Bx B 46 #[.int .i64 what, .int .i64 blk, .int .i64 fill, kv], Jk g 256] := h4
      replace h4 := Lib.hid h4
      clear h1 h2 h3 hg c1 c2 d1 hb0
      go_wp2_with fail
      go_loopw [10] (fun i wr => ∃ k : Nat, k ≤ 255 ∧ i = .int .i64 k ∧ Hold n₀ w0 wr [Dk D a', Rk R a', Bx B 46 #[.int .i64 what, .int .i64 blk, .int .i64 fill, kv], Jk g 256]) (fun i _ => 255 - (intOf i).toNat)
      case atStart => exact ⟨0, Nat.zero_le _, rfl, h4.out⟩
      case round =>
        obtain ⟨k, hk, rfl, h5⟩ := hrel
        by_cases hlt : k < 255
        · obtain ⟨x, z0, z1⟩ := h5.jcell 3 rfl (j := k) (by omega)
          have q1 : (k : Int) < 255 := by omega
          have h6 := fun y => h5.scribble 3 rfl (j := k) (by omega) y
          replace h6 := Lib.hid h6
          replace h5 := Lib.hid h5
          go_wp2_with fail
          go_roundw
          case rel => exact ⟨k + 1, by omega, by go_num, h6.out _⟩
          case measure => simp [intOf]; omega
        · obtain rfl : k = 255 := by omega
          have h6 := h5.take 2
          replace h6 := Lib.hid h6
          replace h5 := Lib.hid h5
          go_wp2_with fail
          go_ret
          exact ⟨rfl, h6.out⟩
    · rw [if_neg hf]
      obtain ⟨r, hr⟩ : ∃ r, wcode a blk 256 = r := ⟨_, rfl⟩
      obtain ⟨a', ha'⟩ : ∃ a', wstep a blk 256 (fillB (fill % 256)) = a' := ⟨_, rfl⟩
      rw [ha']
      replace hr := Lib.hid hr
      replace ha' := Lib.hid ha'
      go_enter Try.func22, Try.ntmps22
      go_wp2_with fail
      rw [hB.out]
      rw [hB.out] at hb0
      refine (hb0.out.filled fill).mono ?_; rintro e w1 ⟨g, cap, rfl, hcap, h1⟩
      have c1 : w1.cell? ⟨B, 1, none⟩ = some (.int .i64 blk) := h1.bcell 2 rfl 1
      have c2 : w1.cell? ⟨B, 2, none⟩ = some (.int .i64 fill) := h1.bcell 2 rfl 2
      replace h1 := Lib.hid h1
      have hcc := Lib.hid hc
      clear hc
      go_wp2_with fail
      have hw := h1.out.dwriteX 0 rfl hop blk (ad := some ⟨g, 0, none⟩) (len := 256) (cap := cap) (m := 0) (bs := fillB (fill % 256)) (fun _ => by obtain ⟨S, hr⟩ := h1.out.get 3 rfl; exact ⟨hr.1, fillB_length _⟩)
      rw [hr.out, ha'.out] at hw
      refine hw.mono ?_; rintro e w2 ⟨rfl, h2⟩
      clear hw
      replace h2 : Hold n₀ w0 w2 [Dk D a', Rk R a, Bx B 46 #[.int .i64 what, .int .i64 blk, .int .i64 fill, kv], Rw (.slice (some ⟨g, 0, none⟩) 256 cap) (fillB (fill % 256))] := h2
      have d1 : w2.cell? ⟨B, 1, none⟩ = some (.int .i64 blk) := h2.bcell 2 rfl 1
      replace h2 := Lib.hid h2
      go_wp2_with fail
      have hw := h2.out.rwriteX 1 rfl hop blk (ad := some ⟨g, 0, none⟩) (len := 256) (cap := cap) (m := 0) (bs := fillB (fill % 256)) (fun _ => by obtain ⟨S, hr⟩ := h2.out.get 3 rfl; exact ⟨hr.1, fillB_length _⟩)
      rw [hr.out, ha'.out] at hw
      refine hw.mono ?_; rintro e w3 ⟨rfl, h3⟩
      clear hw
      replace h3 : Hold n₀ w0 w3 [Dk D a', Rk R a', Bx B 46 #[.int .i64 what, .int .i64 blk, .int .i64 fill, kv], Rw (.slice (some ⟨g, 0, none⟩) 256 cap) (fillB (fill % 256))] := h3
      obtain ⟨g', cap', hg, _, h4⟩ := h3.junk 3 rfl (by rw [fillB_length]; decide)
      rw [fillB_length] at hg h4
      obtain ⟨rfl, rfl⟩ : g = g' ∧ cap = cap' := by simpa using hg
      replace h4 : Hold n₀ w0 w3 [Dk D a', Rk R a', Bx B 46 #[.int .i64 what, .int .i64 blk, .int .i64 fill, kv], Jk g 256] := h4
      replace h4 := Lib.hid h4
      clear h1 h2 h3 hg c1 c2 d1 hb0
      go_wp2_with fail
      go_loopw [10] (fun i wr => ∃ k : Nat, k ≤ 256 ∧ i = .int .i64 k ∧ Hold n₀ w0 wr [Dk D a', Rk R a', Bx B 46 #[.int .i64 what, .int .i64 blk, .int .i64 fill, kv], Jk g 256]) (fun i _ => 256 - (intOf i).toNat)
      case atStart => exact ⟨0, Nat.zero_le _, rfl, h4.out⟩
      case round =>
        obtain ⟨k, hk, rfl, h5⟩ := hrel
        by_cases hlt : k < 256
        · obtain ⟨x, z0, z1⟩ := h5.jcell 3 rfl (j := k) (by omega)
          have q1 : (k : Int) < 256 := by omega
          have h6 := fun y => h5.scribble 3 rfl (j := k) (by omega) y
          replace h6 := Lib.hid h6
          replace h5 := Lib.hid h5
          go_wp2_with fail
          go_roundw
          case rel => exact ⟨k + 1, by omega, by go_num, h6.out _⟩
          case measure => simp [intOf]; omega
        · obtain rfl : k = 256 := by omega
          have h6 := h5.take 2
          replace h6 := Lib.hid h6
          replace h5 := Lib.hid h5
          go_wp2_with fail
          go_ret
          exact ⟨rfl, h6.out⟩
end Go.Proofs.Ytpokfbmgcokkbaa
