/- The table's operations as contracts over one word: TabI. -/
import Derived.Test.YthnffhhbdihalaaLeave
namespace Go.Proofs.Ythnffhhbdihalaa
open Go.RowKit Go.Shelf

/-- T is a table that reads as R, all of it in blocks from n₀ on; below n₀ the world is as w0 was. -/
def TabI (n₀ : Nat) (w0 w : World) (T : Nat) (R : Int → List Clm) : Prop := ∃ S M f, Tab S w T M f R ∧ (∀ b, S b → n₀ ≤ b) ∧ Below n₀ w0 w

variable {n₀ : Nat} {w0 w : World} {T : Nat} {R : Int → List Clm}

theorem TabI.size (h : TabI n₀ w0 w T R) : n₀ ≤ w.heap.size := by
  obtain ⟨S, M, f, ht, hs, _⟩ := h
  have := hs _ ht.hT
  have := ht.lt _ ht.hT
  omega
theorem TabI.frame (h : TabI n₀ w0 w T R) : Below n₀ w0 w := by obtain ⟨S, M, f, ht, hs, hb⟩ := h; exact hb
theorem TabI.below {w' : World} (h : TabI n₀ w0 w T R) (hb : Below w.heap.size w w') : TabI n₀ w0 w' T R := by
  have hsz := h.size
  obtain ⟨S, M, f, ht, hs, hb0⟩ := h
  exact ⟨S, M, f, ht.below hb, hs, hb0.trans (hb.mono hsz)⟩
theorem TabI.alloc (h : TabI n₀ w0 w T R) (o : Obj) : TabI n₀ w0 (w.alloc o) T R := h.below ((Below.refl _ _).alloc (Nat.le_refl _) _)

theorem TabI.holds (h : TabI n₀ w0 w T R) (th key : Int) :
    Calls Try.prog 16 #[.pointer (some ⟨T, 0, none⟩), .int .i64 th, .int .i64 key] w fun e w' =>
      e = .returned (.bool (findV (R key) th).2.2) ∧ TabI n₀ w0 w' T R := by
  have h' := h
  obtain ⟨S, M, f, ht, hs, hb0⟩ := h
  exact (ht.holds th key).mono fun e w' ⟨he, hb⟩ => ⟨he, h'.below hb⟩

theorem TabI.claims (h : TabI n₀ w0 w T R) (key : Int) :
    Calls Try.prog 18 #[.pointer (some ⟨T, 0, none⟩), .int .i64 key] w fun e w' =>
      ∃ v, e = .returned v ∧ w'.ownsRow w.heap.size 39 3 v (R key).length (itemCells (itemsTo (R key) (R key).length)) ∧ TabI n₀ w0 w' T R ∧ Below w.heap.size w w' := by
  have h' := h
  obtain ⟨S, M, f, ht, hs, hb0⟩ := h
  exact (ht.claims key).mono fun e w' ⟨v, he, ho, hb⟩ => ⟨v, he, ho, h'.below hb, hb⟩

theorem TabI.small (h : TabI n₀ w0 w T R) (key : Int) : (R key).length ≤ 64 := by obtain ⟨S, M, f, ht, _⟩ := h; exact ht.small key
theorem TabI.ths (h : TabI n₀ w0 w T R) (key : Int) : ((R key).map Clm.th).Nodup ∧ ∀ c ∈ R key, 1 ≤ c.th ∧ c.th ≤ 64 := by obtain ⟨S, M, f, ht, _⟩ := h; exact ht.ths key

/-- What Ask answers, and what it leaves. -/
def askE (R : Int → List Clm) (th key : Int) : Int := if 1 ≤ th ∧ th ≤ 64 ∧ 0 ≤ key ∧ findAt (R key) th = none then 0 else 22
def askR (R : Int → List Clm) (th key : Int) (al : Bool) : Int → List Clm := if 1 ≤ th ∧ th ≤ 64 ∧ 0 ≤ key ∧ findAt (R key) th = none then setRow R key (R key ++ [⟨th, al⟩]) else R
def leaveE (R : Int → List Clm) (th key : Int) : Int := match findAt (R key) th with | some _ => 0 | none => 22
def leaveR (R : Int → List Clm) (th key : Int) : Int → List Clm := match findAt (R key) th with | some i => setRow R key ((R key).eraseIdx i) | none => R

theorem Tab.ask {S : Nat → Prop} {M : Nat} {f : Int → Option Value} (ht : Tab S w T M f R) (th key : Int) (al : Bool) :
    Calls Try.prog 12 #[.pointer (some ⟨T, 0, none⟩), .int .i64 th, .int .i64 key, .bool al] w fun e w' => e = .returned (.int .i64 (askE R th key)) ∧
      ∃ f' S', Tab S' w' T M f' (askR R th key al) ∧ (∀ b, S' b → S b ∨ w.heap.size ≤ b) ∧ Kept S w w' := by
  by_cases hg : 1 ≤ th ∧ th ≤ 64 ∧ 0 ≤ key
  · obtain ⟨h1, h2, h3⟩ := hg
    cases hf : findAt (R key) th with
    | none =>
      unfold askE askR
      rw [if_pos ⟨h1, h2, h3, hf⟩, if_pos ⟨h1, h2, h3, hf⟩]
      exact ht.ask_ok th key al hf h1 h2 h3
    | some i =>
      unfold askE askR
      rw [if_neg (fun h => by rw [hf] at h; cases h.2.2.2), if_neg (fun h => by rw [hf] at h; cases h.2.2.2)]
      exact (ask_has ht th key al hf h1 h2 h3).mono fun e w' ⟨he, hb⟩ => ⟨he, f, S, ht.below hb, fun b hb => .inl hb, Kept.of_below hb⟩
  · unfold askE askR
    rw [if_neg (fun h => hg ⟨h.1, h.2.1, h.2.2.1⟩), if_neg (fun h => hg ⟨h.1, h.2.1, h.2.2.1⟩)]
    exact (ask_bad T th key al w hg).mono fun e w' ⟨he, hw⟩ => ⟨he, f, S, by rw [hw]; exact ht, fun b hb => .inl hb, by rw [hw]; exact Kept.refl _ _⟩

theorem Tab.leave {S : Nat → Prop} {M : Nat} {f : Int → Option Value} (ht : Tab S w T M f R) (th key : Int) :
    Calls Try.prog 14 #[.pointer (some ⟨T, 0, none⟩), .int .i64 th, .int .i64 key] w fun e w' => e = .returned (.int .i64 (leaveE R th key)) ∧
      ∃ f' S', Tab S' w' T M f' (leaveR R th key) ∧ (∀ b, S' b → S b ∨ w.heap.size ≤ b) ∧ Kept S w w' := by
  unfold leaveE leaveR
  cases hf : findAt (R key) th with
  | none => exact (leave_hasnt ht th key hf).mono fun e w' ⟨he, hb⟩ => ⟨he, f, S, ht.below hb, fun b hb => .inl hb, Kept.of_below hb⟩
  | some i => exact ht.leave_ok th key hf

theorem TabI.of_kept {S S' : Nat → Prop} {M : Nat} {f' : Int → Option Value} {R' : Int → List Clm} {w' : World} (hs : ∀ b, S b → n₀ ≤ b) (hb0 : Below n₀ w0 w) (hsz : n₀ ≤ w.heap.size)
    (ht : Tab S' w' T M f' R') (h1 : ∀ b, S' b → S b ∨ w.heap.size ≤ b) (h2 : Kept S w w') : TabI n₀ w0 w' T R' :=
  ⟨S', M, f', ht, fun b hb => (h1 b hb).elim (hs b) (fun h => Nat.le_trans hsz h), hb0.trans (h2.below hsz (fun k hk h => by have := hs k h; omega))⟩

theorem TabI.ask (h : TabI n₀ w0 w T R) (th key : Int) (al : Bool) :
    Calls Try.prog 12 #[.pointer (some ⟨T, 0, none⟩), .int .i64 th, .int .i64 key, .bool al] w fun e w' => e = .returned (.int .i64 (askE R th key)) ∧ TabI n₀ w0 w' T (askR R th key al) := by
  have hsz := h.size
  obtain ⟨S, M, f, ht, hs, hb0⟩ := h
  exact (ht.ask th key al).mono fun e w' ⟨he, f', S', h1, h2, h3⟩ => ⟨he, TabI.of_kept hs hb0 hsz h1 h2 h3⟩

theorem TabI.leave (h : TabI n₀ w0 w T R) (th key : Int) :
    Calls Try.prog 14 #[.pointer (some ⟨T, 0, none⟩), .int .i64 th, .int .i64 key] w fun e w' => e = .returned (.int .i64 (leaveE R th key)) ∧ TabI n₀ w0 w' T (leaveR R th key) := by
  have hsz := h.size
  obtain ⟨S, M, f, ht, hs, hb0⟩ := h
  exact (ht.leave th key).mono fun e w' ⟨he, f', S', h1, h2, h3⟩ => ⟨he, TabI.of_kept hs hb0 hsz h1 h2 h3⟩

/-! New, Free -/
theorem new_tab (w : World) : Tab (fun b => b = w.heap.size ∨ b = w.heap.size + 1) ((w.alloc (.map #[] 0)).alloc (.cells #[.map (some w.heap.size)] 58)) (w.heap.size + 1) w.heap.size (fun _ => none) (fun _ => []) where
  hT := .inr rfl
  hM := .inl rfl
  foot k v b hf := by cases hf
  lt b hb := by simp only [World.size_alloc]; omega
  cT := by have := World.alloc_heap_new (w.alloc (.map #[] 0)) (.cells #[.map (some w.heap.size)] 58); rw [World.size_alloc] at this; exact this
  map := (IMap.made w).of_block (Below.heap_alloc _ _ _ (by simp))
  empty k _ := rfl
  rows k v hf := by cases hf
  apart k k' v v' hf := by cases hf
  ths k := ⟨by simp, by simp⟩

theorem new_any (w : World) :
    Calls Try.prog 11 #[] w fun e w' => e = .returned (.pointer (some ⟨w.heap.size + 1, 0, none⟩)) ∧ w' = (w.alloc (.map #[] 0)).alloc (.cells #[.map (some w.heap.size)] 58) := by
  have hmm := @run_makeMap Try.prog
  go_enter Try.func11, Try.ntmps11
  go_wp2
  go_ret
  exact ⟨rfl, rfl⟩

theorem new_I (w : World) : Calls Try.prog 11 #[] w fun e w' => e = .returned (.pointer (some ⟨w.heap.size + 1, 0, none⟩)) ∧ TabI w.heap.size w w' (w.heap.size + 1) (fun _ => []) := by
  refine (new_any w).mono ?_
  rintro e w' ⟨he, rfl⟩
  exact ⟨he, _, _, _, new_tab w, fun b hb => by omega, ((Below.refl _ w).alloc (Nat.le_refl _) _).alloc (by simp) _⟩

theorem free_nil (w : World) : Calls Try.prog 20 #[.pointer none] w fun e w' => e = .returned (.bool true) ∧ w' = w := by
  go_enter Try.func20, Try.ntmps20
  go_wp2
  go_ret
  exact ⟨rfl, rfl⟩

theorem free_walk (T M : Nat) (es : Array MapEntry) (ck : Nat) (w : World) (hT : w.cell? ⟨T, 0, none⟩ = some (.map (some M))) (hM : w.heap[M]? = some (.map es ck)) :
    Calls Try.prog 20 #[.pointer (some ⟨T, 0, none⟩)] w fun e w' => e = .returned (.bool (((es.size : Int)) == 0)) ∧ w' = w := by
  have hln : (Builtin.len_ #[56] 3 #[.map (some M)]).run Try.prog w = .ok (.int .i64 es.size) w := by
    simp [Builtin.len_, run_underlying Try.underlying56, MapKept.run_getObj_map hM, Result.andThen, goInt]
  go_enter Try.func20, Try.ntmps20
  go_wp2
  go_ret
  exact ⟨rfl, rfl⟩

/-- Has the table no claims? -/
def isFree (R : Int → List Clm) : Prop := ∀ k, R k = []

theorem Tab.free {S : Nat → Prop} {M : Nat} {f : Int → Option Value} (ht : Tab S w T M f R) :
    Calls Try.prog 20 #[.pointer (some ⟨T, 0, none⟩)] w fun e w' => ∃ b, e = .returned (.bool b) ∧ (b = true ↔ isFree R) ∧ w' = w := by
  obtain ⟨es, ck, hm, hok⟩ := ht.map
  refine (free_walk T M es ck w (by simp [World.cell?, ht.cT]) hm).mono fun e w' ⟨he, hw⟩ => ⟨_, he, ?_, hw⟩
  · simp only [beq_iff_eq]
    constructor
    · intro h k
      refine ht.empty k ?_
      cases hf : f k with
      | none => rfl
      | some v =>
        obtain ⟨e, he', _⟩ := (hok.2.2 k v).1 hf
        have : es.toList.length = 0 := by rw [Array.length_toList]; omega
        rw [List.length_eq_zero_iff.1 this] at he'
        cases he'
    · intro h
      by_cases h0 : es.size = 0
      · omega
      · exfalso
        have hl : 0 < es.toList.length := by rw [Array.length_toList]; omega
        have hmem := List.getElem_mem hl
        obtain ⟨k, hk⟩ := hok.1 _ hmem
        have := (hok.2.2 k _).2 ⟨_, hmem, hk, rfl⟩
        exact (ht.rows k _ this).1 (h k)

theorem TabI.free (h : TabI n₀ w0 w T R) :
    Calls Try.prog 20 #[.pointer (some ⟨T, 0, none⟩)] w fun e w' => ∃ b, e = .returned (.bool b) ∧ (b = true ↔ isFree R) ∧ w' = w := by
  obtain ⟨S, M, f, ht, hs, hb0⟩ := h
  exact ht.free
end Go.Proofs.Ythnffhhbdihalaa
