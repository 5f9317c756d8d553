/- x & m for a small mask lies from 0 to m; where the claims of a row stand and hold; who holds goes on holding. -/
import Derived.Test.YthnffhhbdihalaaApartWalk
namespace Go.Proofs.Ythnffhhbdihalaa
open Go.RowKit

theorem bits_and_le (x : Int) (m : Nat) (hm : m < 4611686018427387904) : 0 ≤ bits .and .i64 x m ∧ bits .and .i64 x m ≤ m := by
  have h1 : (BitVec.ofInt 64 x &&& BitVec.ofInt 64 (m : Int)).toNat ≤ m := by
    rw [BitVec.toNat_and]
    refine Nat.le_trans Nat.and_le_right ?_
    simp
    omega
  have h2 : bits .and .i64 x m = IntKind.i64.wrap (BitVec.ofInt 64 x &&& BitVec.ofInt 64 (m : Int)).toNat := rfl
  rw [h2]
  generalize (BitVec.ofInt 64 x &&& BitVec.ofInt 64 (m : Int)).toNat = r at *
  rw [IntKind.wrap_i64]
  omega

theorem bits_one (x : Int) : bits .and .i64 x 1 = 0 ∨ bits .and .i64 x 1 = 1 := by
  have := bits_and_le x 1 (by omega)
  simp at this
  omega

variable {R : Int → List Clm}

theorem find_at {l : List Clm} (hn : (l.map Clm.th).Nodup) {i : Nat} (hi : i < l.length) : findAt l (clmAt l i).th = some i := by
  unfold findAt
  rw [List.findIdx?_eq_some_iff_getElem]
  refine ⟨hi, by simp [clmAt_eq hi], fun j hj => ?_⟩
  have := List.pairwise_iff_getElem.1 hn j i (by simpa using Nat.lt_trans hj hi) (by simpa using hi) hj
  simpa [clmAt_eq hi] using this

theorem holdsV {l : List Clm} (hn : (l.map Clm.th).Nodup) {i : Nat} (hi : i < l.length) : (findV l (clmAt l i).th).2.2 = holdsAt l i := by
  rw [findV_has (find_at hn hi)]

theorem tog_iff {l : List Clm} {k : Nat} (hk : k ≤ l.length) : tog l k = true ↔ ∀ i, i < k → (clmAt l i).al = false := by
  unfold tog
  rw [List.all_eq_true]
  constructor
  · intro h i hi
    have hil : i < l.length := by omega
    have := h l[i] (by rw [List.mem_take_iff_getElem]; exact ⟨i, by omega, rfl⟩)
    rw [clmAt_eq hil]; simpa using this
  · intro h c hc
    rw [List.mem_take_iff_getElem] at hc
    obtain ⟨i, hi, rfl⟩ := hc
    have := h i (by omega)
    rw [clmAt_eq (by omega)] at this
    simpa using this

theorem holds_iff {l : List Clm} {k : Nat} (hk : k < l.length) : holdsAt l k = true ↔ k = 0 ∨ ∀ i, i ≤ k → (clmAt l i).al = false := by
  unfold holdsAt
  rw [Bool.or_eq_true, tog_iff (by omega)]
  simp only [beq_iff_eq]
  constructor
  · rintro (h | h)
    · exact .inl h
    · exact .inr fun i hi => h i (by omega)
  · rintro (h | h)
    · exact .inl h
    · exact .inr fun i hi => h i (by omega)

/-- Who holds behind another: all ahead of it are together, and hold. -/
theorem holds_back {l : List Clm} {k : Nat} (hk : k < l.length) (h0 : k ≠ 0) (h : holdsAt l k = true) : holdsAt l (k - 1) = true ∧ (clmAt l k).al = false ∧ (clmAt l 0).al = false := by
  rcases (holds_iff hk).1 h with h | h
  · exact absurd h h0
  · exact ⟨(holds_iff (by omega)).2 (.inr fun i hi => h i (by omega)), h k (Nat.le_refl _), h 0 (by omega)⟩

theorem clmAt_append {l : List Clm} {c : Clm} {i : Nat} (h : i < l.length) : clmAt (l ++ [c]) i = clmAt l i := by simp [clmAt, List.getElem?_append_left h]

/-- Ask takes nobody's hold. -/
theorem ask_keeps {th key : Int} {al : Bool} (hn : ((askR R th key al key).map Clm.th).Nodup) {k : Nat} (hk : k < (R key).length) (h : holdsAt (R key) k = true) :
    (findV (askR R th key al key) (clmAt (R key) k).th).2.2 = true := by
  have hcase : askR R th key al key = R key ++ [(⟨th, al⟩ : Clm)] ∨ askR R th key al key = R key := by
    unfold askR
    split
    · left; simp [setRow]
    · right; rfl
  rcases hcase with e | e
  · rw [e] at hn ⊢
    have hk' : k < (R key ++ [(⟨th, al⟩ : Clm)]).length := by simp; omega
    have := holdsV hn hk'
    rw [clmAt_append hk] at this
    rw [this]
    refine (holds_iff hk').2 ?_
    rcases (holds_iff hk).1 h with h | h
    · exact .inl h
    · exact .inr fun i hi => by rw [clmAt_append (by omega)]; exact h i hi
  · rw [e] at hn ⊢
    rw [holdsV hn hk, h]

theorem clmAt_erase {l : List Clm} {i j : Nat} (hi : i < l.length) (hj : j < l.length - 1) : clmAt (l.eraseIdx i) j = if j < i then clmAt l j else clmAt l (j + 1) := by
  unfold clmAt
  rw [List.getElem?_eraseIdx]
  split <;> rfl

/-- Leave takes nobody's hold but that of who leaves. -/
theorem leave_keeps {th key : Int} (hn0 : ((R key).map Clm.th).Nodup) (hn : ((leaveR R th key key).map Clm.th).Nodup) {k : Nat} (hk : k < (R key).length) (h : holdsAt (R key) k = true) (hne : (clmAt (R key) k).th ≠ th) :
    (findV (leaveR R th key key) (clmAt (R key) k).th).2.2 = true := by
  cases hf : findAt (R key) th with
  | none =>
    have e : leaveR R th key key = R key := by unfold leaveR; rw [hf]
    rw [e, holdsV hn0 hk, h]
  | some i =>
    have e : leaveR R th key key = (R key).eraseIdx i := by unfold leaveR; rw [hf]; simp [setRow]
    rw [e] at hn ⊢
    have hf' := hf
    unfold findAt at hf'
    obtain ⟨hi, hit, _⟩ := List.findIdx?_eq_some_iff_getElem.1 hf'
    have hki : k ≠ i := fun e => by
      subst e
      rw [clmAt_eq hi] at hne
      exact hne (by simpa using hit)
    have hlen : ((R key).eraseIdx i).length = (R key).length - 1 := List.length_eraseIdx_of_lt hi
    by_cases hlt : k < i
    · have hk' : k < ((R key).eraseIdx i).length := by omega
      have h1 := holdsV hn hk'
      rw [clmAt_erase hi (by omega), if_pos hlt] at h1
      rw [h1, holds_iff hk']
      rcases (holds_iff hk).1 h with h | h
      · exact .inl h
      · exact .inr fun j hj => by rw [clmAt_erase hi (by omega), if_pos (by omega)]; exact h j hj
    · obtain ⟨k', rfl⟩ : ∃ k', k = k' + 1 := ⟨k - 1, by omega⟩
      have hk' : k' < ((R key).eraseIdx i).length := by omega
      have h1 := holdsV hn hk'
      rw [clmAt_erase hi (by omega), if_neg (by omega)] at h1
      rw [h1, holds_iff hk']
      rcases (holds_iff hk).1 h with h | h
      · omega
      · refine .inr fun j hj => ?_
        rw [clmAt_erase hi (by omega)]
        split
        · exact h j (by omega)
        · exact h (j + 1) (by omega)

/-- How many of the first k claims hold. -/
def cnt (l : List Clm) (k : Nat) : Nat := ((List.range k).filter (fun i => holdsAt l i)).length
theorem cnt_succ (l : List Clm) (k : Nat) : cnt l (k + 1) = cnt l k + if holdsAt l k = true then 1 else 0 := by
  unfold cnt
  rw [List.range_succ, List.filter_append]
  cases h : holdsAt l k <;> simp [h]
theorem cnt_le (l : List Clm) (k : Nat) : cnt l k ≤ k := by
  unfold cnt
  exact Nat.le_trans (List.length_filter_le _ _) (by simp)
theorem cnt_pos (l : List Clm) : ∀ k, 0 < k → 0 < cnt l k
  | 0, h => by omega
  | 1, _ => by rw [cnt_succ]; simp [holdsAt]
  | k + 2, _ => by rw [cnt_succ]; have := cnt_pos l (k + 1) (by omega); omega
end Go.Proofs.Ythnffhhbdihalaa
