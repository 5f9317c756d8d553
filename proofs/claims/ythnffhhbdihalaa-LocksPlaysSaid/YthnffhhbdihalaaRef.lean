/- The reference's table of locks: At and Holds. -/
import Derived.Test.YthnffhhbdihalaaBits
namespace Go.Proofs.Ythnffhhbdihalaa
open Go.RowKit Go.Shelf

structure RC where
  th : Int
  key : Int
  al : Bool

def rAt (l : List RC) (i : Nat) : RC := (l[i]?).getD ⟨0, 0, false⟩
def rCells (l : List RC) : List Value := l.flatMap fun c => [.int .i64 c.th, .int .i64 c.key, .bool c.al]

theorem rAt_eq {l : List RC} {i : Nat} (h : i < l.length) : rAt l i = l[i] := by simp [rAt, h]

/-- The slice v holds the claims l. -/
def RRow (w : World) (v : Value) (l : List RC) : Prop :=
  ∃ ad cap, v = .slice ad l.length cap ∧ ∀ i, i < l.length → ∃ g, ad = some ⟨g, 0, none⟩ ∧
    w.cell? ⟨g, i * 3, none⟩ = some (.int .i64 (rAt l i).th) ∧ w.cell? ⟨g, i * 3 + 1, none⟩ = some (.int .i64 (rAt l i).key) ∧ w.cell? ⟨g, i * 3 + 2, none⟩ = some (.bool (rAt l i).al)

/-- The reference's table in block Rb. -/
structure RefAt (w : World) (Rb : Nat) (v : Value) (l : List RC) : Prop where
  cell : w.heap[Rb]? = some (.cells #[v] 29 (0, 0))
  own : w.ownsRow 0 63 3 v l.length (rCells l)

theorem rCells_length (l : List RC) : (rCells l).length = l.length * 3 := by
  induction l with
  | nil => rfl
  | cons c r ih => simp only [rCells, List.flatMap_cons, List.length_append, List.length_cons, List.length_nil] at ih ⊢; omega

theorem rCells_at (l : List RC) : ∀ i, i < l.length → (rCells l)[i * 3]? = some (.int .i64 (rAt l i).th) ∧ (rCells l)[i * 3 + 1]? = some (.int .i64 (rAt l i).key) ∧ (rCells l)[i * 3 + 2]? = some (.bool (rAt l i).al) := by
  induction l with
  | nil => intro i hi; simp at hi
  | cons c r ih =>
    intro i hi
    have e : rCells (c :: r) = [.int .i64 c.th, .int .i64 c.key, .bool c.al] ++ rCells r := rfl
    cases i with
    | zero => rw [e]; exact ⟨rfl, rfl, rfl⟩
    | succ j =>
      have hj : j < r.length := by simpa using hi
      obtain ⟨h1, h2, h3⟩ := ih j hj
      have ec : rAt (c :: r) (j + 1) = rAt r j := by simp [rAt]
      rw [e, ec]
      refine ⟨?_, ?_, ?_⟩
      · rw [List.getElem?_append_right (by simp; omega), ← h1]; congr 1; simp; omega
      · rw [List.getElem?_append_right (by simp; omega), ← h2]; congr 1; simp; omega
      · rw [List.getElem?_append_right (by simp; omega), ← h3]; congr 1; simp; omega

theorem RefAt.row {w : World} {Rb : Nat} {v : Value} {l : List RC} (h : RefAt w Rb v l) : RRow w v l := by
  rcases h.own.2 with ⟨rfl, h0⟩ | ⟨g, cap, cur, rfl, _, hb, h1, h2, h3, h4⟩
  · exact ⟨none, 0, by rw [h0], fun i hi => by omega⟩
  · refine ⟨_, cap, rfl, fun i hi => ⟨g, rfl, ?_⟩⟩
    obtain ⟨a1, a2, a3⟩ := rCells_at l i hi
    have key : ∀ j u, j < l.length * 3 → (rCells l)[j]? = some u → w.cell? ⟨g, j, none⟩ = some u := by
      intro j u hj hv
      rw [← h4, List.getElem?_take_of_lt hj] at hv
      simp [World.cell?, hb]
      simpa using hv
    exact ⟨key _ _ (by omega) a1, key _ _ (by omega) a2, key _ _ (by omega) a3⟩

def rFind (l : List RC) (th key : Int) : Option Nat := l.findIdx? (fun c => c.th == th && c.key == key)
def rIdx (l : List RC) (th key : Int) : Int := match rFind l th key with | some i => (i : Int) | none => -1
/-- None of the first k is it. -/
def rNone (l : List RC) (th key : Int) (k : Nat) : Prop := ∀ i, i < k → ¬ ((rAt l i).th = th ∧ (rAt l i).key = key)

theorem rIdx_none {l : List RC} {th key : Int} (h : rNone l th key l.length) : rIdx l th key = -1 := by
  have : rFind l th key = none := by
    unfold rFind
    rw [List.findIdx?_eq_none_iff]
    intro c hc
    obtain ⟨i, hi, rfl⟩ := List.getElem_of_mem hc
    have := h i hi
    rw [rAt_eq hi] at this
    simpa using this
  unfold rIdx
  rw [this]
theorem rIdx_some {l : List RC} {th key : Int} {k : Nat} (hk : k < l.length) (h : rNone l th key k) (h1 : (rAt l k).th = th) (h2 : (rAt l k).key = key) : rIdx l th key = (k : Int) := by
  have : rFind l th key = some k := by
    unfold rFind
    rw [List.findIdx?_eq_some_iff_getElem]
    refine ⟨hk, by rw [rAt_eq hk] at h1 h2; simp [h1, h2], fun j hj => ?_⟩
    have := h j hj
    rw [rAt_eq (by omega)] at this
    simpa using this
  unfold rIdx
  rw [this]

set_option maxHeartbeats 1000000 in
theorem at_any (w : World) (Rb : Nat) (v : Value) (l : List RC) (th key : Int) (hc : w.cell? ⟨Rb, 0, none⟩ = some v) (hr : RRow w v l) (hl : l.length ≤ 100000) :
    Calls Try.prog 25 #[.pointer (some ⟨Rb, 0, none⟩), .int .i64 th, .int .i64 key] w fun e w' => e = .returned (.int .i64 (rIdx l th key)) ∧ w' = w := by
  obtain ⟨ad, cap, rfl, hcells⟩ := hr
  obtain ⟨res, hres⟩ : ∃ res, rIdx l th key = res := ⟨_, rfl⟩
  rw [hres]
  replace hres := Lib.hid hres
  go_enter Try.func25, Try.ntmps25
  go_wp2_with fail
  go_loop [7] (fun i => ∃ k : Nat, k ≤ l.length ∧ i = .int .i64 k ∧ rNone l th key k) (fun i => l.length - (intOf i).toNat)
  case atStart => exact ⟨0, Nat.zero_le _, rfl, fun i hi => by omega⟩
  case round =>
    obtain ⟨k, hk, rfl, hn⟩ := hrel
    replace hn := Lib.hid hn
    by_cases hlt : k < l.length
    · obtain ⟨g, rfl, c0, c1, c2⟩ := hcells k hlt
      obtain ⟨x, y, hx, hy⟩ : ∃ x y, (rAt l k).th = x ∧ (rAt l k).key = y := ⟨_, _, rfl, rfl⟩
      rw [hx] at c0; rw [hy] at c1
      replace hx := Lib.hid hx
      replace hy := Lib.hid hy
      clear hcells c2
      by_cases h1 : x = th
      · have hb1 : (x == th) = true := by simpa using h1
        replace h1 := Lib.hid h1
        by_cases h2 : y = key
        · have hb2 : (y == key) = true := by simpa using h2
          replace h2 := Lib.hid h2
          go_wp2_with fail
          go_ret
          have hi := (rIdx_some hlt hn.out (hx.out.trans h1.out) (hy.out.trans h2.out)).symm.trans hres.out
          exact ⟨by rw [← hi]; rfl, rfl⟩
        · have hb2 : (y == key) = false := by simpa using h2
          go_wp2_with fail
          go_round
          case rel => exact ⟨k + 1, by omega, by go_num, fun i hi => by
            by_cases hik : i = k
            · subst hik; intro h; exact h2 (hy.out.symm.trans h.2)
            · exact hn.out i (by omega)⟩
          case measure => simp [intOf]; omega
      · have hb1 : (x == th) = false := by simpa using h1
        go_wp2_with fail
        go_round
        case rel => exact ⟨k + 1, by omega, by go_num, fun i hi => by
          by_cases hik : i = k
          · subst hik; intro h; exact h1 (hx.out.symm.trans h.1)
          · exact hn.out i (by omega)⟩
        case measure => simp [intOf]; omega
    · have hkm : l.length = k := by omega
      subst hkm
      go_wp2_with fail
      go_ret
      have hi := (rIdx_none hn.out).symm.trans hres.out
      exact ⟨by rw [← hi]; rfl, rfl⟩
end Go.Proofs.Ythnffhhbdihalaa
