/- Walkers with rising keys: why one of them may always go, and all end. Plain data. -/
import Derived.Test.YthnffhhbdihalaaBits
namespace Go.Proofs.Ythnffhhbdihalaa
open Go.RowKit Go.Shelf

structure WD where
  keys : List Int
  n : Nat
  done : Bool

def wAt (ws : List WD) (i : Nat) : WD := (ws[i]?).getD ⟨[], 0, true⟩
theorem wAt_set_same {ws : List WD} {k : Nat} (h : k < ws.length) (x : WD) : wAt (ws.set k x) k = x := by simp [wAt, h]
theorem wAt_set_other {ws : List WD} {k i : Nat} (h : i ≠ k) (x : WD) : wAt (ws.set k x) i = wAt ws i := by simp [wAt, List.getElem?_set_ne (Ne.symm h)]

structure Good (d : WD) : Prop where
  le : d.n ≤ d.keys.length
  lt : d.keys.Pairwise (· < ·)
  pos : ∀ x ∈ d.keys, 0 < x
  small : d.keys.length ≤ 8

structure Inv (R : Int → List Clm) (ws : List WD) : Prop where
  good : ∀ i, i < ws.length → Good (wAt ws i)
  mem : ∀ i, i < ws.length → ∀ key, (∃ c ∈ R key, c.th = (i : Int) + 1) ↔ ((wAt ws i).done = false ∧ key ∈ (wAt ws i).keys.take (wAt ws i).n)
  only : ∀ key, ∀ c ∈ R key, ∃ i, i < ws.length ∧ c.th = (i : Int) + 1

def lastK (d : WD) : Int := (d.keys[d.n - 1]?).getD 0
def mayV (R : Int → List Clm) (ws : List WD) (i : Nat) : Bool := !(wAt ws i).done && ((wAt ws i).n == 0 || (findV (R (lastK (wAt ws i))) ((i : Int) + 1)).2.2)

theorem exists_max (p : Nat → Prop) (f : Nat → Int) : ∀ N, (∃ i, i < N ∧ p i) → ∃ i, i < N ∧ p i ∧ ∀ j, j < N → p j → f j ≤ f i
  | 0, h => by obtain ⟨i, hi, _⟩ := h; omega
  | N + 1, h => by
    by_cases h' : ∃ i, i < N ∧ p i
    · obtain ⟨i, hi, hp, hm⟩ := exists_max p f N h'
      by_cases hN : p N ∧ f i < f N
      · refine ⟨N, by omega, hN.1, fun j hj hpj => ?_⟩
        by_cases hjN : j = N
        · subst hjN; exact Int.le_refl _
        · have := hm j (by omega) hpj; omega
      · refine ⟨i, by omega, hp, fun j hj hpj => ?_⟩
        by_cases hjN : j = N
        · subst hjN
          by_cases h1 : f i < f j
          · exact absurd ⟨hpj, h1⟩ hN
          · omega
        · exact hm j (by omega) hpj
    · obtain ⟨i, hi, hp⟩ := h
      have hiN : i = N := by
        by_cases e : i = N
        · exact e
        · exact absurd ⟨i, by omega, hp⟩ h'
      subst hiN
      refine ⟨i, by omega, hp, fun j hj hpj => ?_⟩
      by_cases e : j = i
      · subst e; exact Int.le_refl _
      · exact absurd ⟨j, by omega, hpj⟩ h'

theorem last_eq {d : WD} (h0 : 0 < d.n) (hl : d.n ≤ d.keys.length) : lastK d = d.keys[d.n - 1]'(by omega) := by
  unfold lastK
  rw [List.getElem?_eq_getElem (by omega)]
  rfl

theorem last_mem {d : WD} (h0 : 0 < d.n) (hl : d.n ≤ d.keys.length) : lastK d ∈ d.keys.take d.n := by
  rw [last_eq h0 hl]
  exact List.mem_take_iff_getElem.2 ⟨d.n - 1, by omega, rfl⟩

theorem le_last {d : WD} (hg : Good d) {key : Int} (h : key ∈ d.keys.take d.n) : key ≤ lastK d := by
  obtain ⟨a, ha, rfl⟩ := List.mem_take_iff_getElem.1 h
  have := hg.le
  rw [last_eq (by omega) hg.le]
  by_cases e : a = d.n - 1
  · subst e; exact Int.le_refl _
  · exact Int.le_of_lt (List.pairwise_iff_getElem.1 hg.lt a (d.n - 1) (by omega) (by omega) (by omega))

theorem progress {R : Int → List Clm} {ws : List WD} (h : Inv R ws) (hx : ∃ i, i < ws.length ∧ (wAt ws i).done = false) : ∃ i, i < ws.length ∧ mayV R ws i = true := by
  by_cases h0 : ∃ i, i < ws.length ∧ (wAt ws i).done = false ∧ (wAt ws i).n = 0
  · obtain ⟨i, hi, h1, h2⟩ := h0
    exact ⟨i, hi, by simp [mayV, h1, h2]⟩
  · obtain ⟨i, hi, hd, hmax⟩ := exists_max (fun i => (wAt ws i).done = false) (fun i => lastK (wAt ws i)) ws.length hx
    have hn : ∀ j, j < ws.length → (wAt ws j).done = false → 0 < (wAt ws j).n := fun j hj hdj => by
      rcases Nat.eq_zero_or_pos (wAt ws j).n with e | e
      · exact absurd ⟨j, hj, hdj, e⟩ h0
      · exact e
    have hni := hn i hi hd
    obtain ⟨c, hc, _⟩ := (h.mem i hi _).2 ⟨hd, last_mem hni (h.good i hi).le⟩
    cases hR : R (lastK (wAt ws i)) with
    | nil => rw [hR] at hc; cases hc
    | cons c0 r =>
      obtain ⟨j, hj, hth⟩ := h.only (lastK (wAt ws i)) c0 (by rw [hR]; simp)
      obtain ⟨hdj, hkj⟩ := (h.mem j hj _).1 ⟨c0, by rw [hR]; simp, hth⟩
      have e : lastK (wAt ws i) = lastK (wAt ws j) := Int.le_antisymm (le_last (h.good j hj) hkj) (hmax j hj hdj)
      refine ⟨j, hj, ?_⟩
      have hf : findAt (R (lastK (wAt ws j))) ((j : Int) + 1) = some 0 := by
        rw [← e, hR]
        unfold findAt
        simp [List.findIdx?_cons, hth]
      have hh : (findV (R (lastK (wAt ws j))) ((j : Int) + 1)).2.2 = true := by
        simp only [findV, hf]
        simp [holdsAt]
      simp [mayV, hdj, hh]

theorem findAt_none_if {L : List Clm} {th : Int} (h : ∀ c ∈ L, c.th ≠ th) : findAt L th = none := by
  unfold findAt
  rw [List.findIdx?_eq_none_iff]
  intro c hc
  simpa using h c hc

theorem key_not_mem {d : WD} (hg : Good d) (hn : d.n < d.keys.length) : d.keys[d.n] ∉ d.keys.take d.n := by
  intro h
  obtain ⟨a, ha, e⟩ := List.mem_take_iff_getElem.1 h
  have := List.pairwise_iff_getElem.1 hg.lt a d.n (by omega) hn (by omega)
  omega

theorem take_succ_mem {d : WD} (hn : d.n < d.keys.length) (key : Int) : key ∈ d.keys.take (d.n + 1) ↔ key ∈ d.keys.take d.n ∨ key = d.keys[d.n] := by
  rw [List.take_succ_eq_append_getElem hn]
  simp only [List.mem_append, List.mem_singleton]

theorem Inv.ask {R : Int → List Clm} {ws : List WD} (h : Inv R ws) (hl : ws.length ≤ 8) {k : Nat} (hk : k < ws.length) (hd : (wAt ws k).done = false) (hn : (wAt ws k).n < (wAt ws k).keys.length) (al : Bool) :
    Inv (askR R ((k : Int) + 1) ((wAt ws k).keys[(wAt ws k).n]) al) (ws.set k { wAt ws k with n := (wAt ws k).n + 1 }) := by
  have hg := h.good k hk
  have hpos := hg.pos _ (List.getElem_mem hn)
  have hnm := key_not_mem hg hn
  have hnone : findAt (R ((wAt ws k).keys[(wAt ws k).n])) ((k : Int) + 1) = none := findAt_none_if fun c hc e => hnm ((h.mem k hk _).1 ⟨c, hc, e⟩).2
  have hR : askR R ((k : Int) + 1) ((wAt ws k).keys[(wAt ws k).n]) al = setRow R ((wAt ws k).keys[(wAt ws k).n]) (R ((wAt ws k).keys[(wAt ws k).n]) ++ [⟨(k : Int) + 1, al⟩]) := by
    unfold askR
    rw [if_pos ⟨by omega, by omega, by omega, hnone⟩]
  rw [hR]
  have hts := take_succ_mem hn
  generalize (wAt ws k).keys[(wAt ws k).n] = key at *
  have hmem : ∀ key' c, c ∈ setRow R key (R key ++ [⟨(k : Int) + 1, al⟩]) key' ↔ c ∈ R key' ∨ (key' = key ∧ c = ⟨(k : Int) + 1, al⟩) := by
    intro key' c
    unfold setRow
    by_cases e : key' = key
    · subst e; simp
    · simp [e]
  refine ⟨fun i hi => ?_, fun i hi key' => ?_, fun key' c hc => ?_⟩
  · rw [List.length_set] at hi
    by_cases e : i = k
    · subst e; rw [wAt_set_same hi]; exact ⟨hn, hg.lt, hg.pos, hg.small⟩
    · rw [wAt_set_other e]; exact h.good i hi
  · rw [List.length_set] at hi
    simp only [hmem]
    by_cases e : i = k
    · subst e
      rw [wAt_set_same hi]
      have hm := h.mem i hi key'
      rw [hts]
      constructor
      · rintro ⟨c, h1 | ⟨h1, rfl⟩, h2⟩
        · exact ⟨hd, .inl (hm.1 ⟨c, h1, h2⟩).2⟩
        · exact ⟨hd, .inr h1⟩
      · rintro ⟨_, h1 | h1⟩
        · obtain ⟨c, a, b⟩ := hm.2 ⟨hd, h1⟩
          exact ⟨c, .inl a, b⟩
        · exact ⟨_, .inr ⟨h1, rfl⟩, rfl⟩
    · rw [wAt_set_other e, ← h.mem i hi key']
      constructor
      · rintro ⟨c, h1 | ⟨h1, rfl⟩, h2⟩
        · exact ⟨c, h1, h2⟩
        · exact absurd (show (k : Int) + 1 = (i : Int) + 1 from h2) (by omega)
      · rintro ⟨c, h1, h2⟩
        exact ⟨c, .inl h1, h2⟩
  · rcases (hmem key' c).1 hc with h1 | ⟨_, rfl⟩
    · obtain ⟨i, hi, e⟩ := h.only key' c h1
      exact ⟨i, by rw [List.length_set]; exact hi, e⟩
    · exact ⟨k, by rw [List.length_set]; exact hk, rfl⟩

/-- After its leaving j of its keys. -/
def LeftTo (R R' : Int → List Clm) (th : Int) (ks : List Int) : Prop := ∀ key c, c ∈ R' key ↔ c ∈ R key ∧ ¬ (key ∈ ks ∧ c.th = th)

theorem leave_mem {R : Int → List Clm} (hn : ∀ key, ((R key).map Clm.th).Nodup) (th key : Int) (key' : Int) (c : Clm) : c ∈ leaveR R th key key' ↔ c ∈ R key' ∧ ¬ (key' = key ∧ c.th = th) := by
  unfold leaveR
  cases hf : findAt (R key) th with
  | none =>
    simp only
    constructor
    · refine fun h => ⟨h, fun ⟨e1, e2⟩ => ?_⟩
      subst e1
      exact findAt_none hf c h e2
    · exact fun h => h.1
  | some i =>
    simp only
    unfold setRow
    by_cases e : key' = key
    · subst e
      rw [if_pos rfl]
      unfold findAt at hf
      rw [List.findIdx?_eq_some_iff_getElem] at hf
      obtain ⟨hi, h1, _⟩ := hf
      have h1 : (R key')[i].th = th := by simpa using h1
      have hnd := List.pairwise_iff_getElem.1 (hn key')
      simp only [List.length_map, List.getElem_map] at hnd
      rw [List.mem_eraseIdx_iff_getElem]
      constructor
      · rintro ⟨j, hj, hne, rfl⟩
        refine ⟨List.getElem_mem _, fun ⟨_, e2⟩ => ?_⟩
        rcases Nat.lt_or_gt_of_ne hne with h2 | h2
        · exact hnd j i (by omega) hi h2 (e2.trans h1.symm)
        · exact hnd i j hi (by omega) h2 (h1.trans e2.symm)
      · rintro ⟨hm, hno⟩
        obtain ⟨j, hj, rfl⟩ := List.getElem_of_mem hm
        exact ⟨j, hj, fun e2 => hno ⟨rfl, by subst e2; exact h1⟩, rfl⟩
    · rw [if_neg e]
      exact ⟨fun h => ⟨h, fun h' => e h'.1⟩, fun h => h.1⟩

theorem LeftTo.nil (R : Int → List Clm) (th : Int) : LeftTo R R th [] := fun key c => by simp
theorem LeftTo.step {R R' : Int → List Clm} {th : Int} {ks : List Int} (h : LeftTo R R' th ks) (hn : ∀ key, ((R' key).map Clm.th).Nodup) (key : Int) : LeftTo R (leaveR R' th key) th (ks ++ [key]) := by
  intro key' c
  rw [leave_mem hn, h key' c]
  simp only [List.mem_append, List.mem_singleton]
  constructor
  · rintro ⟨⟨h1, h2⟩, h3⟩
    refine ⟨h1, fun ⟨h4, h5⟩ => ?_⟩
    rcases h4 with h4 | h4
    · exact h2 ⟨h4, h5⟩
    · exact h3 ⟨h4, h5⟩
  · rintro ⟨h1, h2⟩
    exact ⟨⟨h1, fun h3 => h2 ⟨.inl h3.1, h3.2⟩⟩, fun h3 => h2 ⟨.inr h3.1, h3.2⟩⟩

theorem Inv.leave {R R' : Int → List Clm} {ws : List WD} (h : Inv R ws) {k : Nat} (hk : k < ws.length) (hl : LeftTo R R' ((k : Int) + 1) (wAt ws k).keys) :
    Inv R' (ws.set k { wAt ws k with done := true }) := by
  refine ⟨fun i hi => ?_, fun i hi key => ?_, fun key c hc => ?_⟩
  · rw [List.length_set] at hi
    by_cases e : i = k
    · subst e; rw [wAt_set_same hi]; exact ⟨(h.good i hi).le, (h.good i hi).lt, (h.good i hi).pos, (h.good i hi).small⟩
    · rw [wAt_set_other e]; exact h.good i hi
  · rw [List.length_set] at hi
    by_cases e : i = k
    · subst e
      rw [wAt_set_same hi]
      constructor
      · rintro ⟨c, h1, h2⟩
        obtain ⟨h3, h4⟩ := (hl key c).1 h1
        exact absurd ⟨List.mem_of_mem_take ((h.mem i hi key).1 ⟨c, h3, h2⟩).2, h2⟩ h4
      · rintro ⟨h1, _⟩; cases h1
    · rw [wAt_set_other e, ← h.mem i hi key]
      constructor
      · rintro ⟨c, h1, h2⟩
        exact ⟨c, ((hl key c).1 h1).1, h2⟩
      · rintro ⟨c, h1, h2⟩
        exact ⟨c, (hl key c).2 ⟨h1, fun h3 => by have := h3.2; omega⟩, h2⟩
  · obtain ⟨i, hi, e⟩ := h.only key c ((hl key c).1 hc).1
    exact ⟨i, by rw [List.length_set]; exact hi, e⟩

/-! how many steps are left -/
def sumW (f : WD → Nat) (ws : List WD) : Nat := (ws.map f).sum
theorem sumW_set (f : WD → Nat) (x : WD) : ∀ (ws : List WD) (k : Nat), k < ws.length → sumW f (ws.set k x) + f (wAt ws k) = sumW f ws + f x
  | [], k, h => by simp at h
  | a :: r, 0, _ => by simp [sumW, wAt]; omega
  | a :: r, k + 1, h => by
    have := sumW_set f x r k (by simpa using h)
    have e : wAt (a :: r) (k + 1) = wAt r k := by simp [wAt]
    rw [e]
    simp only [sumW, List.set_cons_succ, List.map_cons, List.sum_cons] at this ⊢
    omega
theorem sumW_zero {f : WD → Nat} : ∀ (ws : List WD), sumW f ws = 0 → ∀ i, i < ws.length → f (wAt ws i) = 0
  | [], _, i, h => by simp at h
  | a :: r, hs, 0, _ => by simp only [sumW, List.map_cons, List.sum_cons] at hs; simp [wAt]; omega
  | a :: r, hs, i + 1, h => by
    simp only [sumW, List.map_cons, List.sum_cons] at hs
    have := sumW_zero r (show sumW f r = 0 by unfold sumW; omega) i (by simpa using h)
    have e : wAt (a :: r) (i + 1) = wAt r i := by simp [wAt]
    rw [e]; exact this
theorem sumW_pos {f : WD → Nat} : ∀ (ws : List WD), 0 < sumW f ws → ∃ i, i < ws.length ∧ 0 < f (wAt ws i)
  | [], h => by simp [sumW] at h
  | a :: r, hs => by
    by_cases h : 0 < f a
    · exact ⟨0, by simp, by simpa [wAt] using h⟩
    · simp only [sumW, List.map_cons, List.sum_cons] at hs
      obtain ⟨i, hi, hp⟩ := sumW_pos r (show 0 < sumW f r by unfold sumW; omega)
      refine ⟨i + 1, by simpa using hi, ?_⟩
      have e : wAt (a :: r) (i + 1) = wAt r i := by simp [wAt]
      rw [e]; exact hp
theorem sumW_le {f g : WD → Nat} {q : Nat} : ∀ (ws : List WD), (∀ i, i < ws.length → f (wAt ws i) ≤ q * g (wAt ws i)) → sumW f ws ≤ q * sumW g ws
  | [], _ => by simp [sumW]
  | a :: r, h => by
    have h1 := sumW_le r (fun i hi => by
      have := h (i + 1) (by simpa using hi)
      have e : wAt (a :: r) (i + 1) = wAt r i := by simp [wAt]
      rwa [e] at this)
    have h2 := h 0 (by simp)
    have e : wAt (a :: r) 0 = a := by simp [wAt]
    rw [e] at h2
    simp only [sumW, List.map_cons, List.sum_cons] at h1 ⊢
    rw [Nat.mul_add]; omega
def leftW (d : WD) : Nat := if d.done then 0 else 1
def remW (d : WD) : Nat := if d.done then 0 else d.keys.length - d.n + 1

theorem leftW_le (ws : List WD) : sumW leftW ws ≤ ws.length := by
  induction ws with
  | nil => simp [sumW]
  | cons a r ih =>
    simp only [sumW, List.map_cons, List.sum_cons, List.length_cons] at ih ⊢
    have : leftW a ≤ 1 := by unfold leftW; split <;> omega
    omega

theorem rem_first {R : Int → List Clm} {ws : List WD} (h : Inv R ws) : sumW remW ws ≤ 9 * sumW leftW ws :=
  sumW_le ws fun i hi => by
    have := (h.good i hi).small
    unfold remW leftW
    split <;> omega

theorem left_le_rem {ws : List WD} : sumW leftW ws ≤ sumW remW ws := by
  have := sumW_le (f := leftW) (g := remW) (q := 1) ws (fun i hi => by unfold leftW remW; split <;> omega)
  omega

theorem Inv.free {R : Int → List Clm} {ws : List WD} (h : Inv R ws) (h0 : sumW leftW ws = 0) : isFree R := by
  intro key
  cases hR : R key with
  | nil => rfl
  | cons c r =>
    obtain ⟨i, hi, e⟩ := h.only key c (by rw [hR]; simp)
    have h1 := ((h.mem i hi key).1 ⟨c, by rw [hR]; simp, e⟩).1
    have h2 := sumW_zero ws h0 i hi
    unfold leftW at h2
    rw [h1] at h2
    simp at h2

/-- One walker goes a step: one step less is left. -/
theorem rem_ask {ws : List WD} {k : Nat} (hk : k < ws.length) (hd : (wAt ws k).done = false) (hn : (wAt ws k).n < (wAt ws k).keys.length) :
    sumW remW (ws.set k { wAt ws k with n := (wAt ws k).n + 1 }) + 1 = sumW remW ws ∧ sumW leftW (ws.set k { wAt ws k with n := (wAt ws k).n + 1 }) = sumW leftW ws := by
  have h1 := sumW_set remW { wAt ws k with n := (wAt ws k).n + 1 } ws k hk
  have h2 := sumW_set leftW { wAt ws k with n := (wAt ws k).n + 1 } ws k hk
  have e1 : remW (wAt ws k) = (wAt ws k).keys.length - (wAt ws k).n + 1 := by simp [remW, hd]
  have e2 : leftW (wAt ws k) = 1 := by simp [leftW, hd]
  have e3 : remW { wAt ws k with n := (wAt ws k).n + 1 } = (wAt ws k).keys.length - ((wAt ws k).n + 1) + 1 := by simp [remW, hd]
  have e4 : leftW { wAt ws k with n := (wAt ws k).n + 1 } = 1 := by simp [leftW, hd]
  exact ⟨by omega, by omega⟩
theorem rem_leave {ws : List WD} {k : Nat} (hk : k < ws.length) (hd : (wAt ws k).done = false) (hg : Good (wAt ws k)) (hn : ¬ (wAt ws k).n < (wAt ws k).keys.length) :
    sumW remW (ws.set k { wAt ws k with done := true }) + 1 = sumW remW ws ∧ sumW leftW (ws.set k { wAt ws k with done := true }) + 1 = sumW leftW ws := by
  have h1 := sumW_set remW { wAt ws k with done := true } ws k hk
  have h2 := sumW_set leftW { wAt ws k with done := true } ws k hk
  have := hg.le
  have e1 : remW (wAt ws k) = (wAt ws k).keys.length - (wAt ws k).n + 1 := by simp [remW, hd]
  have e2 : leftW (wAt ws k) = 1 := by simp [leftW, hd]
  have e3 : remW { wAt ws k with done := true } = 0 := by simp [remW]
  have e4 : leftW { wAt ws k with done := true } = 0 := by simp [leftW]
  exact ⟨by omega, by omega⟩
end Go.Proofs.Ythnffhhbdihalaa
