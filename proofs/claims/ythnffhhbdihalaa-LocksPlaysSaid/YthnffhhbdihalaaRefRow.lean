/- The reference's table read by keys: its rows are the table's. -/
import Derived.Test.YthnffhhbdihalaaRefLeave
namespace Go.Proofs.Ythnffhhbdihalaa
open Go.RowKit Go.Shelf

def keyRow (l : List RC) (key : Int) : List Clm := (l.filter (fun c => c.key == key)).map fun c => ⟨c.th, c.al⟩

theorem row_append (a b : List RC) (key : Int) : keyRow (a ++ b) key = keyRow a key ++ keyRow b key := by simp [keyRow]
theorem row_cons (c : RC) (r : List RC) (key : Int) : keyRow (c :: r) key = if c.key = key then ⟨c.th, c.al⟩ :: keyRow r key else keyRow r key := by
  unfold keyRow
  rw [List.filter_cons]
  by_cases h : c.key = key
  · simp [h]
  · simp [h]
theorem row_take_succ {l : List RC} {k : Nat} (hk : k < l.length) (key : Int) : keyRow (l.take (k + 1)) key = if (rAt l k).key = key then keyRow (l.take k) key ++ [⟨(rAt l k).th, (rAt l k).al⟩] else keyRow (l.take k) key := by
  rw [List.take_succ_eq_append_getElem hk, row_append, row_cons, ← rAt_eq hk]
  split <;> simp [keyRow]
theorem row_split {l : List RC} {k : Nat} (hk : k < l.length) (key : Int) : keyRow l key = keyRow (l.take k) key ++ keyRow (rAt l k :: l.drop (k + 1)) key := by
  rw [rAt_eq hk, ← List.drop_eq_getElem_cons hk, ← row_append, List.take_append_drop]

theorem rIdx_cases (l : List RC) (th key : Int) : (∃ k : Nat, k < l.length ∧ rIdx l th key = k ∧ rNone l th key k ∧ (rAt l k).th = th ∧ (rAt l k).key = key) ∨ (rIdx l th key = -1 ∧ rNone l th key l.length) := by
  by_cases h : ∃ k, k < l.length ∧ (rAt l k).th = th ∧ (rAt l k).key = key
  · left
    obtain ⟨k, ⟨h1, h2, h3⟩, hmin⟩ : ∃ k, (k < l.length ∧ (rAt l k).th = th ∧ (rAt l k).key = key) ∧ ∀ j, j < k → ¬ (j < l.length ∧ (rAt l j).th = th ∧ (rAt l j).key = key) := by
      obtain ⟨k, hk⟩ := h
      induction k using Nat.strongRecOn with
      | ind k ih =>
        by_cases hx : ∃ j, j < k ∧ (j < l.length ∧ (rAt l j).th = th ∧ (rAt l j).key = key)
        · obtain ⟨j, hj, hp⟩ := hx
          exact ih j hj hp
        · exact ⟨k, hk, fun j hj hp => hx ⟨j, hj, hp⟩⟩
    have hn : rNone l th key k := fun j hj hp => hmin j hj ⟨by omega, hp⟩
    exact ⟨k, h1, rIdx_some h1 hn h2 h3, hn, h2, h3⟩
  · right
    have hn : rNone l th key l.length := fun j hj hp => h ⟨j, hj, hp⟩
    exact ⟨rIdx_none hn, hn⟩

theorem findAt_none_if {L : List Clm} {th : Int} (h : ∀ c ∈ L, c.th ≠ th) : findAt L th = none := by
  unfold findAt
  rw [List.findIdx?_eq_none_iff]
  intro c hc
  simpa using h c hc
theorem findAt_append_none {A B : List Clm} {th : Int} (h : ∀ c ∈ A, c.th ≠ th) (hB : findAt B th = none) : findAt (A ++ B) th = none := by
  refine findAt_none_if (fun c hc => ?_)
  rcases List.mem_append.1 hc with hc | hc
  · exact h c hc
  · exact findAt_none hB c hc
theorem findAt_append_some {A B : List Clm} {th : Int} {c : Clm} (h : ∀ c ∈ A, c.th ≠ th) (hc : c.th = th) : findAt (A ++ c :: B) th = some A.length := by
  induction A with
  | nil => unfold findAt; simp [List.findIdx?_cons, hc]
  | cons a r ih =>
    have := ih (fun c hc => h c (List.mem_cons_of_mem _ hc))
    have ha : (a.th == th) = false := by simpa using h a (by simp)
    unfold findAt at this ⊢
    rw [List.cons_append, List.findIdx?_cons, ha]
    simp [this]

theorem row_none {l : List RC} {th key : Int} {k : Nat} (h : rNone l th key k) (hk : k ≤ l.length) : ∀ c ∈ keyRow (l.take k) key, c.th ≠ th := by
  intro c hc
  unfold keyRow at hc
  obtain ⟨d, hd, rfl⟩ := List.mem_map.1 hc
  obtain ⟨h1, h2⟩ := List.mem_filter.1 hd
  obtain ⟨i, hi, rfl⟩ := List.getElem_of_mem h1
  rw [List.length_take] at hi
  have := h i (by omega)
  rw [rAt_eq (by omega)] at this
  rw [List.getElem_take] at h2 ⊢
  exact fun e => this ⟨e, by simpa using h2⟩

theorem find_row_none {l : List RC} {th key : Int} (h : rNone l th key l.length) : findAt (keyRow l key) th = none := by
  refine findAt_none_if ?_
  have := row_none h (Nat.le_refl _)
  rwa [List.take_length] at this

theorem row_at {l : List RC} {th key : Int} {k : Nat} (hk : k < l.length) (h1 : (rAt l k).th = th) (h2 : (rAt l k).key = key) : keyRow l key = keyRow (l.take k) key ++ ⟨th, (rAt l k).al⟩ :: keyRow (l.drop (k + 1)) key := by
  rw [row_split hk key, row_cons, if_pos h2, h1]

theorem find_row_some {l : List RC} {th key : Int} {k : Nat} (hk : k < l.length) (h : rNone l th key k) (h1 : (rAt l k).th = th) (h2 : (rAt l k).key = key) : findAt (keyRow l key) th = some (keyRow (l.take k) key).length := by
  rw [row_at hk h1 h2]
  exact findAt_append_some (row_none h (by omega)) rfl

theorem holds_split {A B : List Clm} {c : Clm} : holdsAt (A ++ c :: B) A.length = (A.length == 0 || !(c.al || A.any Clm.al)) := by
  unfold holdsAt tog
  have : (A ++ c :: B).take (A.length + 1) = A ++ [c] := by
    rw [List.take_append, List.take_of_length_le (by omega)]; simp
  rw [this, List.all_append]
  congr 1
  simp only [List.all_cons, List.all_nil, Bool.and_true, Bool.not_or]
  rw [Bool.and_comm]
  congr 1
  clear this
  induction A with
  | nil => rfl
  | cons a r ih => simp [ih]

theorem row_erase {l : List RC} {th key : Int} {k : Nat} (hk : k < l.length) (h1 : (rAt l k).th = th) (h2 : (rAt l k).key = key) (key' : Int) :
    keyRow (l.eraseIdx k) key' = if key' = key then (keyRow l key).eraseIdx (keyRow (l.take k) key).length else keyRow l key' := by
  rw [List.eraseIdx_eq_take_drop_succ, row_append]
  by_cases h : key' = key
  · subst h
    rw [if_pos rfl, row_at hk h1 h2, List.eraseIdx_append_of_length_le (Nat.le_refl _)]
    simp
  · rw [if_neg h, row_split hk key', row_cons, if_neg (fun e => h (e.symm.trans h2))]

theorem row_snoc (l : List RC) (th key : Int) (al : Bool) (key' : Int) : keyRow (l ++ [⟨th, key, al⟩]) key' = if key' = key then keyRow l key ++ [⟨th, al⟩] else keyRow l key' := by
  rw [row_append, row_cons]
  by_cases h : key' = key
  · subst h; simp [keyRow]
  · rw [if_neg (fun e => h e.symm), if_neg h]; simp [keyRow]

def askL (l : List RC) (th key : Int) (al : Bool) : List RC := if 1 ≤ th ∧ th ≤ 64 ∧ 0 ≤ key ∧ findAt (keyRow l key) th = none then l ++ [⟨th, key, al⟩] else l
def leaveL (l : List RC) (th key : Int) : List RC := match rFind l th key with | some k => l.eraseIdx k | none => l

theorem askL_row (l : List RC) (th key : Int) (al : Bool) : keyRow (askL l th key al) = askR (keyRow l) th key al := by
  unfold askL askR
  split
  · funext key'
    rw [row_snoc]
    unfold setRow
    rfl
  · rfl
theorem askL_length (l : List RC) (th key : Int) (al : Bool) : (askL l th key al).length ≤ l.length + 1 := by unfold askL; split <;> simp

theorem isFree_row (l : List RC) : isFree (keyRow l) ↔ l = [] := by
  constructor
  · intro h
    cases l with
    | nil => rfl
    | cons c r => have := h c.key; rw [row_cons, if_pos rfl] at this; cases this
  · rintro rfl k; rfl

/-! the contracts, over rows -/
theorem keyRow_le (l : List RC) (key : Int) (j : Nat) : (keyRow (l.take j) key).length ≤ j := by
  unfold keyRow
  rw [List.length_map]
  refine Nat.le_trans (List.length_filter_le _ _) ?_
  rw [List.length_take]; omega

theorem RefAt.ask {w : World} {Rb : Nat} {v : Value} {l : List RC} (hr : RefAt w Rb v l) (hl : l.length ≤ 100000) (th key : Int) (al : Bool) :
    Calls Try.prog 13 #[.pointer (some ⟨Rb, 0, none⟩), .int .i64 th, .int .i64 key, .bool al] w fun e w' => e = .returned (.int .i64 (askE (keyRow l) th key)) ∧ RefDone w Rb v (askL l th key al) w' := by
  by_cases hg : 1 ≤ th ∧ th ≤ 64 ∧ 0 ≤ key
  · obtain ⟨h1, h2, h3⟩ := hg
    rcases rIdx_cases l th key with ⟨k, hk, hi, hn, e1, e2⟩ | ⟨hi, hn⟩
    · have hf := find_row_some hk hn e1 e2
      unfold askE askL
      rw [if_neg (fun h => by rw [hf] at h; cases h.2.2.2), if_neg (fun h => by rw [hf] at h; cases h.2.2.2)]
      exact (rask_has w Rb v l hr hl th key al k hi h1 h2 h3).mono fun e w' ⟨he, hw⟩ => ⟨he, hw ▸ hr.done⟩
    · have hf := find_row_none hn
      unfold askE askL
      rw [if_pos ⟨h1, h2, h3, hf⟩, if_pos ⟨h1, h2, h3, hf⟩]
      exact rask_ok w Rb v l hr hl th key al hi h1 h2 h3
  · unfold askE askL
    rw [if_neg (fun h => hg ⟨h.1, h.2.1, h.2.2.1⟩), if_neg (fun h => hg ⟨h.1, h.2.1, h.2.2.1⟩)]
    exact (rask_bad w Rb th key al hg).mono fun e w' ⟨he, hw⟩ => ⟨he, hw ▸ hr.done⟩

theorem RefAt.leave {w : World} {Rb : Nat} {v : Value} {l : List RC} (hr : RefAt w Rb v l) (hl : l.length ≤ 100000) (th key : Int) :
    Calls Try.prog 15 #[.pointer (some ⟨Rb, 0, none⟩), .int .i64 th, .int .i64 key] w fun e w' => e = .returned (.int .i64 (leaveE (keyRow l) th key)) ∧ ∃ l', RefDone w Rb v l' w' ∧ keyRow l' = leaveR (keyRow l) th key ∧ l'.length ≤ l.length := by
  rcases rIdx_cases l th key with ⟨k, hk, hi, hn, e1, e2⟩ | ⟨hi, hn⟩
  · have hf := find_row_some hk hn e1 e2
    unfold leaveE leaveR
    rw [hf]
    refine (rleave_ok w Rb v l hr hl th key k hi hk).mono fun e w' ⟨he, hw⟩ => ⟨he, _, hw, ?_, List.length_eraseIdx_le _ _⟩
    funext key'
    rw [row_erase hk e1 e2]
    rfl
  · have hf := find_row_none hn
    unfold leaveE leaveR
    rw [hf]
    exact (rleave_hasnt w Rb v l hr hl th key hi).mono fun e w' ⟨he, hw⟩ => ⟨he, l, hw ▸ hr.done, rfl, Nat.le_refl _⟩

set_option maxHeartbeats 2000000 in
theorem rholds_any (w : World) (Rb : Nat) (v : Value) (l : List RC) (th key : Int) (hc : w.cell? ⟨Rb, 0, none⟩ = some v) (hr : RRow w v l) (hl : l.length ≤ 100000) :
    Calls Try.prog 17 #[.pointer (some ⟨Rb, 0, none⟩), .int .i64 th, .int .i64 key] w fun e w' => e = .returned (.bool (findV (keyRow l key) th).2.2) ∧ w' = w := by
  have hat := Lib.hid (at_any w Rb v l th key hc hr hl)
  rcases rIdx_cases l th key with ⟨at_, hk, hi, hn, e1, e2⟩ | ⟨hi, hn⟩
  · rw [hi] at hat
    have hv := findV_has (find_row_some hk hn e1 e2)
    have hs := holds_split (A := keyRow (l.take at_) key) (B := keyRow (l.drop (at_ + 1)) key) (c := ⟨th, (rAt l at_).al⟩)
    rw [← row_at hk e1 e2] at hs
    obtain ⟨res, hres⟩ : ∃ res, (findV (keyRow l key) th).2.2 = res := ⟨_, rfl⟩
    rw [hres]
    rw [hv] at hres
    replace hres := hs.symm.trans hres
    clear hv hs hi hn
    obtain ⟨ad, cap, rfl, hcells⟩ := hr
    obtain ⟨g0, rfl, _, _, ca⟩ := hcells at_ hk
    obtain ⟨al, hal⟩ : ∃ al, (rAt l at_).al = al := ⟨_, rfl⟩
    rw [hal] at ca
    simp only [hal] at hres
    replace hres := Lib.hid hres
    replace hal := Lib.hid hal
    clear e1 e2
    have hk0 : (0 : Int) ≤ (at_ : Int) := Int.natCast_nonneg _
    go_enter Try.func17, Try.ntmps17
    go_wp2_with (go_at_call 25; refine hat.out.mono ?_; rintro e w' ⟨rfl, rfl⟩)
    go_loop [8, 9, 10] (fun h a i => ∃ j : Nat, j ≤ at_ ∧ i = .int .i64 j ∧ h = .int .i64 (keyRow (l.take j) key).length ∧ a = .bool (al || (keyRow (l.take j) key).any Clm.al)) (fun _ _ i => at_ - (intOf i).toNat)
    case atStart => exact ⟨0, Nat.zero_le _, rfl, by simp [keyRow], by simp [keyRow]⟩
    case round =>
      obtain ⟨j, hj, rfl, rfl, rfl⟩ := hrel
      have hkl := keyRow_le l key j
      by_cases hlt : j < at_
      · obtain ⟨g, eg, _, c1, c2⟩ := hcells j (by omega)
        obtain rfl : g0 = g := by simpa using eg
        have hts := row_take_succ (show j < l.length by omega) key
        obtain ⟨x, hx⟩ : ∃ x, (rAt l j).key = x := ⟨_, rfl⟩
        obtain ⟨y, hy⟩ : ∃ y, (rAt l j).al = y := ⟨_, rfl⟩
        rw [hx] at c1 hts
        rw [hy] at c2 hts
        obtain ⟨A, hA⟩ : ∃ A, keyRow (l.take j) key = A := ⟨_, rfl⟩
        rw [hA] at hts hkl ⊢
        obtain ⟨z, hz⟩ : ∃ z, (al || A.any Clm.al) = z := ⟨_, rfl⟩
        obtain ⟨q, hq⟩ : ∃ q, A.length = q := ⟨_, rfl⟩
        rw [hz, hq]
        rw [hq] at hkl
        replace hx := Lib.hid hx
        replace hy := Lib.hid hy
        replace hA := Lib.hid hA
        by_cases hxk : x = key
        · have hb : (x == key) = true := by simpa using hxk
          rw [if_pos hxk] at hts
          have h1 : (keyRow (l.take (j + 1)) key).length = q + 1 := by rw [hts, List.length_append, hq]; rfl
          have h2 : (al || (keyRow (l.take (j + 1)) key).any Clm.al) = (z || y) := by rw [hts, List.any_append, ← hz]; simp [Bool.or_assoc]
          replace h1 := Lib.hid h1
          replace h2 := Lib.hid h2
          replace hz := Lib.hid hz
          replace hq := Lib.hid hq
          clear hts hcells eg hxk
          cases z
          · go_wp2_with fail
            go_round
            case rel => exact ⟨j + 1, by omega, by go_num, by rw [h1.out]; go_num, by rw [h2.out]; rfl⟩
            case measure => simp [intOf]; omega
          · go_wp2_with fail
            go_round
            case rel => exact ⟨j + 1, by omega, by go_num, by rw [h1.out]; go_num, by rw [h2.out]; rfl⟩
            case measure => simp [intOf]; omega
        · have hb : (x == key) = false := by simpa using hxk
          rw [if_neg hxk] at hts
          replace hts := Lib.hid hts
          replace hz := Lib.hid hz
          replace hq := Lib.hid hq
          clear hcells eg hxk
          go_wp2_with fail
          go_round
          case rel => exact ⟨j + 1, by omega, by go_num, by rw [hts.out, hq.out], by rw [hts.out, hz.out]⟩
          case measure => simp [intOf]; omega
      · obtain rfl : j = at_ := by omega
        obtain ⟨A, hA⟩ : ∃ A, keyRow (l.take j) key = A := ⟨_, rfl⟩
        rw [hA] at hkl hres ⊢
        obtain ⟨z, hz⟩ : ∃ z, (al || A.any Clm.al) = z := ⟨_, rfl⟩
        obtain ⟨q, hq⟩ : ∃ q, A.length = q := ⟨_, rfl⟩
        rw [hz, hq] at hres ⊢
        rw [hq] at hkl
        replace hA := Lib.hid hA
        replace hz := Lib.hid hz
        replace hq := Lib.hid hq
        clear hcells
        by_cases hq0 : q = 0
        · subst hq0
          have hr : true = res := by have := hres.out; simpa using this
          go_wp2_with fail
          go_ret
          exact ⟨by rw [← hr]; rfl, rfl⟩
        · have hb : ((q : Int) == 0) = false := by simpa using hq0
          have hr := hres.out
          have hb' : (q == 0) = false := by simpa using hq0
          rw [hb', Bool.false_or] at hr
          replace hr := Lib.hid hr
          clear hq0 hb' hres
          go_wp2_with fail
          go_ret
          exact ⟨by rw [← hr.out]; rfl, rfl⟩
  · rw [hi] at hat
    rw [findV_hasnt (find_row_none hn)]
    clear hi hn hr
    go_enter Try.func17, Try.ntmps17
    go_wp2_with (go_at_call 25; refine hat.out.mono ?_; rintro e w' ⟨rfl, rfl⟩)
    go_ret
    exact ⟨rfl, rfl⟩
end Go.Proofs.Ythnffhhbdihalaa
