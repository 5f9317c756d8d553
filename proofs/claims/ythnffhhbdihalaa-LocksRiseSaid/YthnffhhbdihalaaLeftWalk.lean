/- LocksLeft returns true: the walk, and why. -/
import Derived.Test.YthnffhhbdihalaaScript
import Derived.StillTailTactics
namespace Go.Proofs.Ythnffhhbdihalaa
open Go.RowKit Go.Shelf

variable {n₀ : Nat} {w0 w : World} {T : Nat} {R : Int → List Clm}

theorem TabI.rebase {n₁ : Nat} {w1 : World} (h : TabI n₁ w1 w T R) (hb : Below n₀ w0 w1) (hn : n₀ ≤ n₁) : TabI n₀ w0 w T R := by
  obtain ⟨S, M, f, ht, hs, hb1⟩ := h
  exact ⟨S, M, f, ht, fun b hb => Nat.le_trans hn (hs b hb), hb.trans (hb1.mono hn)⟩

/-- Each claim was asked for by one of the operations from i up to (not with) j. -/
def From (os : List OpD) (i j : Nat) (R : Int → List Clm) : Prop := ∀ key c, c ∈ R key → ∃ k, i ≤ k ∧ k < j ∧ ∃ h : k < os.length, os[k].th = c.th ∧ os[k].key = key

theorem From.ask {os : List OpD} {k : Nat} (h : From os 0 k R) (hk : k < os.length) : From os 0 (k + 1) (askR R os[k].th os[k].key os[k].al) := by
  intro key c hc
  unfold askR at hc
  split at hc
  · unfold setRow at hc
    split at hc
    · rename_i he
      rcases List.mem_append.1 hc with hc | hc
      · rw [← he] at hc
        obtain ⟨j, h1, h2, h3⟩ := h key c hc
        exact ⟨j, h1, by omega, h3⟩
      · simp at hc; subst hc
        exact ⟨k, by omega, by omega, hk, rfl, he.symm⟩
    · obtain ⟨j, h1, h2, h3⟩ := h key c hc
      exact ⟨j, h1, by omega, h3⟩
  · obtain ⟨j, h1, h2, h3⟩ := h key c hc
    exact ⟨j, h1, by omega, h3⟩

theorem leave_none (hn : ∀ k, ((R k).map Clm.th).Nodup) (th key : Int) : ∀ c ∈ leaveR R th key key, c.th ≠ th := by
  unfold leaveR
  cases hf : findAt (R key) th with
  | none => exact findAt_none hf
  | some i =>
    intro c hc
    unfold findAt at hf
    obtain ⟨hi, h1, h2⟩ := List.findIdx?_eq_some_iff_getElem.1 hf
    simp [setRow] at hc
    obtain ⟨j, hj, hji, rfl⟩ := List.mem_eraseIdx_iff_getElem.1 hc
    intro he
    have hnd := List.pairwise_iff_getElem.1 (hn key)
    have h1' : (R key)[i].th = th := by simpa using h1
    rcases Nat.lt_or_ge i j with hlt | hge
    · exact hnd i j (by simpa using hi) (by simpa using hj) hlt (by simp [h1', he])
    · exact hnd j i (by simpa using hj) (by simpa using hi) (by omega) (by simp [h1', he])

theorem leave_sub (th key : Int) : ∀ k c, c ∈ leaveR R th key k → c ∈ R k := by
  intro k c hc
  unfold leaveR at hc
  cases hf : findAt (R key) th with
  | none => rw [hf] at hc; exact hc
  | some i =>
    rw [hf] at hc
    dsimp only at hc
    unfold setRow at hc
    split at hc
    · rename_i he
      rw [he]
      exact (List.eraseIdx_sublist _ _).subset hc
    · exact hc

theorem From.leave {os : List OpD} {k m : Nat} (h : From os k m R) (hn : ∀ k, ((R k).map Clm.th).Nodup) (hk : k < os.length) : From os (k + 1) m (leaveR R os[k].th os[k].key) := by
  intro key c hc
  obtain ⟨j, h1, h2, h3, h4, h5⟩ := h key c (leave_sub _ _ _ _ hc)
  refine ⟨j, ?_, h2, h3, h4, h5⟩
  by_cases hj : j = k
  · exfalso
    subst hj
    rw [← h5] at hc
    exact leave_none hn _ _ c hc h4.symm
  · omega

theorem holds_left (hn : ∀ k, ((R k).map Clm.th).Nodup) (th key : Int) : (findV (leaveR R th key key) th).2.2 = false := by
  have : findAt (leaveR R th key key) th = none := by
    unfold findAt
    rw [List.findIdx?_eq_none_iff]
    intro c hc
    have := leave_none hn th key c hc
    simpa using this
  rw [findV_hasnt this]

def LeftRel (n₀ : Nat) (w : World) (T : Nat) (os : List OpD) (i j : Nat) (wr : World) : Prop := ∃ R, TabI n₀ w wr T R ∧ From os i j R

set_option maxRecDepth 100000 in
set_option maxHeartbeats 4000000 in
theorem left_walk (v : Value) (os : List OpD) (w : World) (hs : Script w.heap.size w v os) :
    Calls Try.prog 9 #[v] w fun e w' => e = .returned (.bool true) ∧ Below w.heap.size w w' := by
  obtain ⟨ad, cap, rfl, hlen, hcells⟩ := hs
  obtain ⟨len, hl⟩ : ∃ len, len = os.length := ⟨_, rfl⟩
  obtain ⟨m, hm1, hm2, hm3⟩ : ∃ m, m ≤ os.length ∧ m ≤ 300 ∧ (m = os.length ∨ m = 300) := by
    by_cases h : os.length ≤ 300
    · exact ⟨os.length, Nat.le_refl _, h, .inl rfl⟩
    · exact ⟨300, by omega, Nat.le_refl _, .inr rfl⟩
  go_enter Try.func9, Try.ntmps9
  go_wp2_with fail
  refine (awake_any _).mono ?_; rintro e w1 ⟨rfl, b1⟩
  go_wp2_with fail
  refine (new_I _).mono ?_; rintro e w2 ⟨rfl, t2⟩
  have t2' := t2.rebase b1 b1.size
  clear t2
  generalize w1.heap.size + 1 = T at *
  go_wp2_with fail
  go_loopw [5] (fun i wr => ∃ k : Nat, k ≤ m ∧ i = .int .i64 k ∧ LeftRel w.heap.size w T os 0 k wr) (fun i _ => m - (intOf i).toNat)
  case atStart => exact ⟨0, Nat.zero_le _, rfl, _, t2', fun key c hc => by cases hc⟩
  case round =>
    obtain ⟨k, hk, rfl, R, hR, hF⟩ := hrel
    by_cases hlt : k < m
    · obtain ⟨b, off, rfl, hb, c0, c1, c2, c3⟩ := hcells k (by omega)
      obtain ⟨th, key, al, e1, e2, e3⟩ : ∃ th key al, (os[k]'(by omega)).th = th ∧ (os[k]'(by omega)).key = key ∧ (os[k]'(by omega)).al = al := ⟨_, _, _, rfl, rfl, rfl⟩
      rw [e1] at c1; rw [e2] at c2; rw [e3] at c3
      have hF' := Lib.hid (hF.ask (by omega : k < os.length))
      rw [e1, e2, e3] at hF'
      have q1 : k < os.length := by omega
      have q2 : (k : Int) < 300 := by omega
      have d1 : wr.cell? ⟨b, off + k * 4 + 1, none⟩ = some (.int .i64 th) := (hR.frame.cell (p := ⟨b, _, none⟩) hb).trans c1
      have d2 : wr.cell? ⟨b, off + k * 4 + 2, none⟩ = some (.int .i64 key) := (hR.frame.cell (p := ⟨b, _, none⟩) hb).trans c2
      have d3 : wr.cell? ⟨b, off + k * 4 + 3, none⟩ = some (.bool al) := (hR.frame.cell (p := ⟨b, _, none⟩) hb).trans c3
      have hRd : TabI w.heap.size w wr.drew T R := hR.below ((Below.refl _ _).drew)
      clear c0 c1 c2 c3 e1 e2 e3 hcells hF
      replace hRd := Lib.hid hRd
      go_wp2_with fail
      go_still_tail 16, (by kernel_rfl)
      go_wp2_with fail
      refine (hRd.out.ask th key al).mono ?_; rintro e w3 ⟨rfl, t3⟩
      go_wp2_with fail
      go_roundw
      case rel => exact ⟨k + 1, by omega, by go_num, _, t3, hF'.out⟩
      case measure => simp [intOf]; omega
    · have hkm : m = k := by omega
      subst hkm
      clear hlt hk
      by_cases hcase : m < os.length
      · have hq : (300 : Int) ≤ (m : Int) := by omega
        go_wp2_with fail
        go_loopw [6] (fun i wr => ∃ j : Nat, j ≤ m ∧ i = .int .i64 j ∧ LeftRel w.heap.size w T os j m wr) (fun i _ => m - (intOf i).toNat)
        case atStart => exact ⟨0, Nat.zero_le _, rfl, _, hR, hF⟩
        case round =>
          obtain ⟨j, hj, rfl, R1, hR1, hF1⟩ := hrel
          by_cases hlt : j < m
          · obtain ⟨b, off, rfl, hb, c0, c1, c2, c3⟩ := hcells j (by omega)
            obtain ⟨th, key, e1, e2⟩ : ∃ th key, (os[j]'(by omega)).th = th ∧ (os[j]'(by omega)).key = key := ⟨_, _, rfl, rfl⟩
            rw [e1] at c1; rw [e2] at c2
            have hn := fun k => (hR1.ths k).1
            have hF' := Lib.hid (hF1.leave hn (by omega : j < os.length))
            have hh := Lib.hid (holds_left hn th key)
            rw [e1, e2] at hF'
            have q1 : j < os.length := by omega
            have q2 : (j : Int) < 300 := by omega
            have hRd : TabI w.heap.size w wr.drew T R1 := hR1.below ((Below.refl _ _).drew)
            clear c0 c3 e1 e2 hcells hF hF1 hn
            replace hRd := Lib.hid hRd
            have hfr := hR1.frame
            have d1 : wr.cell? ⟨b, off + j * 4 + 1, none⟩ = some (.int .i64 th) := (hfr.cell (p := ⟨b, _, none⟩) hb).trans c1
            have d2 : wr.cell? ⟨b, off + j * 4 + 2, none⟩ = some (.int .i64 key) := (hfr.cell (p := ⟨b, _, none⟩) hb).trans c2
            go_wp2_with fail
            go_still_tail 11, (by kernel_rfl)
            go_wp2_with fail
            refine (hRd.out.leave th key).mono ?_; rintro e w3 ⟨rfl, t3⟩
            have hfr3 := t3.frame
            have f1 : w3.cell? ⟨b, off + j * 4 + 1, none⟩ = some (.int .i64 th) := (hfr3.cell (p := ⟨b, _, none⟩) hb).trans c1
            have f2 : w3.cell? ⟨b, off + j * 4 + 2, none⟩ = some (.int .i64 key) := (hfr3.cell (p := ⟨b, _, none⟩) hb).trans c2
            have t3d := Lib.hid (t3.below ((Below.refl _ _).drew))
            go_wp2_with fail
            go_still_tail 11, (by kernel_rfl)
            go_wp2_with fail
            refine (t3d.out.holds th key).mono ?_; rintro e w4 ⟨rfl, t4⟩
            rw [hh.out]
            go_wp2_with fail
            go_roundw
            case rel => exact ⟨j + 1, by omega, by go_num, _, t4, hF'.out⟩
            case measure => simp [intOf]; omega
          · have hkm : m = j := by omega
            subst hkm
            clear hlt hj
            go_wp2_with fail
            refine hR1.free.mono ?_; rintro e w4 ⟨fb, rfl, hfb, rfl⟩
            have hfb' : fb = true := hfb.2 fun key => by
              cases hl : R1 key with
              | nil => rfl
              | cons c r =>
                obtain ⟨k', h1, h2, _⟩ := hF1 key c (by rw [hl]; simp)
                omega
            subst hfb'
            go_wp2_with fail
            go_ret
            exact ⟨rfl, hR1.frame⟩
      · have hq : os.length ≤ m := by omega
        obtain rfl : m = os.length := by omega
        go_wp2_with fail
        go_loopw [6] (fun i wr => ∃ j : Nat, j ≤ os.length ∧ i = .int .i64 j ∧ LeftRel w.heap.size w T os j os.length wr) (fun i _ => os.length - (intOf i).toNat)
        case atStart => exact ⟨0, Nat.zero_le _, rfl, _, hR, hF⟩
        case round =>
          obtain ⟨j, hj, rfl, R1, hR1, hF1⟩ := hrel
          by_cases hlt : j < os.length
          · obtain ⟨b, off, rfl, hb, c0, c1, c2, c3⟩ := hcells j (by omega)
            obtain ⟨th, key, e1, e2⟩ : ∃ th key, (os[j]'(by omega)).th = th ∧ (os[j]'(by omega)).key = key := ⟨_, _, rfl, rfl⟩
            rw [e1] at c1; rw [e2] at c2
            have hn := fun k => (hR1.ths k).1
            have hF' := Lib.hid (hF1.leave hn (by omega : j < os.length))
            have hh := Lib.hid (holds_left hn th key)
            rw [e1, e2] at hF'
            have q1 : j < os.length := by omega
            have q2 : (j : Int) < 300 := by omega
            have hRd : TabI w.heap.size w wr.drew T R1 := hR1.below ((Below.refl _ _).drew)
            clear c0 c3 e1 e2 hcells hF hF1 hn
            replace hRd := Lib.hid hRd
            have hfr := hR1.frame
            have d1 : wr.cell? ⟨b, off + j * 4 + 1, none⟩ = some (.int .i64 th) := (hfr.cell (p := ⟨b, _, none⟩) hb).trans c1
            have d2 : wr.cell? ⟨b, off + j * 4 + 2, none⟩ = some (.int .i64 key) := (hfr.cell (p := ⟨b, _, none⟩) hb).trans c2
            go_wp2_with fail
            go_still_tail 11, (by kernel_rfl)
            go_wp2_with fail
            refine (hRd.out.leave th key).mono ?_; rintro e w3 ⟨rfl, t3⟩
            have hfr3 := t3.frame
            have f1 : w3.cell? ⟨b, off + j * 4 + 1, none⟩ = some (.int .i64 th) := (hfr3.cell (p := ⟨b, _, none⟩) hb).trans c1
            have f2 : w3.cell? ⟨b, off + j * 4 + 2, none⟩ = some (.int .i64 key) := (hfr3.cell (p := ⟨b, _, none⟩) hb).trans c2
            have t3d := Lib.hid (t3.below ((Below.refl _ _).drew))
            go_wp2_with fail
            go_still_tail 11, (by kernel_rfl)
            go_wp2_with fail
            refine (t3d.out.holds th key).mono ?_; rintro e w4 ⟨rfl, t4⟩
            rw [hh.out]
            go_wp2_with fail
            go_roundw
            case rel => exact ⟨j + 1, by omega, by go_num, _, t4, hF'.out⟩
            case measure => simp [intOf]; omega
          · obtain rfl : j = os.length := by omega
            clear hlt hj
            go_wp2_with fail
            refine hR1.free.mono ?_; rintro e w4 ⟨fb, rfl, hfb, rfl⟩
            have hfb' : fb = true := hfb.2 fun key => by
              cases hl : R1 key with
              | nil => rfl
              | cons c r =>
                obtain ⟨k', h1, h2, _⟩ := hF1 key c (by rw [hl]; simp)
                omega
            subst hfb'
            go_wp2_with fail
            go_ret
            exact ⟨rfl, hR1.frame⟩
end Go.Proofs.Ythnffhhbdihalaa
