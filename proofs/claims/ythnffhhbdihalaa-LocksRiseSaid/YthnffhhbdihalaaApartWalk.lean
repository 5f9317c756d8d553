/- LocksApart returns true: the walk, and why. -/
import Derived.Test.YthnffhhbdihalaaKeep
import Derived.Sort.QuietIn
import Derived.Deep.QuietTactic
import Derived.BigQuiet
namespace Go.Proofs.Ythnffhhbdihalaa
open Go.RowKit Go.Shelf

variable {Pr : Nat → Prop} {w0 w : World} {T : Nat} {R : Int → List Clm}

theorem ask_other (R : Int → List Clm) (th key : Int) (al : Bool) (other : Int) (h : key ≠ other) : askR R th key al other = R other := by
  unfold askR
  split
  · unfold setRow; rw [if_neg (fun e => h e.symm)]
  · rfl
theorem ask_len (R : Int → List Clm) (th key : Int) (al : Bool) : (askR R th key al key).length = (R key).length + 1 ∨ (askR R th key al key).length = (R key).length := by
  unfold askR
  split
  · left; simp [setRow]
  · right; rfl
theorem leave_other (R : Int → List Clm) (th key : Int) (other : Int) (h : key ≠ other) : leaveR R th key other = R other := by
  unfold leaveR
  cases findAt (R key) th with
  | none => rfl
  | some i => dsimp only; unfold setRow; rw [if_neg (fun e => h e.symm)]
theorem leave_len (R : Int → List Clm) (th key : Int) : (leaveR R th key key).length + 1 = (R key).length ∨ (leaveR R th key key).length = (R key).length := by
  unfold leaveR
  cases hf : findAt (R key) th with
  | none => right; rfl
  | some i =>
    left
    have hi : i < (R key).length := by
      unfold findAt at hf
      exact (List.findIdx?_eq_some_iff_getElem.1 hf).1
    simp [setRow, List.length_eraseIdx_of_lt hi]
    omega

set_option maxRecDepth 100000 in
set_option maxHeartbeats 4000000 in
theorem apart_walk (v : Value) (os : List OpD) (what th key : Int) (al : Bool) (other : Int) (w : World) (hs : Script w.heap.size w v os) :
    Calls Try.prog 8 #[v, .agg #[.int .i64 what, .int .i64 th, .int .i64 key, .bool al], .int .i64 other] w fun e w' => e = .returned (.bool true) ∧ Below w.heap.size w w' := by
  obtain ⟨ad, cap, rfl, hlen, hcells⟩ := hs
  obtain ⟨m, hm1, hm2, hm3⟩ : ∃ m, m ≤ os.length ∧ m ≤ 300 ∧ (m = os.length ∨ m = 300) := by
    by_cases h : os.length ≤ 300
    · exact ⟨os.length, Nat.le_refl _, h, .inl rfl⟩
    · exact ⟨300, by omega, Nat.le_refl _, .inr rfl⟩
  go_enter Try.func8, Try.ntmps8
  go_wp2_with fail
  refine (awake_any _).mono ?_; rintro e w1 ⟨rfl, b1⟩
  go_wp2_with fail
  refine (new_I _).mono ?_; rintro e w2 ⟨rfl, t2⟩
  obtain ⟨wb, hwb⟩ : ∃ wb, wb = w.alloc (.cells #[.int .i64 what, .int .i64 th, .int .i64 key, .bool al] 31) := ⟨_, rfl⟩
  rw [← hwb] at b1
  have hsz : wb.heap.size = w.heap.size + 1 := by rw [hwb]; simp
  have t2' := t2.rebase b1 b1.size
  clear t2
  generalize w1.heap.size + 1 = T at *
  have hbw : Below w.heap.size w wb := by rw [hwb]; exact (Below.refl _ w).alloc (Nat.le_refl _) _
  have hbox : wb.heap[w.heap.size]? = some (.cells #[.int .i64 what, .int .i64 th, .int .i64 key, .bool al] 31 (0, 0)) := by rw [hwb]; exact World.alloc_heap_new _ _
  clear hwb
  replace hsz := Lib.hid hsz
  replace hbox := Lib.hid hbox
  go_wp2_with fail
  go_loopw [9] (fun i wr => ∃ k : Nat, k ≤ m ∧ i = .int .i64 k ∧ ∃ R, TabI wb.heap.size wb wr T R) (fun i _ => m - (intOf i).toNat)
  case atStart => exact ⟨0, Nat.zero_le _, rfl, _, t2'⟩
  case round =>
    obtain ⟨k, hk, rfl, R, hR⟩ := hrel
    by_cases hlt : k < m
    · obtain ⟨b, off, rfl, hb, c0, c1, c2, c3⟩ := hcells k (by omega)
      obtain ⟨th', key', al', e1, e2, e3⟩ : ∃ th key al, (os[k]'(by omega)).th = th ∧ (os[k]'(by omega)).key = key ∧ (os[k]'(by omega)).al = al := ⟨_, _, _, rfl, rfl, rfl⟩
      rw [e1] at c1; rw [e2] at c2; rw [e3] at c3
      have q1 : k < os.length := by omega
      have q2 : (k : Int) < 300 := by omega
      have hfr := hbw.trans (hR.frame.mono (by have := hsz.out; omega))
      have d1 : wr.cell? ⟨b, off + k * 4 + 1, none⟩ = some (.int .i64 th') := (hfr.cell (p := ⟨b, _, none⟩) hb).trans c1
      have d2 : wr.cell? ⟨b, off + k * 4 + 2, none⟩ = some (.int .i64 key') := (hfr.cell (p := ⟨b, _, none⟩) hb).trans c2
      have d3 : wr.cell? ⟨b, off + k * 4 + 3, none⟩ = some (.bool al') := (hfr.cell (p := ⟨b, _, none⟩) hb).trans c3
      have hRd : TabI wb.heap.size wb wr.drew T R := hR.below ((Below.refl _ _).drew)
      clear c0 c1 c2 c3 e1 e2 e3 hcells hR
      replace hRd := Lib.hid hRd
      go_wp2_with fail
      go_still_tail 16, (by kernel_rfl)
      go_wp2_with fail
      refine (hRd.out.ask th' key' al').mono ?_; rintro e w3 ⟨rfl, t3⟩
      go_wp2_with fail
      go_roundw
      case rel => exact ⟨k + 1, by omega, by go_num, _, t3⟩
      case measure => simp [intOf]; omega
    · have hkm : m = k := by omega
      subst hkm
      clear hlt hk
      have hK := hR.toK
      have hcases : (m < os.length ∧ (300 : Int) ≤ m) ∨ os.length ≤ m := by omega
      clear hcells
      have hfr0 := hbw.trans (hR.frame.mono (by have := hsz.out; omega))
      have hboxr : wr.heap[w.heap.size]? = some (.cells #[.int .i64 what, .int .i64 th, .int .i64 key, .bool al] 31 (0, 0)) := (hR.frame.block _ (by have := hsz.out; omega)).trans hbox.out
      replace hboxr := Lib.hid hboxr
      replace hK := Lib.hid hK
      rcases hcases with ⟨hq1, hq2⟩ | hq
      all_goals
        go_wp2_with fail
        refine (hK.out.claims other).mono ?_; rintro e wa ⟨v1, rfl, hc1, hin1, hKa, hKa1⟩
        have hboxa : wa.heap[w.heap.size]? = some (.cells #[.int .i64 what, .int .i64 th, .int .i64 key, .bool al] 31 (0, 0)) := (hKa.same _ (by have := hsz.out; omega)).trans hboxr.out
        have e0 : wa.cell? ⟨w.heap.size, 0, none⟩ = some (.int .i64 what) := by simp [World.cell?, hboxa]
        have e1 : wa.cell? ⟨w.heap.size, 1, none⟩ = some (.int .i64 th) := by simp [World.cell?, hboxa]
        have e2 : wa.cell? ⟨w.heap.size, 2, none⟩ = some (.int .i64 key) := by simp [World.cell?, hboxa]
        have e3 : wa.cell? ⟨w.heap.size, 3, none⟩ = some (.bool al) := by simp [World.cell?, hboxa]
        replace hboxa := Lib.hid hboxa
        have hc1' := hc1
        obtain ⟨ad1, cap1, rfl, -⟩ := hc1'
        cases hand : (bits BinOp.and IntKind.i64 what 1 == 0)
        all_goals
          go_wp2_with fail
          first
            | (go_at_call 12; refine (hKa1.ask th key al).mono ?_; rintro e wc ⟨rfl, hKb⟩; have ho1 := fun h => congrArg List.length (ask_other R th key al other h); have ho2 := ask_other R th key al other; have hle := ask_len R th key al; generalize askR R th key al = R' at *)
            | (go_at_call 14; refine (hKa1.leave th key).mono ?_; rintro e wc ⟨rfl, hKb⟩; have ho1 := fun h => congrArg List.length (leave_other R th key other h); have ho2 := leave_other R th key other; have hle := leave_len R th key; generalize leaveR R th key = R' at *)
          replace ho1 := Lib.hid ho1
          replace ho2 := Lib.hid ho2
          replace hle := Lib.hid hle
          have hc1c := hc1.kept (fun b hb => hKb.same b (.inr hb))
          have hboxc : wc.heap[w.heap.size]? = some (.cells #[.int .i64 what, .int .i64 th, .int .i64 key, .bool al] 31 (0, 0)) := (hKb.same _ (.inl (by have := hsz.out; omega))).trans hboxa.out
          clear e0 e1 e2 e3
          go_wp2_with fail
          refine (hKb.claims other).mono ?_; rintro e wd ⟨v2, rfl, hc2, hin2, hKd, _⟩
          have hc1d := hc1c.kept (w' := wd) (fun b hb => (hKd.same b (.inr hb)).trans (hKb.same b (.inr hb)).symm)
          have hboxd : wd.heap[w.heap.size]? = some (.cells #[.int .i64 what, .int .i64 th, .int .i64 key, .bool al] 31 (0, 0)) := (hKd.same _ (.inl (by have := hsz.out; omega))).trans hboxa.out
          have e2 : wd.cell? ⟨w.heap.size, 2, none⟩ = some (.int .i64 key) := by simp [World.cell?, hboxd]
          have hl1 := hKa.small other
          have hl2 := hKd.small other
          have hfin : Below w.heap.size w wd := hfr0.trans ((hK.out.toBelow (n₀ := wb.heap.size) (fun b hb => hb)).trans ((hKa.toBelow (fun b hb => hb)).trans (hKd.toBelow (fun b hb => .inl hb))) |>.mono (by have := hsz.out; omega))
          replace hfin := Lib.hid hfin
          clear hboxd hboxc hKb hKd hKa hKa1 hc1c hc1 hR
          by_cases hko : key = other
          · subst hko
            obtain ⟨ad2, cap2, rfl, -⟩ := hc2
            obtain ⟨n1, hn1⟩ : ∃ n1, (R key).length = n1 := ⟨_, rfl⟩
            obtain ⟨n2, hn2⟩ : ∃ n2, (R' key).length = n2 := ⟨_, rfl⟩
            rw [hn1, hn2]
            have z1 : (n1 : Int) - 1 ≤ (n2 : Int) := by have := hle.out; omega
            have z2 : (n2 : Int) ≤ (n1 : Int) + 1 := by have := hle.out; omega
            have z3 : (n1 : Int) ≤ 64 := by omega
            have z4 : (n2 : Int) ≤ 64 := by omega
            clear hn1 hn2 hc1d
            go_wp2_with fail
            go_ret
            exact ⟨rfl, hfin.out⟩
          · have hkb : (key == other) = false := by simpa using hko
            rw [ho2.out hko] at hc2
            obtain ⟨ad2, cap2, rfl, hx2⟩ := hc2
            obtain ⟨_, _, he1, hx1⟩ := hc1d
            obtain ⟨rfl, _, rfl⟩ := Value.slice.inj he1
            clear he1
            obtain ⟨l, hl⟩ : ∃ l, R other = l := ⟨_, rfl⟩
            rw [hl] at hx1 hx2 hl1 ⊢
            clear hko
            go_wp2_with fail
            go_loopw [12] (fun i wr => ∃ k : Nat, k ≤ l.length ∧ i = .int .i64 k ∧ ∃ n, wr = wd.drewN n) (fun i _ => l.length - (intOf i).toNat)
            case atStart => exact ⟨0, Nat.zero_le _, rfl, 0, rfl⟩
            case round =>
              obtain ⟨k, hk, rfl, nn, rfl⟩ := hrel
              by_cases hlt : k < l.length
              · obtain ⟨g1, rfl, cur1, _, c0, c1, c2⟩ := hx1 k hlt
                obtain ⟨g2, rfl, cur2, _, d0, d1, d2⟩ := hx2 k hlt
                obtain ⟨x1, x2, x3, y1, y2, y3⟩ : ∃ x1 x2 x3, (clmAt l k).th = x1 ∧ (clmAt l k).al = x2 ∧ holdsAt l k = x3 := ⟨_, _, _, rfl, rfl, rfl⟩
                rw [y1] at c0 d0; rw [y2] at c1 d1; rw [y3] at c2 d2
                clear hx1 hx2 y1 y2 y3
                have hq1 := fun w => neq39 w x1 x2 x3
                have hq2 := fun w x y => guard39 w x y #[.int .i64 x1, .bool x2, .bool x3] #[.int .i64 x1, .bool x2, .bool x3]
                go_wp2_with fail
                go_quiet (fail)
                go_wp2_with fail
                go_roundw
                case rel => exact ⟨k + 1, by omega, by go_num, _, rfl⟩
                case measure => simp [intOf]; omega
              · have hkm : l.length = k := by omega
                subst hkm
                go_wp2_with fail
                go_ret
                exact ⟨rfl, hfin.out.trans ⟨rfl, rfl, rfl, Nat.le_refl _, fun _ _ => rfl⟩⟩
end Go.Proofs.Ythnffhhbdihalaa
