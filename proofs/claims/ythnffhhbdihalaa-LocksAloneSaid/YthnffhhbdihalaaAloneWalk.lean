/- LocksAlone returns true: the walk, and why. -/
import Derived.Test.YthnffhhbdihalaaBits
namespace Go.Proofs.Ythnffhhbdihalaa
open Go.RowKit Go.Shelf

variable {Pr : Nat → Prop} {w0 w : World} {T : Nat} {R : Int → List Clm} {n₀ : Nat}

theorem TabI.toK1 (h : TabI n₀ w0 w T R) (o : Obj) : TabK (fun b => b < n₀ ∨ b = w.heap.size) (w.alloc o) (w.alloc o) T R := by
  have hsz := h.size
  obtain ⟨S, M, f, ht, hs, hb⟩ := h
  refine ⟨⟨S, M, f, ht.below ((Below.refl _ _).alloc (Nat.le_refl _) _), fun b hb hp => ?_⟩, fun b hp => ?_, rfl, rfl, rfl, Nat.le_refl _, fun _ _ => rfl⟩
  · have := hs b hb; have := ht.lt b hb; omega
  · rw [World.size_alloc]; omega

theorem TabK.toI {w1 : World} (h : TabK Pr w1 w T R) (hp : ∀ b, b < n₀ → Pr b) (hb : Below n₀ w0 w1) (hT : n₀ ≤ w1.heap.size) : TabI n₀ w0 w T R := by
  have hbl := hb.trans (h.toBelow hp)
  obtain ⟨S, M, f, ht, hs⟩ := h.tab
  exact ⟨S, M, f, ht, fun b hb => by
    rcases Nat.lt_or_ge b n₀ with h1 | h1
    · exact absurd (hp b h1) (hs b hb)
    · exact h1, hbl⟩

set_option maxRecDepth 100000 in
set_option maxHeartbeats 8000000 in
theorem alone_walk (v : Value) (os : List OpD) (w : World) (hs : Script w.heap.size w v os) :
    Calls Try.prog 5 #[v] w fun e w' => e = .returned (.bool true) ∧ Below w.heap.size w w' := by
  obtain ⟨ad, cap, rfl, hlen, hcells⟩ := hs
  obtain ⟨m, hm1, hm2, hm3⟩ : ∃ m, m ≤ os.length ∧ m ≤ 1000 ∧ (m = os.length ∨ m = 1000) := by
    by_cases h : os.length ≤ 1000
    · exact ⟨os.length, Nat.le_refl _, h, .inl rfl⟩
    · exact ⟨1000, by omega, Nat.le_refl _, .inr rfl⟩
  go_enter Try.func5, Try.ntmps5
  go_wp2_with fail
  refine (awake_any _).mono ?_; rintro e w1 ⟨rfl, b1⟩
  go_wp2_with fail
  refine (new_I _).mono ?_; rintro e w2 ⟨rfl, t2⟩
  have t2' := t2.rebase b1 b1.size
  clear t2
  generalize w1.heap.size + 1 = T at *
  go_wp2_with fail
  go_loopw [5] (fun i wr => ∃ k : Nat, k ≤ m ∧ i = .int .i64 k ∧ ∃ R, TabI w.heap.size w wr T R) (fun i _ => m - (intOf i).toNat)
  case atStart => exact ⟨0, Nat.zero_le _, rfl, _, t2'⟩
  case round =>
    obtain ⟨k, hk, rfl, R, hR⟩ := hrel
    obtain ⟨wo, rfl⟩ : ∃ wo : World, wo = wr := ⟨_, rfl⟩
    by_cases hlt : k < m
    · obtain ⟨b, off, rfl, hb, c0, c1, c2, c3⟩ := hcells k (by omega)
      obtain ⟨what, th, key, al, e0, e1, e2, e3⟩ : ∃ what th key al, (os[k]'(by omega)).what = what ∧ (os[k]'(by omega)).th = th ∧ (os[k]'(by omega)).key = key ∧ (os[k]'(by omega)).al = al := ⟨_, _, _, _, rfl, rfl, rfl, rfl⟩
      rw [e0] at c0; rw [e1] at c1; rw [e2] at c2; rw [e3] at c3
      have q1 : k < os.length := by omega
      have q2 : (k : Int) < 1000 := by omega
      have hfr := hR.frame
      have hsz := hR.size
      have d0 : wo.cell? ⟨b, off + k * 4, none⟩ = some (.int .i64 what) := (hfr.cell (p := ⟨b, _, none⟩) hb).trans c0
      have d1 : wo.cell? ⟨b, off + k * 4 + 1, none⟩ = some (.int .i64 th) := (hfr.cell (p := ⟨b, _, none⟩) hb).trans c1
      have d2 : wo.cell? ⟨b, off + k * 4 + 2, none⟩ = some (.int .i64 key) := (hfr.cell (p := ⟨b, _, none⟩) hb).trans c2
      have d3 : wo.cell? ⟨b, off + k * 4 + 3, none⟩ = some (.bool al) := (hfr.cell (p := ⟨b, _, none⟩) hb).trans c3
      have hblt : b < wo.heap.size := by omega
      have hK := hR.toK1 (.cells #[.int .i64 what, .int .i64 th, .int .i64 key, .bool al] 31)
      obtain ⟨kk, hkk⟩ : ∃ kk, bits BinOp.and IntKind.i64 key 7 = kk := ⟨_, rfl⟩
      have hfrb : Below w.heap.size w (wo.alloc (.cells #[.int .i64 what, .int .i64 th, .int .i64 key, .bool al] 31)) := hfr.alloc hsz _
      clear c0 c1 c2 c3 e0 e1 e2 e3 hcells hR hfr
      replace hK := Lib.hid hK
      replace hfrb := Lib.hid hfrb
      go_wp2_with fail
      refine (hK.out.claims kk).mono ?_; rintro e wa ⟨v8, rfl, hc8, hin8, hKa, hKa1⟩
      have hbox0 : (wo.alloc (.cells #[.int .i64 what, .int .i64 th, .int .i64 key, .bool al] 31)).heap[wo.heap.size]? = some (.cells #[.int .i64 what, .int .i64 th, .int .i64 key, .bool al] 31 (0, 0)) := World.alloc_heap_new _ _
      have hboxa : wa.heap[wo.heap.size]? = some (.cells #[.int .i64 what, .int .i64 th, .int .i64 key, .bool al] 31 (0, 0)) := (hKa.same _ (.inr rfl)).trans hbox0
      have b0 : wa.cell? ⟨wo.heap.size, 0, none⟩ = some (.int .i64 what) := by simp [World.cell?, hboxa]
      have b1' : wa.cell? ⟨wo.heap.size, 1, none⟩ = some (.int .i64 th) := by simp [World.cell?, hboxa]
      have b3' : wa.cell? ⟨wo.heap.size, 3, none⟩ = some (.bool al) := by simp [World.cell?, hboxa]
      replace hboxa := Lib.hid hboxa
      clear hbox0 d0 d1 d2 d3
      have hc8' := hc8
      obtain ⟨ad8, cap8, rfl, -⟩ := hc8'
      obtain ⟨q, hq, hq0, hq7⟩ : ∃ q, bits BinOp.and IntKind.i64 th 7 = q ∧ 0 ≤ q ∧ q ≤ 7 := ⟨_, rfl, bits_and_le th 7 (by omega)⟩
      have hq7' : q ≤ 7 := hq7
      have hsm := hKa.small kk
      have hths := (hKa.ths kk).1
      obtain ⟨A, hA⟩ : ∃ A : Bool, A = (bits BinOp.and IntKind.i64 what 1 == 0) := ⟨_, rfl⟩
      have hstep : ∀ R' : Int → List Clm, (A = true → R' = askR R (1 + q) kk al) → (A = false → R' = leaveR R (1 + q) kk) → ((R' kk).map Clm.th).Nodup →
          ∀ i, i < (R kk).length → holdsAt (R kk) i = true → (A = true ∨ (clmAt (R kk) i).th ≠ 1 + q) → (findV (R' kk) (clmAt (R kk) i).th).2.2 = true := by
        intro R' h1 h2 hn i hi hh hc
        cases A with
        | true => rw [h1 rfl] at hn ⊢; exact ask_keeps hn hi hh
        | false =>
          rw [h2 rfl] at hn ⊢
          exact leave_keeps hths hn hi hh (hc.resolve_left (by simp))
      replace hstep := Lib.hid hstep
      replace hths := Lib.hid hths
      replace hfrb := hfrb
      rcases bits_one what with hbw | hbw
      all_goals
        rw [hbw] at hA
        simp at hA
        subst hA
        go_wp2_with fail
        first
          | (go_at_call 12; refine (hKa1.ask (1 + q) kk al).mono ?_; rintro e wc ⟨rfl, hKc⟩; have hst := hstep.out _ (fun _ => rfl) (fun h => by cases h) (hKc.ths kk).1; generalize askR R (1 + q) kk al = R' at *)
          | (go_at_call 14; refine (hKa1.leave (1 + q) kk).mono ?_; rintro e wc ⟨rfl, hKc⟩; have hst := hstep.out _ (fun h => by cases h) (fun _ => rfl) (hKc.ths kk).1; generalize leaveR R (1 + q) kk = R' at *)
        replace hst := Lib.hid hst
        go_wp2_with fail
        refine (hKc.claims kk).mono ?_; rintro e wd ⟨v9, rfl, hc9, hin9, hKd, hKd1⟩
        have hc8d := hc8.kept (w' := wd) (fun b hb => hKd.same b (.inr hb))
        have hboxd : wd.heap[wo.heap.size]? = some (.cells #[.int .i64 what, .int .i64 th, .int .i64 key, .bool al] 31 (0, 0)) := (hKd.same _ (.inl (.inr rfl))).trans hboxa.out
        have hfrd : Below w.heap.size w wd := hfrb.out.trans ((hKa.toBelow (n₀ := w.heap.size) (fun b hb => .inl hb)).trans (hKd.toBelow (fun b hb => .inl (.inl hb))))
        have hszd : w.heap.size ≤ wd.heap.size := hfrd.size
        have hc9' := hc9
        obtain ⟨ad9, cap9, rfl, -⟩ := hc9'
        have hsm9 := hKd.small kk
        obtain ⟨l9, hl9⟩ : ∃ l9, R' kk = l9 := ⟨_, rfl⟩
        rw [hl9] at hc9 hsm9 ⊢
        obtain ⟨_, _, he9, hx9⟩ := hc9
        obtain ⟨rfl, _, rfl⟩ := Value.slice.inj he9
        clear he9 b0 b1' b3'
        replace hboxd := Lib.hid hboxd
        replace hfrd := Lib.hid hfrd
        clear hc8 hKc hKd hKa hKa1 hstep hK hfrb
        go_wp2_with fail
        go_loop [10, 11] (fun h i => ∃ j : Nat, j ≤ l9.length ∧ i = .int .i64 j ∧ h = .int .i64 (cnt l9 j)) (fun _ i => l9.length - (intOf i).toNat)
        case atStart => exact ⟨0, Nat.zero_le _, rfl, rfl⟩
        case round =>
          obtain ⟨j, hj, rfl, rfl⟩ := hrel
          by_cases hjl : j < l9.length
          · obtain ⟨g, rfl, cur, _, c0, c1, c2⟩ := hx9 j hjl
            have hcs := cnt_succ l9 j
            have hcl := cnt_le l9 j
            obtain ⟨cn, hcn⟩ : ∃ cn, cnt l9 j = cn := ⟨_, rfl⟩
            rw [hcn] at hcs hcl ⊢
            cases hh : holdsAt l9 j
            · rw [hh] at c2 hcs
              simp at hcs
              replace hcs := Lib.hid hcs
              replace hh := Lib.hid hh
              replace hcn := Lib.hid hcn
              by_cases hj0 : j = 0
              · have hz : ¬ (0 < j) := by omega
                clear hx9 hj0
                go_wp2_with fail
                go_round
                case rel => exact ⟨j + 1, by omega, by go_num, by rw [hcs.out]⟩
                case measure => simp [intOf]; omega
              · have hz : 0 < j := by omega
                clear hx9 hj0
                go_wp2_with fail
                go_round
                case rel => exact ⟨j + 1, by omega, by go_num, by rw [hcs.out]⟩
                case measure => simp [intOf]; omega
            · have hbk := fun h0 => holds_back hjl h0 hh
              rw [hh] at c2 hcs
              simp at hcs
              replace hcs := Lib.hid hcs
              replace hh := Lib.hid hh
              replace hcn := Lib.hid hcn
              by_cases hj0 : j = 0
              · have hz : ¬ (0 < j) := by omega
                clear hx9 hj0 hbk
                go_wp2_with fail
                go_round
                case rel => exact ⟨j + 1, by omega, by go_num, by rw [hcs.out]; go_num⟩
                case measure => simp [intOf]; omega
              · have hz : 0 < j := by omega
                obtain ⟨hb1, hb2, hb3⟩ := hbk hj0
                obtain ⟨g', e', _, _, _, _, p2⟩ := hx9 (j - 1) (by omega)
                obtain ⟨g'', e'', _, _, _, z1, _⟩ := hx9 0 (by omega)
                obtain rfl : g = g' := by simpa using e'
                obtain rfl : g = g'' := by simpa using e''
                rw [hb1] at p2
                rw [hb2] at c1
                rw [hb3] at z1
                simp only [Nat.zero_mul, Nat.zero_add] at z1
                have hw1 : IntKind.i64.wrap ((j : Int) - 1) = (j : Int) - 1 := by rw [IntKind.wrap_i64]; omega
                have hn1 : ((j : Int) - 1).toNat = j - 1 := by omega
                have hj1 : (0 : Int) ≤ (j : Int) - 1 := by omega
                have hj2 : (j : Int) - 1 < (l9.length : Int) := by omega
                have hl0 : 0 < l9.length := by omega
                clear hx9 hj0 hbk e' e'' hb1 hb2 hb3
                go_wp2_with fail
                go_round
                case rel => exact ⟨j + 1, by omega, by go_num, by rw [hcs.out]; go_num⟩
                case measure => simp [intOf]; omega
          · have hjm : l9.length = j := by omega
            subst hjm
            have hcp := cnt_pos l9 l9.length
            have hcl := cnt_le l9 l9.length
            obtain ⟨cn, hcn⟩ : ∃ cn, cnt l9 l9.length = cn := ⟨_, rfl⟩
            rw [hcn] at hcp hcl ⊢
            clear hcn hx9
            by_cases hl0 : 0 < l9.length
            · have hcz : ((cn : Int) == 0) = false := by have := hcp hl0; simp; omega
              clear hcp
              go_wp2_with fail
              go_loopw [12, 13] (fun i _ wr => ∃ j : Nat, j ≤ (R kk).length ∧ i = .int .i64 j ∧ TabK (fun b => (b < w.heap.size ∨ b = wo.heap.size) ∨ inBlock (.slice ad8 (R kk).length cap8) b) wd wr T R') (fun i _ _ => (R kk).length - (intOf i).toNat)
              case atStart => exact ⟨0, Nat.zero_le _, rfl, hKd1.weaken (fun b hb => .inl hb)⟩
              case round =>
                obtain ⟨j, hj, rfl, hKx⟩ := hrel
                by_cases hjl : j < (R kk).length
                · obtain ⟨_, _, he8, hx8⟩ := hc8d
                  obtain ⟨rfl, _, rfl⟩ := Value.slice.inj he8
                  obtain ⟨g, rfl, cur, _, c0, c1, c2⟩ := hx8 j hjl
                  have hgs : wr.heap[g]? = wd.heap[g]? := hKx.same g (.inr rfl)
                  have hbx : wr.heap[wo.heap.size]? = some (.cells #[.int .i64 what, .int .i64 th, .int .i64 key, .bool al] 31 (0, 0)) := (hKx.same _ (.inl (.inr rfl))).trans hboxd.out
                  have b0 : wr.cell? ⟨wo.heap.size, 0, none⟩ = some (.int .i64 what) := by simp [World.cell?, hbx]
                  have b1' : wr.cell? ⟨wo.heap.size, 1, none⟩ = some (.int .i64 th) := by simp [World.cell?, hbx]
                  have f0 : wr.cell? ⟨g, j * 3, none⟩ = some (.int .i64 (clmAt (R kk) j).th) := (World.cell?_of_block (a := ⟨g, _, none⟩) hgs).trans c0
                  have f2 : wr.cell? ⟨g, j * 3 + 2, none⟩ = some (.bool (holdsAt (R kk) j)) := (World.cell?_of_block (a := ⟨g, _, none⟩) hgs).trans c2
                  have hsj := hst.out j hjl
                  obtain ⟨x, hx⟩ : ∃ x, (clmAt (R kk) j).th = x := ⟨_, rfl⟩
                  rw [hx] at f0 hsj
                  have hKxd : ∀ n, TabK (fun b => (b < w.heap.size ∨ b = wo.heap.size) ∨ inBlock (.slice (some ⟨g, 0, none⟩) (R kk).length cap8) b) wd (wr.drewN n) T R' := fun n => hKx.below ⟨rfl, rfl, rfl, Nat.le_refl _, fun _ _ => rfl⟩
                  replace hKxd := Lib.hid hKxd
                  clear he8 hx8 hgs hbx c0 c1 c2 hKx
                  cases hh : holdsAt (R kk) j
                  · rw [hh] at f2
                    replace hh := Lib.hid hh
                    clear hsj hx
                    go_wp2_with fail
                    go_quiet (fail)
                    go_wp2_with fail
                    go_roundw
                    case rel => exact ⟨j + 1, by omega, by go_num, hKxd.out _⟩
                    case measure => simp [intOf]; omega
                  · rw [hh] at f2
                    cases hxe : (x == 1 + q)
                    · have hsj' := hsj hh (.inr (by simpa using hxe))
                      replace hh := Lib.hid hh
                      replace hsj' := Lib.hid hsj'
                      clear hsj hx
                      go_wp2_with fail
                      go_quiet (fail)
                      go_wp2_with fail
                      refine ((hKxd.out _).holds x kk).mono ?_; rintro e wy ⟨rfl, hKy⟩
                      rw [hsj'.out]
                      go_wp2_with fail
                      go_roundw
                      case rel => exact ⟨j + 1, by omega, by go_num, hKy⟩
                      case measure => simp [intOf]; omega
                    · have hsj' := fun h => hsj hh h
                      replace hsj' := Lib.hid hsj'
                      replace hh := Lib.hid hh
                      clear hsj hx
                      go_wp2_with fail
                      go_quiet (fail)
                      go_wp2_with fail
                      first
                        | (go_roundw
                           case rel => exact ⟨j + 1, by omega, by go_num, hKxd.out _⟩
                           case measure => simp [intOf]; omega)
                        | (refine ((hKxd.out _).holds x kk).mono ?_; rintro e wy ⟨rfl, hKy⟩
                           rw [hsj'.out (by simp)]
                           go_wp2_with fail
                           go_roundw
                           case rel => exact ⟨j + 1, by omega, by go_num, hKy⟩
                           case measure => simp [intOf]; omega)
                · have hjm : (R kk).length = j := by omega
                  subst hjm
                  have hI := hKx.toI (n₀ := w.heap.size) (w0 := w) (fun b hb => .inl (.inl hb)) hfrd.out hszd
                  replace hI := Lib.hid hI
                  clear hKx
                  go_wp2_with fail
                  go_roundw
                  case rel => exact ⟨k + 1, by omega, by go_num, _, hI.out⟩
                  case measure => simp [intOf]; omega
            · clear hcp
              go_wp2_with fail
              go_loopw [12, 13] (fun i _ wr => ∃ j : Nat, j ≤ (R kk).length ∧ i = .int .i64 j ∧ TabK (fun b => (b < w.heap.size ∨ b = wo.heap.size) ∨ inBlock (.slice ad8 (R kk).length cap8) b) wd wr T R') (fun i _ _ => (R kk).length - (intOf i).toNat)
              case atStart => exact ⟨0, Nat.zero_le _, rfl, hKd1.weaken (fun b hb => .inl hb)⟩
              case round =>
                obtain ⟨j, hj, rfl, hKx⟩ := hrel
                by_cases hjl : j < (R kk).length
                · obtain ⟨_, _, he8, hx8⟩ := hc8d
                  obtain ⟨rfl, _, rfl⟩ := Value.slice.inj he8
                  obtain ⟨g, rfl, cur, _, c0, c1, c2⟩ := hx8 j hjl
                  have hgs : wr.heap[g]? = wd.heap[g]? := hKx.same g (.inr rfl)
                  have hbx : wr.heap[wo.heap.size]? = some (.cells #[.int .i64 what, .int .i64 th, .int .i64 key, .bool al] 31 (0, 0)) := (hKx.same _ (.inl (.inr rfl))).trans hboxd.out
                  have b0 : wr.cell? ⟨wo.heap.size, 0, none⟩ = some (.int .i64 what) := by simp [World.cell?, hbx]
                  have b1' : wr.cell? ⟨wo.heap.size, 1, none⟩ = some (.int .i64 th) := by simp [World.cell?, hbx]
                  have f0 : wr.cell? ⟨g, j * 3, none⟩ = some (.int .i64 (clmAt (R kk) j).th) := (World.cell?_of_block (a := ⟨g, _, none⟩) hgs).trans c0
                  have f2 : wr.cell? ⟨g, j * 3 + 2, none⟩ = some (.bool (holdsAt (R kk) j)) := (World.cell?_of_block (a := ⟨g, _, none⟩) hgs).trans c2
                  have hsj := hst.out j hjl
                  obtain ⟨x, hx⟩ : ∃ x, (clmAt (R kk) j).th = x := ⟨_, rfl⟩
                  rw [hx] at f0 hsj
                  have hKxd : ∀ n, TabK (fun b => (b < w.heap.size ∨ b = wo.heap.size) ∨ inBlock (.slice (some ⟨g, 0, none⟩) (R kk).length cap8) b) wd (wr.drewN n) T R' := fun n => hKx.below ⟨rfl, rfl, rfl, Nat.le_refl _, fun _ _ => rfl⟩
                  replace hKxd := Lib.hid hKxd
                  clear he8 hx8 hgs hbx c0 c1 c2 hKx
                  cases hh : holdsAt (R kk) j
                  · rw [hh] at f2
                    replace hh := Lib.hid hh
                    clear hsj hx
                    go_wp2_with fail
                    go_quiet (fail)
                    go_wp2_with fail
                    go_roundw
                    case rel => exact ⟨j + 1, by omega, by go_num, hKxd.out _⟩
                    case measure => simp [intOf]; omega
                  · rw [hh] at f2
                    cases hxe : (x == 1 + q)
                    · have hsj' := hsj hh (.inr (by simpa using hxe))
                      replace hh := Lib.hid hh
                      replace hsj' := Lib.hid hsj'
                      clear hsj hx
                      go_wp2_with fail
                      go_quiet (fail)
                      go_wp2_with fail
                      refine ((hKxd.out _).holds x kk).mono ?_; rintro e wy ⟨rfl, hKy⟩
                      rw [hsj'.out]
                      go_wp2_with fail
                      go_roundw
                      case rel => exact ⟨j + 1, by omega, by go_num, hKy⟩
                      case measure => simp [intOf]; omega
                    · have hsj' := fun h => hsj hh h
                      replace hsj' := Lib.hid hsj'
                      replace hh := Lib.hid hh
                      clear hsj hx
                      go_wp2_with fail
                      go_quiet (fail)
                      go_wp2_with fail
                      first
                        | (go_roundw
                           case rel => exact ⟨j + 1, by omega, by go_num, hKxd.out _⟩
                           case measure => simp [intOf]; omega)
                        | (refine ((hKxd.out _).holds x kk).mono ?_; rintro e wy ⟨rfl, hKy⟩
                           rw [hsj'.out (by simp)]
                           go_wp2_with fail
                           go_roundw
                           case rel => exact ⟨j + 1, by omega, by go_num, hKy⟩
                           case measure => simp [intOf]; omega)
                · have hjm : (R kk).length = j := by omega
                  subst hjm
                  have hI := hKx.toI (n₀ := w.heap.size) (w0 := w) (fun b hb => .inl (.inl hb)) hfrd.out hszd
                  replace hI := Lib.hid hI
                  clear hKx
                  go_wp2_with fail
                  go_roundw
                  case rel => exact ⟨k + 1, by omega, by go_num, _, hI.out⟩
                  case measure => simp [intOf]; omega
    · have hkm : m = k := by omega
      subst hkm
      clear hlt hk hcells
      have hcases : (m < os.length ∧ (1000 : Int) ≤ m) ∨ os.length ≤ m := by omega
      rcases hcases with ⟨hq1, hq2⟩ | hq
      all_goals
        go_wp2_with fail
        go_ret
        exact ⟨rfl, hR.frame⟩
end Go.Proofs.Ythnffhhbdihalaa
