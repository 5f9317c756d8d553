/- LocksRise returns true: the walk. -/
import Derived.Test.YthnffhhbdihalaaWalkers
namespace Go.Proofs.Ythnffhhbdihalaa
open Go.RowKit Go.Shelf
attribute [local go_sem] Oper.semAt_some

def Ints (n : Nat) (w : World) (v : Value) : Prop :=
  ∃ ad len cap, v = .slice ad len cap ∧ len ≤ 9223372036854775807 ∧ ∀ i, i < len → ∃ b off x, ad = some ⟨b, off, none⟩ ∧ b < n ∧ w.cell? ⟨b, off + i, none⟩ = some (.int .i64 x)

theorem Steps.below {n n' : Nat} {w w' : World} {v : Value} (h : Steps n w v) (hb : Below n w w') (hn : n ≤ n') : Steps n' w' v := by
  obtain ⟨ad, len, cap, rfl, h1, h2⟩ := h
  refine ⟨ad, len, cap, rfl, h1, fun i hi => ?_⟩
  obtain ⟨b, off, ai, li, ci, e, hbn, c, hl, h3⟩ := h2 i hi
  refine ⟨b, off, ai, li, ci, e, by omega, (hb.cell (p := ⟨b, _, none⟩) hbn).trans c, hl, fun j hj => ?_⟩
  obtain ⟨b', off', x, e', hbn', c'⟩ := h3 j hj
  exact ⟨b', off', x, e', by omega, (hb.cell (p := ⟨b', _, none⟩) hbn').trans c'⟩

def canTo (R : Int → List Clm) (ws : List WD) (p : Nat) : List Nat := (List.range p).filter fun i => mayV R ws i
theorem canTo_succ (R : Int → List Clm) (ws : List WD) (p : Nat) : canTo R ws (p + 1) = canTo R ws p ++ (if mayV R ws p = true then [p] else []) := by
  unfold canTo
  rw [List.range_succ, List.filter_append]
  congr 1
  by_cases h : mayV R ws p = true
  · simp [h]
  · simp [h]
theorem canTo_le (R : Int → List Clm) (ws : List WD) (p : Nat) : (canTo R ws p).length ≤ p := by
  have := List.length_filter_le (fun i => mayV R ws i) (List.range p)
  rw [List.length_range] at this
  exact this
theorem canTo_mem {R : Int → List Clm} {ws : List WD} {p i : Nat} (h : i ∈ canTo R ws p) : i < p ∧ mayV R ws i = true := by
  unfold canTo at h
  obtain ⟨h1, h2⟩ := List.mem_filter.1 h
  exact ⟨List.mem_range.1 h1, h2⟩

theorem inv_start {ws : List WD} (h : ∀ i, i < ws.length → Good (wAt ws i) ∧ (wAt ws i).done = false ∧ (wAt ws i).n = 0) : Inv (fun _ => []) ws := by
  refine ⟨fun i hi => (h i hi).1, fun i hi key => ?_, fun key c hc => by cases hc⟩
  rw [(h i hi).2.2]
  simp

theorem left_start : ∀ (ws : List WD), (∀ i, i < ws.length → (wAt ws i).done = false) → sumW leftW ws = ws.length
  | [], _ => rfl
  | a :: r, h => by
    have h0 := h 0 (by simp)
    have h1 := left_start r (fun i hi => by
      have := h (i + 1) (by simpa using hi)
      have e : wAt (a :: r) (i + 1) = wAt r i := by simp [wAt]
      rwa [e] at this)
    have e : wAt (a :: r) 0 = a := by simp [wAt]
    rw [e] at h0
    simp only [sumW, List.map_cons, List.sum_cons, List.length_cons] at h1 ⊢
    have : leftW a = 1 := by simp [leftW, h0]
    omega

variable {n₀ n₁ n₂ : Nat} {w0 w : World} {T : Nat} {R : Int → List Clm}

theorem TabI.rst {w1 : World} {u : Value} {Bs : List Nat} {ws : List WD} (h : TabI n₀ w0 w T (fun _ => [])) (hb : Below w.heap.size w w1) (hW : WsAt w.heap.size w1.heap.size w1 u Bs ws) (hl : ws.length ≤ 8)
    (hg : ∀ i, i < ws.length → Good (wAt ws i) ∧ (wAt ws i).done = false ∧ (wAt ws i).n = 0) : RSt n₀ w.heap.size w1.heap.size w0 w1 T (fun _ => []) u Bs ws := by
  have hsz := h.size
  have hfr := h.frame
  obtain ⟨S, M, f, ht, hs, _⟩ := h
  refine ⟨⟨⟨S, M, f, ht.below hb, fun b hb' hp => ?_⟩, fun b hp => ?_, rfl, rfl, rfl, Nat.le_refl _, fun _ _ => rfl⟩, hW, inv_start hg, hl, hfr.trans (hb.mono hsz), hsz⟩
  · have := hs b hb'; have := ht.lt b hb'; omega
  · have := hb.size
    rcases hp with hp | hp <;> omega

set_option maxRecDepth 100000 in
set_option maxHeartbeats 8000000 in
theorem rise_walk (v0 v2 : Value) (alone : Int) (w : World) (hs : Steps w.heap.size w v0) (hp : Ints w.heap.size w v2) :
    Calls Try.prog 6 #[v0, .int .i64 alone, v2] w fun e w' => e = .returned (.bool true) ∧ Below w.heap.size w w' := by
  obtain ⟨pad, plen, pcap, rfl, hpl, hpc⟩ := hp
  obtain ⟨i3, hi3, hz0, hz1, hz2⟩ := info_parts info3
  replace hs := Lib.hid hs
  replace hpc := Lib.hid hpc
  go_enter Try.func6, Try.ntmps6
  go_wp2_with fail
  refine (awake_any _).mono ?_; rintro e w1 ⟨rfl, b1⟩
  go_wp2_with fail
  refine (new_I _).mono ?_; rintro e w2 ⟨rfl, t2⟩
  have t2' := t2.rebase b1 b1.size
  clear t2
  generalize w1.heap.size + 1 = T at *
  have hs2 := hs.out.below t2'.frame t2'.size
  replace t2' := Lib.hid t2'
  go_wp2_with fail
  refine (walkers_any hs2).mono ?_; rintro e w3 ⟨u, Bs, ws0, rfl, hW, hl8, hgood, hb3⟩
  obtain ⟨N, hN⟩ : ∃ N, ws0.length = N := ⟨_, rfl⟩
  obtain ⟨ua, uc, rfl⟩ := row_shape hW.row
  have hBl : Bs.length = N := hW.len.trans hN
  have hS := t2'.out.rst hb3 hW hl8 hgood
  have hleft := left_start ws0 (fun i hi => (hgood i hi).2.1)
  have hrem := rem_first (inv_start hgood)
  rw [hBl] at hS ⊢
  rw [hN] at hleft hl8
  rw [hleft] at hrem
  generalize hn1 : w2.heap.size = n₁ at *
  generalize hn2 : w3.heap.size = n₂ at *
  clear hW hgood hb3 hs2 hn1 hn2
  replace hBl := Lib.hid hBl
  replace hN := Lib.hid hN
  replace hleft := Lib.hid hleft
  go_wp2_with fail
  go_loopw [10, 11] (fun l i wr => ∃ (k L : Nat) (R : Int → List Clm) (ws : List WD), i = .int .i64 k ∧ l = .int .i64 L ∧ ws.length = N ∧ RSt w.heap.size n₁ n₂ w wr T R (.slice ua N uc) Bs ws ∧ sumW leftW ws = L ∧ k + sumW remW ws ≤ 72) (fun _ i _ => 100 - (intOf i).toNat)
  case atStart => exact ⟨0, N, _, ws0, rfl, rfl, hN.out, hS, hleft.out, by omega⟩
  case round =>
    obtain ⟨k, L, R, ws, rfl, rfl, hwl, hS, hL, hk⟩ := hrel
    obtain ⟨wo, rfl⟩ : ∃ wo : World, wo = wr := ⟨_, rfl⟩
    have hlr := left_le_rem (ws := ws)
    by_cases hL0 : L = 0
    · subst hL0
      have hfree := hS.inv.free hL
      have hfr := hS.frame
      have ht := hS.tab.free
      replace hfree := Lib.hid hfree
      replace hfr := Lib.hid hfr
      replace ht := Lib.hid ht
      clear hS
      go_wp2_with fail
      refine ht.out.mono ?_; rintro e w4 ⟨z, rfl, hz, rfl⟩
      have hzt : z = true := hz.2 hfree.out
      subst hzt
      go_wp2_with fail
      go_ret
      exact ⟨rfl, hfr.out⟩
    · have hLp : 0 < L := by omega
      have hk1 : (k : Int) < 1000 := by omega
      have hrl := Lib.hid (show k + sumW remW ws ≤ 72 from hk)
      have hprog := progress hS.inv (by
        obtain ⟨i, hi, h⟩ := sumW_pos (f := leftW) ws (by omega)
        refine ⟨i, hi, ?_⟩
        unfold leftW at h
        cases hd : (wAt ws i).done with
        | false => rfl
        | true => rw [hd] at h; simp at h)
      rw [hwl] at hprog
      have hk72 : k ≤ 71 := by omega
      have hL72 : L ≤ 72 := by omega
      replace hprog := Lib.hid hprog
      replace hL := Lib.hid hL
      replace hwl := Lib.hid hwl
      replace hS := Lib.hid hS
      clear hlr hk hL0
      go_wp2_with fail
      go_loopw [12, 13] (fun c j wr => ∃ p : Nat, p ≤ N ∧ j = .int .i64 p ∧ wr.ownsRow wo.heap.size 3 1 c (canTo R ws p).length ((canTo R ws p).map fun i : Nat => .int .i64 (i : Int)) ∧ Below wo.heap.size wo wr) (fun _ j _ => N - (intOf j).toNat)
      case atStart => exact ⟨0, Nat.zero_le _, rfl, World.ownsRow_nil _ _ _ _, Below.refl _ _⟩
      case round =>
        obtain ⟨p, hp, rfl, hrow, hbe⟩ := hrel
        obtain ⟨wi, rfl⟩ : ∃ wi : World, wi = wr := ⟨_, rfl⟩
        by_cases hpN : p < N
        · have hmay := may_any (hS.out.below hbe) (k := p) (by rw [hwl.out]; exact hpN)
          have hcl := canTo_le R ws p
          have hcs := canTo_succ R ws p
          obtain ⟨b, hb⟩ : ∃ b, mayV R ws p = b := ⟨_, rfl⟩
          rw [hb] at hmay hcs
          obtain ⟨cl, hce⟩ : ∃ cl, canTo R ws p = cl := ⟨_, rfl⟩
          rw [hce] at hcs hcl hrow
          replace hmay := Lib.hid hmay
          replace hrow := Lib.hid hrow
          replace hbe := Lib.hid hbe
          replace hb := Lib.hid hb
          replace hce := Lib.hid hce
          replace hcs := Lib.hid hcs
          go_wp2_with fail
          refine hmay.out.mono ?_; rintro e wm ⟨rfl, hbm⟩
          have hrm := hrow.out.kept (w' := wm) (row := none) ⟨hbm.os, hbm.tape, hbm.output, hbm.size, fun k hk _ => hbm.block k hk⟩ (by
            rcases hrow.out.2 with ⟨h1, _⟩ | ⟨g, cap, cur, h1, _⟩
            · exact .inl (by rw [h1]; rfl)
            · exact .inr (by rw [h1]; simp [Value.ownBlock]))
          replace hbm := Lib.hid hbm
          replace hrm := Lib.hid hrm
          cases b
          · go_wp2_with fail
            go_roundw
            case rel => exact ⟨p + 1, by omega, by go_num, by rw [hcs.out]; simpa using hrm.out, hbe.out.trans (hbm.out.mono hbe.out.size)⟩
            case measure => simp [intOf]; omega
          · go_wp2_with (refine wpList_append_own_at _ rfl _ _ 44 rfl wo.heap.size 3 i3 _ 1 8 Try.underlying44 hi3 hz0 hz1 hz2 rfl (by decide) _ _ _ rfl (hrm.out.alloc _) ⟨_, 0, none⟩ 1 1 [.int .i64 (p : Int)] rfl rfl (cell_one_new _ _ _) (by simp [Value.oneCell']) (by unfold maxLen; omega) (by omega) (by simp; have := hbe.out.size; have := hbm.out.size; omega) ?_; intro v' w1 hown' hgrow _ hat')
            go_roundw
            case rel =>
              refine ⟨p + 1, by omega, by go_num, by rw [hcs.out]; simpa using hown', (hbe.out.trans (hbm.out.mono hbe.out.size)).trans ?_⟩
              exact (Kept.of_grown (S := fun b => wo.heap.size ≤ b) (grown_of_alloc hgrow) (fun b hb _ => (hrm.out.lt b hb).1)).below (Nat.le_trans hbe.out.size hbm.out.size) (fun b hb h => by omega)
            case measure => simp [intOf]; omega
        · obtain rfl : p = N := by omega
          obtain ⟨cl, hce⟩ : ∃ cl, canTo R ws p = cl := ⟨_, rfl⟩
          have hmem : ∀ i ∈ cl, i < p ∧ mayV R ws i = true := fun i hi => canTo_mem (hce ▸ hi)
          have hclp : 0 < cl.length := by
            obtain ⟨i, hi, hm⟩ := hprog.out
            have : i ∈ cl := by rw [← hce]; unfold canTo; exact List.mem_filter.2 ⟨List.mem_range.2 hi, hm⟩
            exact List.length_pos_of_mem this
          have hcl8 : cl.length ≤ 8 := by have := canTo_le R ws p; rw [hce] at this; omega
          rw [hce] at hrow
          have hSi := hS.out.below hbe
          rcases hrow.2 with ⟨_, h0⟩ | ⟨cg, ccap, ccur, rfl, hcg, hcb, hc1, hc2, hc3, hc4⟩
          · omega
          have hcc : ∀ i (hi : i < cl.length), wi.cell? ⟨cg, i, none⟩ = some (.int .i64 (cl[i] : Int)) := fun i hi => by
            have : (ccur.toList.take (cl.length * 1))[i]? = some (.int .i64 (cl[i] : Int)) := by
              rw [hc4, List.getElem?_map, List.getElem?_eq_getElem hi]; rfl
            rw [List.getElem?_take_of_lt (by omega)] at this
            simp [World.cell?, hcb]
            simpa using this
          have hcz : ((cl.length : Int) == 0) = false := beq_eq_false_iff_ne.2 (by omega)
          obtain ⟨c, hc⟩ : ∃ c, cl.length = c := ⟨_, rfl⟩
          rw [hc] at hclp hcl8 hcz ⊢
          have hfr := hSi.frame
          replace hSi := Lib.hid hSi
          replace hfr := Lib.hid hfr
          replace hcc := Lib.hid hcc
          replace hmem := Lib.hid hmem
          replace hce := Lib.hid hce
          replace hc := Lib.hid hc
          clear hrow hbe hcb hc1 hc2 hc3 hc4
          by_cases hkp : k < plen
          · obtain ⟨pb, poff, x, rfl, hpb, hpx⟩ := hpc.out k hkp
            have hpx' : wi.cell? ⟨pb, poff + k, none⟩ = some (.int .i64 x) := (hfr.out.cell (p := ⟨pb, _, none⟩) hpb).trans hpx
            clear hpx
            obtain ⟨pk, hpk, hpkc⟩ : ∃ pk : Nat, wrap64 ((IntKind.u64.wrap x).tmod (c : Int)) = (pk : Int) ∧ pk < c := by
              have h0 : 0 ≤ IntKind.u64.wrap x := by rw [IntKind.wrap_u64]; omega
              have h1 := Int.tmod_nonneg (c : Int) h0
              have h2 := Int.tmod_lt_of_pos (IntKind.u64.wrap x) (show (0 : Int) < (c : Int) by omega)
              refine ⟨((IntKind.u64.wrap x).tmod (c : Int)).toNat, ?_, by omega⟩
              rw [IntWalk.wrap64_in _ (by omega)]; omega
            obtain ⟨kk, hkk⟩ : ∃ kk, cl[pk]'(by have := hc.out; omega) = kk := ⟨_, rfl⟩
            obtain ⟨hkN, hmay⟩ := hmem.out kk (hkk ▸ List.getElem_mem _)
            have hccp := hcc.out pk (by have := hc.out; omega)
            rw [hkk] at hccp
            have hkw : kk < ws.length := by rw [hwl.out]; exact hkN
            obtain ⟨g, gcap, ka, kcap, hge, g0, gb, _⟩ := hSi.out.at_.look hkw
            obtain ⟨rfl, -, -⟩ := Value.slice.inj hge
            have g1 : wi.cell? ⟨bAt Bs kk, 1, none⟩ = some (.int .i64 (wAt ws kk).n) := by simp [World.cell?, gb]
            have hnd : (wAt ws kk).done = false := by
              unfold mayV at hmay
              cases hd : (wAt ws kk).done with
              | false => rfl
              | true => rw [hd] at hmay; simp at hmay
            have hgg := hSi.out.inv.good kk hkw
            have hn8 : (wAt ws kk).n ≤ 8 := Nat.le_trans hgg.le hgg.small
            obtain ⟨n, hn⟩ : ∃ n, (wAt ws kk).n = n := ⟨_, rfl⟩
            rw [hn] at g1 hn8
            have hk8 : kk ≤ 8 := by omega
            have hm1 : IntKind.i64.wrap ((kk : Int) * 8) = (kk : Int) * 8 := by rw [IntKind.wrap_i64]; omega
            have hm2 : IntKind.i64.wrap ((kk : Int) * 8 + (n : Int)) = (kk : Int) * 8 + (n : Int) := by rw [IntKind.wrap_i64]; omega
            obtain ⟨sh, hsh, hs0, hs1⟩ : ∃ sh, bits BinOp.and IntKind.i64 ((kk : Int) * 8 + (n : Int)) 63 = sh ∧ 0 ≤ sh ∧ sh ≤ 63 := ⟨_, rfl, (bits_and_le _ 63 (by omega)).1, (bits_and_le _ 63 (by omega)).2⟩
            have hgo := fun al => goes_any hSi.out hkw hnd al
            replace hgo := Lib.hid hgo
            replace gb := Lib.hid gb
            replace hn := Lib.hid hn
            replace hkk := Lib.hid hkk
            replace hmay := Lib.hid hmay
            replace hnd := Lib.hid hnd
            clear hge hgg
            go_wp2_with fail
            refine (hgo.out _).mono ?_; rintro e w5 ⟨rfl, R', d, hS5, hr1, hr2, hr3⟩
            obtain ⟨g', _, ka', kcap', hge', f0, fb, _⟩ := hS5.at_.look (k := kk) (by rw [List.length_set]; exact hkw)
            obtain ⟨e1, -, -⟩ := Value.slice.inj hge'
            obtain rfl : g = g' := by simpa using e1
            rw [wAt_set_same hkw] at fb
            have f2 : w5.cell? ⟨bAt Bs kk, 2, none⟩ = some (.bool d.done) := by simp [World.cell?, fb]
            have hlen' : (ws.set kk d).length = p := by rw [List.length_set]; exact hwl.out
            rw [hL.out] at hr2 hr3
            obtain ⟨dn, hdn⟩ : ∃ dn, d.done = dn := ⟨_, rfl⟩
            rw [hdn] at f2 hr2 hr3
            replace hS5 := Lib.hid hS5
            replace hdn := Lib.hid hdn
            replace hr1 := Lib.hid hr1
            replace hlen' := Lib.hid hlen'
            clear hge' fb e1
            cases dn
            · replace hr2 := Lib.hid (hr2 rfl)
              clear hr3
              go_wp2_with fail
              go_roundw
              case rel => exact ⟨k + 1, L, R', ws.set kk d, by go_num, rfl, hlen'.out, hS5.out, hr2.out, by have := hr1.out; have := hrl.out; omega⟩
              case measure => simp [intOf]; omega
            · obtain ⟨L', hL'⟩ : ∃ L', L - 1 = L' := ⟨_, rfl⟩
              have hLw : IntKind.i64.wrap ((L : Int) - 1) = (L' : Int) := by rw [IntKind.wrap_i64]; omega
              replace hr3 := Lib.hid (hr3 rfl)
              replace hL' := Lib.hid hL'
              clear hr2
              go_wp2_with fail
              go_roundw
              case rel => exact ⟨k + 1, L', R', ws.set kk d, by go_num, rfl, hlen'.out, hS5.out, by have := hr3.out; have := hL'.out; omega, by have := hr1.out; have := hrl.out; omega⟩
              case measure => simp [intOf]; omega
          · have hq : plen ≤ k := by omega
            obtain ⟨kk, hkk⟩ : ∃ kk, cl[0]'(by have := hc.out; omega) = kk := ⟨_, rfl⟩
            obtain ⟨hkN, hmay⟩ := hmem.out kk (hkk ▸ List.getElem_mem _)
            have hccp := hcc.out 0 (by have := hc.out; omega)
            rw [hkk] at hccp
            have hkw : kk < ws.length := by rw [hwl.out]; exact hkN
            obtain ⟨g, gcap, ka, kcap, hge, g0, gb, _⟩ := hSi.out.at_.look hkw
            obtain ⟨rfl, -, -⟩ := Value.slice.inj hge
            have g1 : wi.cell? ⟨bAt Bs kk, 1, none⟩ = some (.int .i64 (wAt ws kk).n) := by simp [World.cell?, gb]
            have hnd : (wAt ws kk).done = false := by
              unfold mayV at hmay
              cases hd : (wAt ws kk).done with
              | false => rfl
              | true => rw [hd] at hmay; simp at hmay
            have hgg := hSi.out.inv.good kk hkw
            have hn8 : (wAt ws kk).n ≤ 8 := Nat.le_trans hgg.le hgg.small
            obtain ⟨n, hn⟩ : ∃ n, (wAt ws kk).n = n := ⟨_, rfl⟩
            rw [hn] at g1 hn8
            have hk8 : kk ≤ 8 := by omega
            have hm1 : IntKind.i64.wrap ((kk : Int) * 8) = (kk : Int) * 8 := by rw [IntKind.wrap_i64]; omega
            have hm2 : IntKind.i64.wrap ((kk : Int) * 8 + (n : Int)) = (kk : Int) * 8 + (n : Int) := by rw [IntKind.wrap_i64]; omega
            obtain ⟨sh, hsh, hs0, hs1⟩ : ∃ sh, bits BinOp.and IntKind.i64 ((kk : Int) * 8 + (n : Int)) 63 = sh ∧ 0 ≤ sh ∧ sh ≤ 63 := ⟨_, rfl, (bits_and_le _ 63 (by omega)).1, (bits_and_le _ 63 (by omega)).2⟩
            have hgo := fun al => goes_any hSi.out hkw hnd al
            replace hgo := Lib.hid hgo
            replace gb := Lib.hid gb
            replace hn := Lib.hid hn
            replace hkk := Lib.hid hkk
            replace hmay := Lib.hid hmay
            replace hnd := Lib.hid hnd
            clear hge hgg
            go_wp2_with fail
            refine (hgo.out _).mono ?_; rintro e w5 ⟨rfl, R', d, hS5, hr1, hr2, hr3⟩
            obtain ⟨g', _, ka', kcap', hge', f0, fb, _⟩ := hS5.at_.look (k := kk) (by rw [List.length_set]; exact hkw)
            obtain ⟨e1, -, -⟩ := Value.slice.inj hge'
            obtain rfl : g = g' := by simpa using e1
            rw [wAt_set_same hkw] at fb
            have f2 : w5.cell? ⟨bAt Bs kk, 2, none⟩ = some (.bool d.done) := by simp [World.cell?, fb]
            have hlen' : (ws.set kk d).length = p := by rw [List.length_set]; exact hwl.out
            rw [hL.out] at hr2 hr3
            obtain ⟨dn, hdn⟩ : ∃ dn, d.done = dn := ⟨_, rfl⟩
            rw [hdn] at f2 hr2 hr3
            replace hS5 := Lib.hid hS5
            replace hdn := Lib.hid hdn
            replace hr1 := Lib.hid hr1
            replace hlen' := Lib.hid hlen'
            clear hge' fb e1
            cases dn
            · replace hr2 := Lib.hid (hr2 rfl)
              clear hr3
              go_wp2_with fail
              go_roundw
              case rel => exact ⟨k + 1, L, R', ws.set kk d, by go_num, rfl, hlen'.out, hS5.out, hr2.out, by have := hr1.out; have := hrl.out; omega⟩
              case measure => simp [intOf]; omega
            · obtain ⟨L', hL'⟩ : ∃ L', L - 1 = L' := ⟨_, rfl⟩
              have hLw : IntKind.i64.wrap ((L : Int) - 1) = (L' : Int) := by rw [IntKind.wrap_i64]; omega
              replace hr3 := Lib.hid (hr3 rfl)
              replace hL' := Lib.hid hL'
              clear hr2
              go_wp2_with fail
              go_roundw
              case rel => exact ⟨k + 1, L', R', ws.set kk d, by go_num, rfl, hlen'.out, hS5.out, by have := hr3.out; have := hL'.out; omega, by have := hr1.out; have := hrl.out; omega⟩
              case measure => simp [intOf]; omega
end Go.Proofs.Ythnffhhbdihalaa
