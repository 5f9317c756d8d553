/- Walkers in memory: may and goes. -/
import Derived.Test.YthnffhhbdihalaaRise
namespace Go.Proofs.Ythnffhhbdihalaa
open Go.RowKit Go.Shelf
attribute [local go_sem] Oper.semAt_some

/-- The walker d lies in block B, all of it in blocks from n₁ to n₂. -/
def WOne (n₁ n₂ : Nat) (w : World) (B : Nat) (d : WD) : Prop :=
  n₁ ≤ B ∧ B < n₂ ∧ ∃ kv, w.heap[B]? = some (.cells #[kv, .int .i64 d.n, .bool d.done] 51 (0, 0)) ∧ w.ownsRow n₁ 3 1 kv d.keys.length (d.keys.map (.int .i64 ·)) ∧ ∀ b, kv.ownBlock = some b → b < n₂

def bAt (Bs : List Nat) (i : Nat) : Nat := (Bs[i]?).getD 0

structure WsAt (n₁ n₂ : Nat) (w : World) (v : Value) (Bs : List Nat) (ws : List WD) : Prop where
  row : w.ownsRow n₁ 52 1 v Bs.length (Bs.map fun B => .pointer (some ⟨B, 0, none⟩))
  rlt : ∀ b, v.ownBlock = some b → b < n₂
  len : Bs.length = ws.length
  inj : ∀ i j, i < Bs.length → j < Bs.length → bAt Bs i = bAt Bs j → i = j
  one : ∀ i, i < ws.length → WOne n₁ n₂ w (bAt Bs i) (wAt ws i)

variable {n₁ n₂ : Nat} {w w' : World} {v : Value} {Bs : List Nat} {ws : List WD}

theorem WOne.kept {B : Nat} {d : WD} (h : WOne n₁ n₂ w B d) (hk : ∀ b, n₁ ≤ b → b < n₂ → w'.heap[b]? = w.heap[b]?) : WOne n₁ n₂ w' B d := by
  obtain ⟨h1, h2, kv, h3, h4, h5⟩ := h
  refine ⟨h1, h2, kv, (hk B h1 h2).trans h3, ⟨h4.1, ?_⟩, h5⟩
  rcases h4.2 with h6 | ⟨g, cap, cur, rfl, a1, a2, a3⟩
  · exact .inl h6
  · exact .inr ⟨g, cap, cur, rfl, a1, (hk g a1 (h5 g rfl)).trans a2, a3⟩

theorem WsAt.kept (h : WsAt n₁ n₂ w v Bs ws) (hk : ∀ b, n₁ ≤ b → b < n₂ → w'.heap[b]? = w.heap[b]?) : WsAt n₁ n₂ w' v Bs ws := by
  refine ⟨⟨h.row.1, ?_⟩, h.rlt, h.len, h.inj, fun i hi => (h.one i hi).kept hk⟩
  rcases h.row.2 with h6 | ⟨g, cap, cur, e, a1, a2, a3⟩
  · exact .inl h6
  · exact .inr ⟨g, cap, cur, e, a1, (hk g a1 (h.rlt g (by rw [e]; rfl))).trans a2, a3⟩

/-- One walker's own block is written. -/
theorem WsAt.put (h : WsAt n₁ n₂ w v Bs ws) {k : Nat} (hk : k < ws.length) {d : WD} (hd : d.keys = (wAt ws k).keys)
    (h1 : ∀ b, b ≠ bAt Bs k → w'.heap[b]? = w.heap[b]?) (h2 : ∀ kv, w.heap[bAt Bs k]? = some (.cells #[kv, .int .i64 (wAt ws k).n, .bool (wAt ws k).done] 51 (0, 0)) → w'.heap[bAt Bs k]? = some (.cells #[kv, .int .i64 d.n, .bool d.done] 51 (0, 0))) :
    WsAt n₁ n₂ w' v Bs (ws.set k d) := by
  have hrow : ∀ {e : TypeId} {u : Value} {m : Nat} {xs : List Value}, e ≠ 51 → w.ownsRow n₁ e 1 u m xs → w'.ownsRow n₁ e 1 u m xs := by
    intro e u m xs he hr
    refine ⟨hr.1, ?_⟩
    rcases hr.2 with h6 | ⟨g, cap, cur, rfl, a1, a2, a3⟩
    · exact .inl h6
    · refine .inr ⟨g, cap, cur, rfl, a1, (h1 g (fun e' => ?_)).trans a2, a3⟩
      obtain ⟨_, _, kv, h3, _⟩ := h.one k hk
      rw [e', h3] at a2
      simp at a2
      exact he a2.2.symm
  refine ⟨hrow (by decide) h.row, h.rlt, by rw [List.length_set]; exact h.len, h.inj, fun i hi => ?_⟩
  rw [List.length_set] at hi
  by_cases e : i = k
  · subst e
    rw [wAt_set_same hi]
    obtain ⟨a1, a2, kv, h3, h4, h5⟩ := h.one i hi
    exact ⟨a1, a2, kv, h2 kv h3, by rw [hd]; exact hrow (by decide) h4, h5⟩
  · rw [wAt_set_other e]
    obtain ⟨a1, a2, kv, h3, h4, h5⟩ := h.one i hi
    exact ⟨a1, a2, kv, (h1 _ (fun e' => e (h.inj i k (by rw [h.len]; exact hi) (by rw [h.len]; exact hk) e'))).trans h3, hrow (by decide) h4, h5⟩

/-- What a walk wants of the k-th walker: its cells. -/
theorem WsAt.look (h : WsAt n₁ n₂ w v Bs ws) {k : Nat} (hk : k < ws.length) :
    ∃ g cap ka kcap, v = .slice (some ⟨g, 0, none⟩) ws.length cap ∧ w.cell? ⟨g, k, none⟩ = some (.pointer (some ⟨bAt Bs k, 0, none⟩)) ∧
      w.heap[bAt Bs k]? = some (.cells #[.slice ka (wAt ws k).keys.length kcap, .int .i64 (wAt ws k).n, .bool (wAt ws k).done] 51 (0, 0)) ∧
      (∀ j (hj : j < (wAt ws k).keys.length), ∃ kg, ka = some ⟨kg, 0, none⟩ ∧ (n₁ ≤ kg ∧ kg < n₂) ∧ w.cell? ⟨kg, j, none⟩ = some (.int .i64 (wAt ws k).keys[j])) := by
  have hl := h.len
  rcases h.row.2 with ⟨_, h0⟩ | ⟨g, cap, cur, rfl, _, hb, a3, a4, a5, a6⟩
  · omega
  · obtain ⟨_, _, kv, h3, h4, h5⟩ := h.one k hk
    have hc : w.cell? ⟨g, k, none⟩ = some (.pointer (some ⟨bAt Bs k, 0, none⟩)) := by
      have : (cur.toList.take (Bs.length * 1))[k]? = some (.pointer (some ⟨bAt Bs k, 0, none⟩)) := by
        rw [a6, List.getElem?_map]
        simp [bAt, show k < Bs.length by omega]
      rw [List.getElem?_take_of_lt (by omega)] at this
      simp [World.cell?, hb]
      simpa using this
    rw [← hl]
    rcases h4.2 with ⟨rfl, h0⟩ | ⟨kg, kcap, kcur, rfl, kn, kb, b3, b4, b5, b6⟩
    · refine ⟨g, cap, none, 0, rfl, hc, by rw [h0]; exact h3, fun j hj => by omega⟩
    · refine ⟨g, cap, some ⟨kg, 0, none⟩, kcap, rfl, hc, h3, fun j hj => ⟨kg, rfl, ⟨kn, h5 kg rfl⟩, ?_⟩⟩
      have : (kcur.toList.take ((wAt ws k).keys.length * 1))[j]? = some (.int .i64 (wAt ws k).keys[j]) := by
        rw [b6, List.getElem?_map, List.getElem?_eq_getElem hj]; rfl
      rw [List.getElem?_take_of_lt (by omega)] at this
      simp [World.cell?, kb]
      simpa using this

/-- Table and walkers. -/
structure RSt (n₀ n₁ n₂ : Nat) (w0 w : World) (T : Nat) (R : Int → List Clm) (v : Value) (Bs : List Nat) (ws : List WD) : Prop where
  tab : TabK (fun b => b < n₀ ∨ (n₁ ≤ b ∧ b < n₂)) w w T R
  at_ : WsAt n₁ n₂ w v Bs ws
  inv : Inv R ws
  len : ws.length ≤ 8
  frame : Below n₀ w0 w
  le : n₀ ≤ n₁

variable {n₀ : Nat} {w0 : World} {T : Nat} {R : Int → List Clm}

theorem RSt.below (h : RSt n₀ n₁ n₂ w0 w T R v Bs ws) (hb : Below w.heap.size w w') : RSt n₀ n₁ n₂ w0 w' T R v Bs ws := by
  have ht := h.tab.below hb
  have hsz : n₀ ≤ w.heap.size := by
    rcases Nat.lt_or_ge w.heap.size n₀ with h1 | h1
    · exact absurd (h.tab.lt w.heap.size (.inl h1)) (Nat.lt_irrefl _)
    · exact h1
  refine ⟨?_, h.at_.kept (fun b h1 h2 => hb.block b (h.tab.lt b (.inr ⟨h1, h2⟩))), h.inv, h.len, h.frame.trans (hb.mono hsz), h.le⟩
  obtain ⟨S, M, f, ht', hs⟩ := ht.tab
  exact ⟨⟨S, M, f, ht', hs⟩, fun b hp => Nat.lt_of_lt_of_le (h.tab.lt b hp) hb.size, rfl, rfl, rfl, Nat.le_refl _, fun _ _ => rfl⟩

set_option maxRecDepth 100000 in
set_option maxHeartbeats 4000000 in
theorem may_any (h : RSt n₀ n₁ n₂ w0 w T R v Bs ws) {k : Nat} (hk : k < ws.length) :
    Calls Try.prog 22 #[.pointer (some ⟨T, 0, none⟩), v, .int .i64 (k : Int)] w fun e w' => e = .returned (.bool (mayV R ws k)) ∧ Below w.heap.size w w' := by
  obtain ⟨g, cap, ka, kcap, rfl, c0, hb, hks⟩ := h.at_.look hk
  have hg := h.inv.good k hk
  have hlen := h.len
  have hmay : mayV R ws k = (!(wAt ws k).done && ((wAt ws k).n == 0 || (findV (R (lastK (wAt ws k))) ((k : Int) + 1)).2.2)) := rfl
  obtain ⟨S, M, f, ht, _⟩ := h.tab.tab
  have hK := ht.below (w' := w.drew) ⟨rfl, rfl, rfl, Nat.le_refl _, fun _ _ => rfl⟩
  generalize hd : wAt ws k = d at *
  obtain ⟨keys, n, done⟩ := d
  have hle := hg.le
  have hsm := hg.small
  have hlast : 0 < n → n ≤ keys.length := fun _ => hle
  simp only at hb hks hle hsm hmay
  have e0 : w.cell? ⟨bAt Bs k, 0, none⟩ = some (.slice ka keys.length kcap) := by simp [World.cell?, hb]
  have e1 : w.cell? ⟨bAt Bs k, 1, none⟩ = some (.int .i64 n) := by simp [World.cell?, hb]
  have e2 : w.cell? ⟨bAt Bs k, 2, none⟩ = some (.bool done) := by simp [World.cell?, hb]
  have hle2 := last_eq (d := ⟨keys, n, done⟩)
  obtain ⟨r, hr⟩ : ∃ r, mayV R ws k = r := ⟨_, rfl⟩
  rw [hr] at hmay ⊢
  replace hmay := Lib.hid hmay
  replace hb := Lib.hid hb
  replace hd := Lib.hid hd
  clear hr h hg
  have hdr : ∀ n, Below w.heap.size w (w.drewN n) := fun n => ⟨rfl, rfl, rfl, Nat.le_refl _, fun _ _ => rfl⟩
  replace hdr := Lib.hid hdr
  cases done
  · by_cases hn0 : n = 0
    · subst hn0
      clear hks hle2
      replace hK := Lib.hid hK
      go_enter Try.func22, Try.ntmps22
      go_wp2_with fail
      go_quiet (fail)
      go_wp2_with fail
      go_ret
      refine ⟨?_, hdr.out _⟩
      rw [hmay.out]; rfl
    · have hz : ((n : Int) == 0) = false := by simpa using hn0
      obtain ⟨kg, rfl, _, hc⟩ := hks (n - 1) (by omega)
      have hlk := hle2 (by simp only; omega) (by simp only; omega)
      simp only at hlk
      rw [← hlk] at hc
      have hho := hK.holds ((k : Int) + 1) (lastK ⟨keys, n, false⟩)
      generalize lastK ⟨keys, n, false⟩ = K at *
      obtain ⟨hv, hhv⟩ : ∃ hv, (findV (R K) ((k : Int) + 1)).2.2 = hv := ⟨_, rfl⟩
      rw [hhv] at hho hmay
      replace hhv := Lib.hid hhv
      have hn0' : (n == 0) = false := by simpa using hn0
      have hrv := hmay.out
      simp only [hn0', Bool.not_false, Bool.true_and, Bool.false_or] at hrv
      replace hrv := Lib.hid hrv
      clear hmay hn0'
      have hw1 : IntKind.i64.wrap ((k : Int) + 1) = (k : Int) + 1 := by rw [IntKind.wrap_i64]; omega
      obtain ⟨p, hp⟩ : ∃ p, n - 1 = p := ⟨_, rfl⟩
      have hw2 : IntKind.i64.wrap ((n : Int) - 1) = (p : Int) := by rw [IntKind.wrap_i64]; omega
      have hpl : p < keys.length := by omega
      obtain ⟨N, hN⟩ : ∃ N : Int, (n : Int) = N := ⟨_, rfl⟩
      rw [hp] at hc
      rw [hN] at hw2 hz e1
      replace hN := Lib.hid hN
      replace hho := Lib.hid hho
      replace hK := Lib.hid hK
      replace hlk := Lib.hid hlk
      clear hks hle2
      go_enter Try.func22, Try.ntmps22
      go_wp2_with fail
      go_still_tail 26, (by kernel_rfl)
      go_wp2_with fail
      refine hho.out.mono ?_; rintro e w3 ⟨rfl, hb3⟩
      go_wp2_with fail
      go_ret
      exact ⟨by rw [hrv.out]; rfl, hb3.os, hb3.tape, hb3.output, hb3.size, hb3.block⟩
  · clear hks hle2
    replace hK := Lib.hid hK
    go_enter Try.func22, Try.ntmps22
    go_wp2_with fail
    go_quiet (fail)
    go_wp2_with fail
    go_ret
    refine ⟨?_, hdr.out _⟩
    rw [hmay.out]; rfl

theorem cells3_set (W : World) (B i : Nat) (x a b c : Value) (t : TypeId) (hb : W.heap[B]? = some (.cells #[a, b, c] t (0, 0))) :
    (W.setCell ⟨B, i, none⟩ x).heap[B]? = some (.cells (#[a, b, c].set! i x) t (0, 0)) := by
  obtain ⟨hlt, hk⟩ := Array.getElem?_eq_some_iff.1 hb
  show (W.heap.modify B _)[B]? = _
  rw [Array.getElem?_eq_getElem (by rw [Array.size_modify]; exact hlt), Array.getElem_modify_self, hk]
  rfl

theorem TabK.poke {Pr : Nat → Prop} {g : Nat} (h : TabK Pr w0 w T R) (hg : Pr g) (hk : Kept (fun b => b = g) w w') : TabK Pr w' w' T R := by
  obtain ⟨S, M, f, ht, hs⟩ := h.tab
  exact ⟨⟨S, M, f, ht.kept hk (fun b hb e => hs b hb (e ▸ hg)), hs⟩, fun b hb => by have := h.lt b hb; have := h.size; have := hk.size; omega, rfl, rfl, rfl, Nat.le_refl _, fun _ _ => rfl⟩

/-- The table has turned, and one walker. -/
theorem RSt.turn {w1 : World} (h : RSt n₀ n₁ n₂ w0 w T R v Bs ws) {R' : Int → List Clm} (ht : TabK (fun b => b < n₀ ∨ (n₁ ≤ b ∧ b < n₂)) w w1 T R') {k : Nat} (hk : k < ws.length) {d : WD} (hd : d.keys = (wAt ws k).keys) (hi : Inv R' (ws.set k d))
    (i : Nat) (x : Value) (hx : ∀ kv, #[kv, .int .i64 ((wAt ws k).n : Int), .bool (wAt ws k).done].set! i x = #[kv, .int .i64 (d.n : Int), .bool d.done]) :
    RSt n₀ n₁ n₂ w0 (w1.setCell ⟨bAt Bs k, i, none⟩ x) T R' v Bs (ws.set k d) := by
  obtain ⟨a1, a2, _⟩ := h.at_.one k hk
  have hkp : Kept (fun b => b = bAt Bs k) w1 (w1.setCell ⟨bAt Bs k, i, none⟩ x) := (Kept.refl (fun b => b = bAt Bs k) w1).setCell (p := ⟨bAt Bs k, i, none⟩) (fun _ => rfl) _
  have hw1 := h.at_.kept (w' := w1) (fun b h1 h2 => ht.same b (.inr ⟨h1, h2⟩))
  have hb1 : Below n₀ w w1 := ht.toBelow (fun b hb => .inl hb)
  have hn : ¬ (bAt Bs k < n₀) := by have := h.le; omega
  refine ⟨ht.poke (.inr ⟨a1, a2⟩) hkp, hw1.put hk hd (fun b hb => ?_) (fun kv hkv => by rw [cells3_set _ _ _ _ _ _ _ _ hkv, hx]), hi, by rw [List.length_set]; exact h.len, h.frame.trans (hb1.trans (hkp.below ?_ (fun b hb e => hn (e ▸ hb)))), h.le⟩
  · exact Below.heap_setCell _ _ _ _ hb
  · have := hb1.size
    rcases Nat.lt_or_ge w.heap.size n₀ with h1 | h1
    · exact absurd (h.tab.lt w.heap.size (.inl h1)) (Nat.lt_irrefl _)
    · omega

set_option maxRecDepth 100000 in
set_option maxHeartbeats 4000000 in
theorem goes_any (h : RSt n₀ n₁ n₂ w0 w T R v Bs ws) {k : Nat} (hk : k < ws.length) (hd : (wAt ws k).done = false) (al : Bool) :
    Calls Try.prog 23 #[.pointer (some ⟨T, 0, none⟩), v, .int .i64 (k : Int), .bool al] w fun e w' => e = .returned (.tuple #[]) ∧
      ∃ R' d, RSt n₀ n₁ n₂ w0 w' T R' v Bs (ws.set k d) ∧ sumW remW (ws.set k d) + 1 = sumW remW ws ∧ (d.done = false → sumW leftW (ws.set k d) = sumW leftW ws) ∧ (d.done = true → sumW leftW (ws.set k d) + 1 = sumW leftW ws) := by
  obtain ⟨g, cap, ka, kcap, hv, c0, hb, hks⟩ := h.at_.look hk
  have hg := h.inv.good k hk
  have hlen := h.len
  have hturn := fun w1 R' ht d (hdk : d.keys = (wAt ws k).keys) hi i x hx => h.turn (w1 := w1) (R' := R') ht hk (d := d) hdk hi i x hx
  have hask := fun hn => h.inv.ask hlen hk hd hn al
  have hlv := fun R' => h.inv.leave (R' := R') hk
  have hr1 := fun hn => rem_ask hk hd hn
  have hr2 := fun hn => rem_leave hk hd hg hn
  have hK := fun n => h.tab.below (w' := w.drewN n) ⟨rfl, rfl, rfl, Nat.le_refl _, fun _ _ => rfl⟩
  obtain ⟨a1, a2, _⟩ := h.at_.one k hk
  have hle := hg.le
  have hsm := hg.small
  have hcellB : ∀ w' : World, w'.heap[bAt Bs k]? = w.heap[bAt Bs k]? → w'.cell? ⟨bAt Bs k, 0, none⟩ = some (.slice ka (wAt ws k).keys.length kcap) ∧ w'.cell? ⟨bAt Bs k, 1, none⟩ = some (.int .i64 (wAt ws k).n) ∧ w'.frozen? ⟨bAt Bs k, 1, none⟩ = false ∧ w'.cell? ⟨bAt Bs k, 2, none⟩ = some (.bool (wAt ws k).done) ∧ w'.frozen? ⟨bAt Bs k, 2, none⟩ = false := fun w' hw => by
    have := hw.trans hb
    refine ⟨by simp [World.cell?, this], by simp [World.cell?, this], by simp [World.frozen?, this], by simp [World.cell?, this], by simp [World.frozen?, this]⟩
  obtain ⟨e0, e1, _, _, _⟩ := hcellB w rfl
  subst hv
  have hw1 : IntKind.i64.wrap ((k : Int) + 1) = (k : Int) + 1 := by rw [IntKind.wrap_i64]; omega
  replace hb := Lib.hid hb
  replace hcellB := Lib.hid hcellB
  replace hturn := Lib.hid hturn
  replace hlv := Lib.hid hlv
  clear h hg
  by_cases hn : (wAt ws k).n < (wAt ws k).keys.length
  · obtain ⟨kg, rfl, _, hc⟩ := hks _ hn
    have hi := Lib.hid (hask hn)
    have hr := Lib.hid (hr1 hn)
    have hK2 := fun n => (hK n).below (w' := (w.drewN n).drew) ⟨rfl, rfl, rfl, Nat.le_refl _, fun _ _ => rfl⟩
    have hho := fun m => (hK2 m).ask ((k : Int) + 1) ((wAt ws k).keys[(wAt ws k).n]) al
    obtain ⟨K, hKK⟩ : ∃ K, (wAt ws k).keys[(wAt ws k).n] = K := ⟨_, rfl⟩
    rw [hKK] at hc hi hho
    obtain ⟨N, hN⟩ : ∃ N, (wAt ws k).n = N := ⟨_, rfl⟩
    obtain ⟨L, hL⟩ : ∃ L, (wAt ws k).keys.length = L := ⟨_, rfl⟩
    have hn0 := hn
    rw [hN, hL] at hn0
    rw [hN] at hc e1 hle
    rw [hL] at e0 hle hsm
    have hw2 : IntKind.i64.wrap ((N : Int) + 1) = (N : Int) + 1 := by rw [IntKind.wrap_i64]; omega
    replace hho := Lib.hid hho
    replace hKK := Lib.hid hKK
    replace hN := Lib.hid hN
    replace hL := Lib.hid hL
    replace hd := Lib.hid hd
    clear hks hask hr1 hr2 hK hK2
    replace hn := Lib.hid hn
    go_enter Try.func23, Try.ntmps23
    go_wp2_with fail
    go_quiet (fail)
    obtain ⟨wq, hwq, q0, q1, q2, hq⟩ : ∃ wq, w.drewN nq = wq ∧ wq.cell? ⟨bAt Bs k, 0, none⟩ = some (.slice (some ⟨kg, 0, none⟩) L kcap) ∧ wq.cell? ⟨bAt Bs k, 1, none⟩ = some (.int .i64 N) ∧ wq.cell? ⟨kg, N, none⟩ = some (.int .i64 K) ∧ Hid (Calls Try.prog 12 #[.pointer (some ⟨T, 0, none⟩), .int .i64 ((k : Int) + 1), .int .i64 K, .bool al] wq.drew _) := ⟨_, rfl, e0, e1, hc, hho.out _⟩
    rw [hwq]
    clear e0 e1 hc hho
    go_wp2_with fail
    go_still_tail 14, (by kernel_rfl)
    go_wp2_with fail
    refine hq.out.mono ?_; rintro e w3 ⟨rfl, t3⟩
    obtain ⟨_, f1, f2, _, _⟩ := hcellB.out w3 (t3.same _ (.inr ⟨a1, a2⟩))
    rw [hN.out] at f1
    replace t3 := Lib.hid t3
    go_wp2_with fail
    refine bodyPost_ret (results_none rfl _ _ _) rfl ?_
    refine ⟨rfl, _, _, hturn.out w3 _ t3.out { wAt ws k with n := (wAt ws k).n + 1 } rfl hi.out 1 _ (fun kv => ?_), hr.out.1, fun _ => hr.out.2, fun h => ?_⟩
    · rw [hN.out]; rfl
    · have := hd.out; rw [this] at h; cases h
  · have hr := Lib.hid (hr2 hn)
    obtain ⟨N, hN⟩ : ∃ N, (wAt ws k).n = N := ⟨_, rfl⟩
    obtain ⟨ks, hL⟩ : ∃ ks, (wAt ws k).keys = ks := ⟨_, rfl⟩
    have hn0 := hn
    rw [hN, hL] at hn0
    rw [hN] at e1 hle
    rw [hL] at e0 hle hsm
    simp only [hL] at hks
    have hcB := fun w' hw => hcellB.out w' hw
    simp only [hL] at hcB
    have hnd : decide ((N : Int) < (ks.length : Int)) = false := by simp; omega
    replace hcB := Lib.hid hcB
    replace hN := Lib.hid hN
    replace hd := Lib.hid hd
    replace hK := Lib.hid hK
    replace hL := Lib.hid hL
    clear hask hr1 hr2
    replace hn := Lib.hid hn
    replace hks := Lib.hid hks
    go_enter Try.func23, Try.ntmps23
    go_wp2_with fail
    go_quiet (fail)
    go_wp2_with fail
    go_loopw [9] (fun j wr => ∃ p : Nat, p ≤ ks.length ∧ j = .int .i64 p ∧ ∃ R', TabK (fun b => b < n₀ ∨ (n₁ ≤ b ∧ b < n₂)) w wr T R' ∧ LeftTo R R' ((k : Int) + 1) (ks.take p)) (fun j _ => ks.length - (intOf j).toNat)
    case atStart => exact ⟨0, Nat.zero_le _, rfl, R, hK.out _, LeftTo.nil _ _⟩
    case round =>
      obtain ⟨p, hp, rfl, R', hT, hlt⟩ := hrel
      obtain ⟨f0, _, _, f2, f3⟩ := hcB.out wr (hT.same _ (.inr ⟨a1, a2⟩))
      by_cases hpl : p < ks.length
      · obtain ⟨kg, rfl, hkb, hc⟩ := hks.out p hpl
        have hc' : wr.cell? ⟨kg, p, none⟩ = some (.int .i64 ks[p]) := (World.cell?_of_block (a := ⟨kg, p, none⟩) (hT.same kg (.inr hkb))).trans hc
        have hst := LeftTo.step hlt (fun key => (hT.ths key).1) ks[p]
        have hts : ks.take p ++ [ks[p]] = ks.take (p + 1) := (List.take_succ_eq_append_getElem hpl).symm
        rw [hts] at hst
        have hho := hT.leave ((k : Int) + 1) ks[p]
        obtain ⟨K, hKK⟩ : ∃ K, ks[p] = K := ⟨_, rfl⟩
        rw [hKK] at hc' hst hho
        replace hst := Lib.hid hst
        replace hho := Lib.hid hho
        replace hKK := Lib.hid hKK
        clear hc hlt hT hts hkb
        go_wp2_with fail
        refine (hho.out).mono ?_; rintro e w4 ⟨rfl, t4⟩
        go_wp2_with fail
        go_roundw
        case rel => exact ⟨p + 1, by omega, by go_num, _, t4, hst.out⟩
        case measure => simp [intOf]; omega
      · obtain rfl : p = ks.length := by omega
        rw [List.take_length] at hlt
        replace hlt := Lib.hid hlt
        replace hT := Lib.hid hT
        go_wp2_with fail
        go_end0
        refine ⟨rfl, _, _, hturn.out wr _ hT.out { wAt ws k with done := true } rfl (hlv.out R' (by rw [hL.out]; exact hlt.out)) 2 _ (fun kv => ?_), hr.out.1, (fun h => by cases h), fun _ => hr.out.2⟩
        rfl
end Go.Proofs.Ythnffhhbdihalaa
