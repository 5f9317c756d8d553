/- LocksNone returns true: the walk. -/
import Derived.Test.YthnffhhbdihalaaAwake
namespace Go.Proofs.Ythnffhhbdihalaa
open Go.RowKit Go.Shelf

set_option maxRecDepth 100000 in
set_option maxHeartbeats 4000000 in
theorem none_walk (th key : Int) (al : Bool) (w : World) :
    Calls Try.prog 4 #[.int .i64 th, .int .i64 key, .bool al] w fun e w' => e = .returned (.bool true) ∧ Below w.heap.size w w' := by
  go_enter Try.func4, Try.ntmps4
  go_wp2_with fail
  refine (awake_any _).mono ?_; rintro e w1 ⟨rfl, b1⟩
  go_wp2_with fail
  refine (ask_nil th key al _).mono ?_; rintro e w2 ⟨rfl, rfl⟩
  go_wp2_with fail
  refine (leave_nil th key _).mono ?_; rintro e w3 ⟨rfl, b3⟩
  go_wp2_with fail
  refine (holds_nil th key _).mono ?_; rintro e w4 ⟨rfl, b4⟩
  go_wp2_with fail
  refine (claims_nil key _).mono ?_; rintro e w5 ⟨a, c, rfl, b5⟩
  go_wp2_with fail
  refine (free_nil _).mono ?_; rintro e w6 ⟨rfl, rfl⟩
  go_wp2_with fail
  go_ret
  exact ⟨rfl, ((b1.trans (b3.mono b1.size)).trans (b4.mono (Nat.le_trans b1.size b3.size))).trans (b5.mono (Nat.le_trans (Nat.le_trans b1.size b3.size) b4.size))⟩
end Go.Proofs.Ythnffhhbdihalaa
