/-
  No cell of these rows narrows 'for every input' (looked for: loops, veiled, ifaces, maps, wideKeys, modest, calm, conditions, laid).
  DERIVED. THE GIVEN ROWS OF THIS SEAT. 9 by the template 'for every input the law returns true; each argument reads behind the call as it read before'; 0 by the template 'total and deterministic' (their statements: YtkbpjegmfhmhbaaTotals.lean).
  GIVEN WITH THE SEED: the statements are not yours to turn. If you find one false, say at which input.
  Laid BY PROGRAM, IN A SANDBOX (cutbox-rows.mjs): the forced cells as the released guide's own fill.sh prints them over the translation 1d7049dcc2d0505e… (all of the seat's roots in one cut). By AI agents, Wed Nov 11 2026. No macro, syntax, notation, axiom, sorry.
-/
import Derived.Test.YtkbpjegmfhmhbaaChecked
import GoSem.Claim
import GoSem.ClaimJoined
import GoSem.ClaimMapViews
import Derived.JoinedTies
import Derived.KernelRfl
namespace Go.Proofs.Ytkbpjegmfhmhbaa
/- THE CELL 'sum', in the pinned program and in every row, IS THE sha256 OF THE DUMP (.gsa) THAT YtkbpjegmfhmhbaaProg.lean LOADS. Nothing in Lean hashes anything: it is a label: what it is worth is what the hold of that sum in a sandbox is worth. -/
noncomputable def Try.pinned : Pinned := { name := "ytkbpjegmfhmhbaa", sum := "1d7049dcc2d0505e1de169de50d42f86a55eb08e900f432bf3c98d83662ea396", checked := Try.checked }
namespace Rows
def none {H : Type} : Left H := { results := [], args := [] }

/-- 'hayricklaw11.ClockTimes': WHATEVER THE INPUT: true; the input reads as it did. -/
def clockTimesSpec : ChangeSpec := { name := "clockTimes", fn := fun _ => fun
  | [d1, d2, d3] => { results := [.lit (.bool true)], args := [d1, d2, d3] }
  | _ => none }
def clockTimesRow : OpenClaim := { program := "ytkbpjegmfhmhbaa", sum := "1d7049dcc2d0505e1de169de50d42f86a55eb08e900f432bf3c98d83662ea396", func := "hayrick/hayricklaw11.ClockTimes", spec := "clockTimes", inPlace := ["math.Float64bits", "math.Float64frombits"], unfollowed := true, recurses := true, named := ["math/bits.divideError", "math/bits.overflowError"], apart := false }
def ClockTimesSaid : Prop := clockTimesRow.holds Try.pinned (OpenSpec.ofChange clockTimesSpec)

/-- ITS FALSE NEIGHBOUR: 'it returns false'. Refute it at one input. -/
def clockTimesWrong : ChangeSpec := { name := "clockTimes", fn := fun _ => fun
  | [d1, d2, d3] => { results := [.lit (.bool false)], args := [d1, d2, d3] }
  | _ => none }
def ClockTimesWrongFalsely : Prop := clockTimesRow.holds Try.pinned (OpenSpec.ofChange clockTimesWrong)

/-- 'hayricklaw11.ClockFloats': WHATEVER THE INPUT: true; the input reads as it did. -/
def clockFloatsSpec : ChangeSpec := { name := "clockFloats", fn := fun _ => fun
  | [d] => { results := [.lit (.bool true)], args := [d] }
  | _ => none }
def clockFloatsRow : OpenClaim := { program := "ytkbpjegmfhmhbaa", sum := "1d7049dcc2d0505e1de169de50d42f86a55eb08e900f432bf3c98d83662ea396", func := "hayrick/hayricklaw11.ClockFloats", spec := "clockFloats", inPlace := ["math.Float64bits", "math.Float64frombits"], unfollowed := true, recurses := true, named := ["math/bits.divideError", "math/bits.overflowError"], apart := false }
def ClockFloatsSaid : Prop := clockFloatsRow.holds Try.pinned (OpenSpec.ofChange clockFloatsSpec)

/-- ITS FALSE NEIGHBOUR: 'it returns false'. Refute it at one input. -/
def clockFloatsWrong : ChangeSpec := { name := "clockFloats", fn := fun _ => fun
  | [d] => { results := [.lit (.bool false)], args := [d] }
  | _ => none }
def ClockFloatsWrongFalsely : Prop := clockFloatsRow.holds Try.pinned (OpenSpec.ofChange clockFloatsWrong)

/-- 'hayricklaw11.ClockOrders': WHATEVER THE INPUT: true; the input reads as it did. -/
def clockOrdersSpec : ChangeSpec := { name := "clockOrders", fn := fun _ => fun
  | [d1, d2, d3] => { results := [.lit (.bool true)], args := [d1, d2, d3] }
  | _ => none }
def clockOrdersRow : OpenClaim := { program := "ytkbpjegmfhmhbaa", sum := "1d7049dcc2d0505e1de169de50d42f86a55eb08e900f432bf3c98d83662ea396", func := "hayrick/hayricklaw11.ClockOrders", spec := "clockOrders", inPlace := ["math.Float64bits", "math.Float64frombits"], unfollowed := true, recurses := true, named := ["math/bits.divideError", "math/bits.overflowError"], apart := false }
def ClockOrdersSaid : Prop := clockOrdersRow.holds Try.pinned (OpenSpec.ofChange clockOrdersSpec)

/-- ITS FALSE NEIGHBOUR: 'it returns false'. Refute it at one input. -/
def clockOrdersWrong : ChangeSpec := { name := "clockOrders", fn := fun _ => fun
  | [d1, d2, d3] => { results := [.lit (.bool false)], args := [d1, d2, d3] }
  | _ => none }
def ClockOrdersWrongFalsely : Prop := clockOrdersRow.holds Try.pinned (OpenSpec.ofChange clockOrdersWrong)

/-- 'hayricklaw11.ClockRises': WHATEVER THE INPUT: true; the input reads as it did. -/
def clockRisesSpec : ChangeSpec := { name := "clockRises", fn := fun _ => fun
  | [d1, d2, d3, d4] => { results := [.lit (.bool true)], args := [d1, d2, d3, d4] }
  | _ => none }
def clockRisesRow : OpenClaim := { program := "ytkbpjegmfhmhbaa", sum := "1d7049dcc2d0505e1de169de50d42f86a55eb08e900f432bf3c98d83662ea396", func := "hayrick/hayricklaw11.ClockRises", spec := "clockRises", inPlace := ["math.Float64bits", "math.Float64frombits"], unfollowed := true, recurses := true, named := ["math/bits.divideError", "math/bits.overflowError"], apart := false }
def ClockRisesSaid : Prop := clockRisesRow.holds Try.pinned (OpenSpec.ofChange clockRisesSpec)

/-- ITS FALSE NEIGHBOUR: 'it returns false'. Refute it at one input. -/
def clockRisesWrong : ChangeSpec := { name := "clockRises", fn := fun _ => fun
  | [d1, d2, d3, d4] => { results := [.lit (.bool false)], args := [d1, d2, d3, d4] }
  | _ => none }
def ClockRisesWrongFalsely : Prop := clockRisesRow.holds Try.pinned (OpenSpec.ofChange clockRisesWrong)

/-- 'hayricklaw11.ClockBack': WHATEVER THE INPUT: true; the input reads as it did. -/
def clockBackSpec : ChangeSpec := { name := "clockBack", fn := fun _ => fun
  | [d] => { results := [.lit (.bool true)], args := [d] }
  | _ => none }
def clockBackRow : OpenClaim := { program := "ytkbpjegmfhmhbaa", sum := "1d7049dcc2d0505e1de169de50d42f86a55eb08e900f432bf3c98d83662ea396", func := "hayrick/hayricklaw11.ClockBack", spec := "clockBack", inPlace := ["math.Float64bits", "math.Float64frombits"], unfollowed := true, recurses := true, named := ["math/bits.divideError", "math/bits.overflowError"], apart := false }
def ClockBackSaid : Prop := clockBackRow.holds Try.pinned (OpenSpec.ofChange clockBackSpec)

/-- ITS FALSE NEIGHBOUR: 'it returns false'. Refute it at one input. -/
def clockBackWrong : ChangeSpec := { name := "clockBack", fn := fun _ => fun
  | [d] => { results := [.lit (.bool false)], args := [d] }
  | _ => none }
def ClockBackWrongFalsely : Prop := clockBackRow.holds Try.pinned (OpenSpec.ofChange clockBackWrong)

/-- 'hayricklaw11.ClockSign': WHATEVER THE INPUT: true; the input reads as it did. -/
def clockSignSpec : ChangeSpec := { name := "clockSign", fn := fun _ => fun
  | [d] => { results := [.lit (.bool true)], args := [d] }
  | _ => none }
def clockSignRow : OpenClaim := { program := "ytkbpjegmfhmhbaa", sum := "1d7049dcc2d0505e1de169de50d42f86a55eb08e900f432bf3c98d83662ea396", func := "hayrick/hayricklaw11.ClockSign", spec := "clockSign", inPlace := ["math.Float64bits", "math.Float64frombits"], unfollowed := true, recurses := true, named := ["math/bits.divideError", "math/bits.overflowError"], apart := false }
def ClockSignSaid : Prop := clockSignRow.holds Try.pinned (OpenSpec.ofChange clockSignSpec)

/-- ITS FALSE NEIGHBOUR: 'it returns false'. Refute it at one input. -/
def clockSignWrong : ChangeSpec := { name := "clockSign", fn := fun _ => fun
  | [d] => { results := [.lit (.bool false)], args := [d] }
  | _ => none }
def ClockSignWrongFalsely : Prop := clockSignRow.holds Try.pinned (OpenSpec.ofChange clockSignWrong)

/-- 'hayricklaw11.ClockSeconds': WHATEVER THE INPUT: true; the input reads as it did. -/
def clockSecondsSpec : ChangeSpec := { name := "clockSeconds", fn := fun _ => fun
  | [d] => { results := [.lit (.bool true)], args := [d] }
  | _ => none }
def clockSecondsRow : OpenClaim := { program := "ytkbpjegmfhmhbaa", sum := "1d7049dcc2d0505e1de169de50d42f86a55eb08e900f432bf3c98d83662ea396", func := "hayrick/hayricklaw11.ClockSeconds", spec := "clockSeconds", inPlace := ["math.Float64bits", "math.Float64frombits"], unfollowed := true, recurses := true, named := ["math/bits.divideError", "math/bits.overflowError"], apart := false }
def ClockSecondsSaid : Prop := clockSecondsRow.holds Try.pinned (OpenSpec.ofChange clockSecondsSpec)

/-- ITS FALSE NEIGHBOUR: 'it returns false'. Refute it at one input. -/
def clockSecondsWrong : ChangeSpec := { name := "clockSeconds", fn := fun _ => fun
  | [d] => { results := [.lit (.bool false)], args := [d] }
  | _ => none }
def ClockSecondsWrongFalsely : Prop := clockSecondsRow.holds Try.pinned (OpenSpec.ofChange clockSecondsWrong)

/-- 'hayricklaw11.ClockNear': WHATEVER THE INPUT: true; the input reads as it did. -/
def clockNearSpec : ChangeSpec := { name := "clockNear", fn := fun _ => fun
  | [d] => { results := [.lit (.bool true)], args := [d] }
  | _ => none }
def clockNearRow : OpenClaim := { program := "ytkbpjegmfhmhbaa", sum := "1d7049dcc2d0505e1de169de50d42f86a55eb08e900f432bf3c98d83662ea396", func := "hayrick/hayricklaw11.ClockNear", spec := "clockNear", inPlace := ["math.Float64bits", "math.Float64frombits"], unfollowed := true, recurses := true, named := ["math/bits.divideError", "math/bits.overflowError"], apart := false }
def ClockNearSaid : Prop := clockNearRow.holds Try.pinned (OpenSpec.ofChange clockNearSpec)

/-- ITS FALSE NEIGHBOUR: 'it returns false'. Refute it at one input. -/
def clockNearWrong : ChangeSpec := { name := "clockNear", fn := fun _ => fun
  | [d] => { results := [.lit (.bool false)], args := [d] }
  | _ => none }
def ClockNearWrongFalsely : Prop := clockNearRow.holds Try.pinned (OpenSpec.ofChange clockNearWrong)

/-- 'hayricklaw11.ClockMeans': WHATEVER THE INPUT: true; the input reads as it did. -/
def clockMeansSpec : ChangeSpec := { name := "clockMeans", fn := fun _ => fun
  | [d1, d2, d3] => { results := [.lit (.bool true)], args := [d1, d2, d3] }
  | _ => none }
def clockMeansRow : OpenClaim := { program := "ytkbpjegmfhmhbaa", sum := "1d7049dcc2d0505e1de169de50d42f86a55eb08e900f432bf3c98d83662ea396", func := "hayrick/hayricklaw11.ClockMeans", spec := "clockMeans", inPlace := ["math.Float64bits", "math.Float64frombits"], unfollowed := true, recurses := true, named := ["math/bits.divideError", "math/bits.overflowError"], apart := false }
def ClockMeansSaid : Prop := clockMeansRow.holds Try.pinned (OpenSpec.ofChange clockMeansSpec)

/-- ITS FALSE NEIGHBOUR: 'it returns false'. Refute it at one input. -/
def clockMeansWrong : ChangeSpec := { name := "clockMeans", fn := fun _ => fun
  | [d1, d2, d3] => { results := [.lit (.bool false)], args := [d1, d2, d3] }
  | _ => none }
def ClockMeansWrongFalsely : Prop := clockMeansRow.holds Try.pinned (OpenSpec.ofChange clockMeansWrong)

/- THE SECOND FORM. 'bulk': how many values and letters a reading holds, each counted each time it is reached (what is shared counts as often as it is met; a slice's spare places count too). A statement '..UptoSaid' is the law's where the arguments, and the package variables that the reading takes, are together of bulk at most 1048576: NARROWER than '..Said'. Prove '..Said' where nothing that the law and all that it calls make is longer than what came in: it says more and counts as full. Else prove '..UptoSaid'. A law counts once. -/
mutual
def uptoBulk {H : Type} : DataW H → Nat
  | .lit (.string bytes) => bytes.length + 1
  | .lit _ => 1
  | .nil => 1
  | .ptr d => uptoBulk d + 1
  | .slice elems spare => uptoBulkAll elems + uptoBulkAll spare + 1
  | .agg parts => uptoBulkAll parts + 1
  | .iface _ d => uptoBulk d + 1
  | .map entries => uptoBulkEntries entries + 1
  | .held _ => 1
def uptoBulkAll {H : Type} : List (DataW H) → Nat
  | [] => 0
  | d :: r => uptoBulk d + uptoBulkAll r
def uptoBulkEntries {H : Type} : List (Lit × DataW H) → Nat
  | [] => 0
  | x :: r => uptoBulkEntry x + uptoBulkEntries r
def uptoBulkEntry {H : Type} : Lit × DataW H → Nat
  | (.string bytes, d) => bytes.length + uptoBulk d + 1
  | (_, d) => uptoBulk d + 1
 end
def uptoSmall : (H : Type) → List (DataW H) → Bool := fun _ ds => decide (uptoBulkAll ds ≤ 1048576)
def OpenSpec.upto (s : _root_.Go.ChangeSpec) : _root_.Go.OpenSpec := { _root_.Go.OpenSpec.ofChange s with cond := some uptoSmall }

/-- 'hayricklaw11.ClockTimes', WHERE WHAT IT READS IS OF BULK AT MOST 1048576: true; the input reads as it did. -/
def clockTimesUptoRow : OpenClaim := { program := "ytkbpjegmfhmhbaa", sum := "1d7049dcc2d0505e1de169de50d42f86a55eb08e900f432bf3c98d83662ea396", func := "hayrick/hayricklaw11.ClockTimes", spec := "clockTimes", inPlace := ["math.Float64bits", "math.Float64frombits"], unfollowed := true, recurses := true, named := ["math/bits.divideError", "math/bits.overflowError"], apart := false, narrowed := true }
def ClockTimesUptoSaid : Prop := clockTimesUptoRow.holds Try.pinned (OpenSpec.upto clockTimesSpec)

/-- 'hayricklaw11.ClockFloats', WHERE WHAT IT READS IS OF BULK AT MOST 1048576: true; the input reads as it did. -/
def clockFloatsUptoRow : OpenClaim := { program := "ytkbpjegmfhmhbaa", sum := "1d7049dcc2d0505e1de169de50d42f86a55eb08e900f432bf3c98d83662ea396", func := "hayrick/hayricklaw11.ClockFloats", spec := "clockFloats", inPlace := ["math.Float64bits", "math.Float64frombits"], unfollowed := true, recurses := true, named := ["math/bits.divideError", "math/bits.overflowError"], apart := false, narrowed := true }
def ClockFloatsUptoSaid : Prop := clockFloatsUptoRow.holds Try.pinned (OpenSpec.upto clockFloatsSpec)

/-- 'hayricklaw11.ClockOrders', WHERE WHAT IT READS IS OF BULK AT MOST 1048576: true; the input reads as it did. -/
def clockOrdersUptoRow : OpenClaim := { program := "ytkbpjegmfhmhbaa", sum := "1d7049dcc2d0505e1de169de50d42f86a55eb08e900f432bf3c98d83662ea396", func := "hayrick/hayricklaw11.ClockOrders", spec := "clockOrders", inPlace := ["math.Float64bits", "math.Float64frombits"], unfollowed := true, recurses := true, named := ["math/bits.divideError", "math/bits.overflowError"], apart := false, narrowed := true }
def ClockOrdersUptoSaid : Prop := clockOrdersUptoRow.holds Try.pinned (OpenSpec.upto clockOrdersSpec)

/-- 'hayricklaw11.ClockRises', WHERE WHAT IT READS IS OF BULK AT MOST 1048576: true; the input reads as it did. -/
def clockRisesUptoRow : OpenClaim := { program := "ytkbpjegmfhmhbaa", sum := "1d7049dcc2d0505e1de169de50d42f86a55eb08e900f432bf3c98d83662ea396", func := "hayrick/hayricklaw11.ClockRises", spec := "clockRises", inPlace := ["math.Float64bits", "math.Float64frombits"], unfollowed := true, recurses := true, named := ["math/bits.divideError", "math/bits.overflowError"], apart := false, narrowed := true }
def ClockRisesUptoSaid : Prop := clockRisesUptoRow.holds Try.pinned (OpenSpec.upto clockRisesSpec)

/-- 'hayricklaw11.ClockBack', WHERE WHAT IT READS IS OF BULK AT MOST 1048576: true; the input reads as it did. -/
def clockBackUptoRow : OpenClaim := { program := "ytkbpjegmfhmhbaa", sum := "1d7049dcc2d0505e1de169de50d42f86a55eb08e900f432bf3c98d83662ea396", func := "hayrick/hayricklaw11.ClockBack", spec := "clockBack", inPlace := ["math.Float64bits", "math.Float64frombits"], unfollowed := true, recurses := true, named := ["math/bits.divideError", "math/bits.overflowError"], apart := false, narrowed := true }
def ClockBackUptoSaid : Prop := clockBackUptoRow.holds Try.pinned (OpenSpec.upto clockBackSpec)

/-- 'hayricklaw11.ClockSign', WHERE WHAT IT READS IS OF BULK AT MOST 1048576: true; the input reads as it did. -/
def clockSignUptoRow : OpenClaim := { program := "ytkbpjegmfhmhbaa", sum := "1d7049dcc2d0505e1de169de50d42f86a55eb08e900f432bf3c98d83662ea396", func := "hayrick/hayricklaw11.ClockSign", spec := "clockSign", inPlace := ["math.Float64bits", "math.Float64frombits"], unfollowed := true, recurses := true, named := ["math/bits.divideError", "math/bits.overflowError"], apart := false, narrowed := true }
def ClockSignUptoSaid : Prop := clockSignUptoRow.holds Try.pinned (OpenSpec.upto clockSignSpec)

/-- 'hayricklaw11.ClockSeconds', WHERE WHAT IT READS IS OF BULK AT MOST 1048576: true; the input reads as it did. -/
def clockSecondsUptoRow : OpenClaim := { program := "ytkbpjegmfhmhbaa", sum := "1d7049dcc2d0505e1de169de50d42f86a55eb08e900f432bf3c98d83662ea396", func := "hayrick/hayricklaw11.ClockSeconds", spec := "clockSeconds", inPlace := ["math.Float64bits", "math.Float64frombits"], unfollowed := true, recurses := true, named := ["math/bits.divideError", "math/bits.overflowError"], apart := false, narrowed := true }
def ClockSecondsUptoSaid : Prop := clockSecondsUptoRow.holds Try.pinned (OpenSpec.upto clockSecondsSpec)

/-- 'hayricklaw11.ClockNear', WHERE WHAT IT READS IS OF BULK AT MOST 1048576: true; the input reads as it did. -/
def clockNearUptoRow : OpenClaim := { program := "ytkbpjegmfhmhbaa", sum := "1d7049dcc2d0505e1de169de50d42f86a55eb08e900f432bf3c98d83662ea396", func := "hayrick/hayricklaw11.ClockNear", spec := "clockNear", inPlace := ["math.Float64bits", "math.Float64frombits"], unfollowed := true, recurses := true, named := ["math/bits.divideError", "math/bits.overflowError"], apart := false, narrowed := true }
def ClockNearUptoSaid : Prop := clockNearUptoRow.holds Try.pinned (OpenSpec.upto clockNearSpec)

/-- 'hayricklaw11.ClockMeans', WHERE WHAT IT READS IS OF BULK AT MOST 1048576: true; the input reads as it did. -/
def clockMeansUptoRow : OpenClaim := { program := "ytkbpjegmfhmhbaa", sum := "1d7049dcc2d0505e1de169de50d42f86a55eb08e900f432bf3c98d83662ea396", func := "hayrick/hayricklaw11.ClockMeans", spec := "clockMeans", inPlace := ["math.Float64bits", "math.Float64frombits"], unfollowed := true, recurses := true, named := ["math/bits.divideError", "math/bits.overflowError"], apart := false, narrowed := true }
def ClockMeansUptoSaid : Prop := clockMeansUptoRow.holds Try.pinned (OpenSpec.upto clockMeansSpec)

end Rows
end Go.Proofs.Ytkbpjegmfhmhbaa
