/-
  No cell of these rows narrows 'for every input' (looked for: loops, veiled, ifaces, maps, wideKeys, modest, calm, conditions, laid).
  DERIVED. THE GIVEN ROWS OF THIS SEAT. 7 by the template 'for every input the law returns true; each argument reads behind the call as it read before'; 0 by the template 'total and deterministic' (their statements: YthnffhhbdihalaaTotals.lean).
  GIVEN WITH THE SEED: the statements are not yours to turn. If you find one false, say at which input.
  Laid BY PROGRAM, IN A SANDBOX (cutbox-rows.mjs): the forced cells as the released guide's own fill.sh prints them over the translation 80d8e77cb87679f8… (all of the seat's roots in one cut). By AI agents, Wed Nov 11 2026. No macro, syntax, notation, axiom, sorry.
-/
import Derived.Test.YthnffhhbdihalaaChecked
import GoSem.Claim
import GoSem.ClaimJoined
import GoSem.ClaimMapViews
import Derived.JoinedTies
import Derived.KernelRfl
namespace Go.Proofs.Ythnffhhbdihalaa
/- THE CELL 'sum', in the pinned program and in every row, IS THE sha256 OF THE DUMP (.gsa) THAT YthnffhhbdihalaaProg.lean LOADS. Nothing in Lean hashes anything: it is a label: what it is worth is what the hold of that sum in a sandbox is worth. -/
noncomputable def Try.pinned : Pinned := { name := "ythnffhhbdihalaa", sum := "80d8e77cb87679f80142493a58726037fd99b0e88b4fb0d59220efd675cd3c13", checked := Try.checked }
namespace Rows
def none {H : Type} : Left H := { results := [], args := [] }

/-- 'hayricklaw03.LocksPlays': WHATEVER THE INPUT: true; the input reads as it did. -/
def locksPlaysSpec : ChangeSpec := { name := "locksPlays", fn := fun _ => fun
  | [d] => { results := [.lit (.bool true)], args := [d] }
  | _ => none }
def locksPlaysRow : OpenClaim := { program := "ythnffhhbdihalaa", sum := "80d8e77cb87679f80142493a58726037fd99b0e88b4fb0d59220efd675cd3c13", func := "hayrick/hayricklaw03.LocksPlays", spec := "locksPlays", unfollowed := true, recurses := true, apart := false }
def LocksPlaysSaid : Prop := locksPlaysRow.holds Try.pinned (OpenSpec.ofChange locksPlaysSpec)

/-- ITS FALSE NEIGHBOUR: 'it returns false'. Refute it at one input. -/
def locksPlaysWrong : ChangeSpec := { name := "locksPlays", fn := fun _ => fun
  | [d] => { results := [.lit (.bool false)], args := [d] }
  | _ => none }
def LocksPlaysWrongFalsely : Prop := locksPlaysRow.holds Try.pinned (OpenSpec.ofChange locksPlaysWrong)

/-- 'hayricklaw03.LocksNone': WHATEVER THE INPUT: true; the input reads as it did. -/
def locksNoneSpec : ChangeSpec := { name := "locksNone", fn := fun _ => fun
  | [d1, d2, d3] => { results := [.lit (.bool true)], args := [d1, d2, d3] }
  | _ => none }
def locksNoneRow : OpenClaim := { program := "ythnffhhbdihalaa", sum := "80d8e77cb87679f80142493a58726037fd99b0e88b4fb0d59220efd675cd3c13", func := "hayrick/hayricklaw03.LocksNone", spec := "locksNone", unfollowed := true, recurses := true, apart := false }
def LocksNoneSaid : Prop := locksNoneRow.holds Try.pinned (OpenSpec.ofChange locksNoneSpec)

/-- ITS FALSE NEIGHBOUR: 'it returns false'. Refute it at one input. -/
def locksNoneWrong : ChangeSpec := { name := "locksNone", fn := fun _ => fun
  | [d1, d2, d3] => { results := [.lit (.bool false)], args := [d1, d2, d3] }
  | _ => none }
def LocksNoneWrongFalsely : Prop := locksNoneRow.holds Try.pinned (OpenSpec.ofChange locksNoneWrong)

/-- 'hayricklaw03.LocksAlone': WHATEVER THE INPUT: true; the input reads as it did. -/
def locksAloneSpec : ChangeSpec := { name := "locksAlone", fn := fun _ => fun
  | [d] => { results := [.lit (.bool true)], args := [d] }
  | _ => none }
def locksAloneRow : OpenClaim := { program := "ythnffhhbdihalaa", sum := "80d8e77cb87679f80142493a58726037fd99b0e88b4fb0d59220efd675cd3c13", func := "hayrick/hayricklaw03.LocksAlone", spec := "locksAlone", unfollowed := true, recurses := true, apart := false }
def LocksAloneSaid : Prop := locksAloneRow.holds Try.pinned (OpenSpec.ofChange locksAloneSpec)

/-- ITS FALSE NEIGHBOUR: 'it returns false'. Refute it at one input. -/
def locksAloneWrong : ChangeSpec := { name := "locksAlone", fn := fun _ => fun
  | [d] => { results := [.lit (.bool false)], args := [d] }
  | _ => none }
def LocksAloneWrongFalsely : Prop := locksAloneRow.holds Try.pinned (OpenSpec.ofChange locksAloneWrong)

/-- 'hayricklaw03.LocksRise': WHATEVER THE INPUT: true; the input reads as it did. -/
def locksRiseSpec : ChangeSpec := { name := "locksRise", fn := fun _ => fun
  | [d1, d2, d3] => { results := [.lit (.bool true)], args := [d1, d2, d3] }
  | _ => none }
def locksRiseRow : OpenClaim := { program := "ythnffhhbdihalaa", sum := "80d8e77cb87679f80142493a58726037fd99b0e88b4fb0d59220efd675cd3c13", func := "hayrick/hayricklaw03.LocksRise", spec := "locksRise", unfollowed := true, recurses := true, apart := false }
def LocksRiseSaid : Prop := locksRiseRow.holds Try.pinned (OpenSpec.ofChange locksRiseSpec)

/-- ITS FALSE NEIGHBOUR: 'it returns false'. Refute it at one input. -/
def locksRiseWrong : ChangeSpec := { name := "locksRise", fn := fun _ => fun
  | [d1, d2, d3] => { results := [.lit (.bool false)], args := [d1, d2, d3] }
  | _ => none }
def LocksRiseWrongFalsely : Prop := locksRiseRow.holds Try.pinned (OpenSpec.ofChange locksRiseWrong)

/-- 'hayricklaw03.LocksShare': WHATEVER THE INPUT: true; the input reads as it did. -/
def locksShareSpec : ChangeSpec := { name := "locksShare", fn := fun _ => fun
  | [d1, d2, d3] => { results := [.lit (.bool true)], args := [d1, d2, d3] }
  | _ => none }
def locksShareRow : OpenClaim := { program := "ythnffhhbdihalaa", sum := "80d8e77cb87679f80142493a58726037fd99b0e88b4fb0d59220efd675cd3c13", func := "hayrick/hayricklaw03.LocksShare", spec := "locksShare", unfollowed := true, recurses := true, apart := false }
def LocksShareSaid : Prop := locksShareRow.holds Try.pinned (OpenSpec.ofChange locksShareSpec)

/-- ITS FALSE NEIGHBOUR: 'it returns false'. Refute it at one input. -/
def locksShareWrong : ChangeSpec := { name := "locksShare", fn := fun _ => fun
  | [d1, d2, d3] => { results := [.lit (.bool false)], args := [d1, d2, d3] }
  | _ => none }
def LocksShareWrongFalsely : Prop := locksShareRow.holds Try.pinned (OpenSpec.ofChange locksShareWrong)

/-- 'hayricklaw03.LocksApart': WHATEVER THE INPUT: true; the input reads as it did. -/
def locksApartSpec : ChangeSpec := { name := "locksApart", fn := fun _ => fun
  | [d1, d2, d3] => { results := [.lit (.bool true)], args := [d1, d2, d3] }
  | _ => none }
def locksApartRow : OpenClaim := { program := "ythnffhhbdihalaa", sum := "80d8e77cb87679f80142493a58726037fd99b0e88b4fb0d59220efd675cd3c13", func := "hayrick/hayricklaw03.LocksApart", spec := "locksApart", unfollowed := true, recurses := true, apart := false }
def LocksApartSaid : Prop := locksApartRow.holds Try.pinned (OpenSpec.ofChange locksApartSpec)

/-- ITS FALSE NEIGHBOUR: 'it returns false'. Refute it at one input. -/
def locksApartWrong : ChangeSpec := { name := "locksApart", fn := fun _ => fun
  | [d1, d2, d3] => { results := [.lit (.bool false)], args := [d1, d2, d3] }
  | _ => none }
def LocksApartWrongFalsely : Prop := locksApartRow.holds Try.pinned (OpenSpec.ofChange locksApartWrong)

/-- 'hayricklaw03.LocksLeft': WHATEVER THE INPUT: true; the input reads as it did. -/
def locksLeftSpec : ChangeSpec := { name := "locksLeft", fn := fun _ => fun
  | [d] => { results := [.lit (.bool true)], args := [d] }
  | _ => none }
def locksLeftRow : OpenClaim := { program := "ythnffhhbdihalaa", sum := "80d8e77cb87679f80142493a58726037fd99b0e88b4fb0d59220efd675cd3c13", func := "hayrick/hayricklaw03.LocksLeft", spec := "locksLeft", unfollowed := true, recurses := true, apart := false }
def LocksLeftSaid : Prop := locksLeftRow.holds Try.pinned (OpenSpec.ofChange locksLeftSpec)

/-- ITS FALSE NEIGHBOUR: 'it returns false'. Refute it at one input. -/
def locksLeftWrong : ChangeSpec := { name := "locksLeft", fn := fun _ => fun
  | [d] => { results := [.lit (.bool false)], args := [d] }
  | _ => none }
def LocksLeftWrongFalsely : Prop := locksLeftRow.holds Try.pinned (OpenSpec.ofChange locksLeftWrong)

/- THE SECOND FORM. 'bulk': how many values and letters a reading holds, each counted each time it is reached (what is shared counts as often as it is met; a slice's spare places count too). A statement '..UptoSaid' is the law's where the arguments, and the package variables that the reading takes, are together of bulk at most 1048576: NARROWER than '..Said'. Prove '..Said' where nothing that the law and all that it calls make is longer than what came in: it says more and counts as full. Else prove '..UptoSaid'. A law counts once. -/
mutual
def uptoBulk {H : Type} : DataW H → Nat
  | .lit (.string bytes) => bytes.length + 1
  | .lit _ => 1
  | .nil => 1
  | .ptr d => uptoBulk d + 1
  | .slice elems spare => uptoBulkAll elems + uptoBulkAll spare + 1
  | .agg parts => uptoBulkAll parts + 1
  | .iface _ d => uptoBulk d + 1
  | .map entries => uptoBulkEntries entries + 1
  | .held _ => 1
def uptoBulkAll {H : Type} : List (DataW H) → Nat
  | [] => 0
  | d :: r => uptoBulk d + uptoBulkAll r
def uptoBulkEntries {H : Type} : List (Lit × DataW H) → Nat
  | [] => 0
  | x :: r => uptoBulkEntry x + uptoBulkEntries r
def uptoBulkEntry {H : Type} : Lit × DataW H → Nat
  | (.string bytes, d) => bytes.length + uptoBulk d + 1
  | (_, d) => uptoBulk d + 1
 end
def uptoSmall : (H : Type) → List (DataW H) → Bool := fun _ ds => decide (uptoBulkAll ds ≤ 1048576)
def OpenSpec.upto (s : _root_.Go.ChangeSpec) : _root_.Go.OpenSpec := { _root_.Go.OpenSpec.ofChange s with cond := some uptoSmall }

/-- 'hayricklaw03.LocksPlays', WHERE WHAT IT READS IS OF BULK AT MOST 1048576: true; the input reads as it did. -/
def locksPlaysUptoRow : OpenClaim := { program := "ythnffhhbdihalaa", sum := "80d8e77cb87679f80142493a58726037fd99b0e88b4fb0d59220efd675cd3c13", func := "hayrick/hayricklaw03.LocksPlays", spec := "locksPlays", unfollowed := true, recurses := true, apart := false, narrowed := true }
def LocksPlaysUptoSaid : Prop := locksPlaysUptoRow.holds Try.pinned (OpenSpec.upto locksPlaysSpec)

/-- 'hayricklaw03.LocksNone', WHERE WHAT IT READS IS OF BULK AT MOST 1048576: true; the input reads as it did. -/
def locksNoneUptoRow : OpenClaim := { program := "ythnffhhbdihalaa", sum := "80d8e77cb87679f80142493a58726037fd99b0e88b4fb0d59220efd675cd3c13", func := "hayrick/hayricklaw03.LocksNone", spec := "locksNone", unfollowed := true, recurses := true, apart := false, narrowed := true }
def LocksNoneUptoSaid : Prop := locksNoneUptoRow.holds Try.pinned (OpenSpec.upto locksNoneSpec)

/-- 'hayricklaw03.LocksAlone', WHERE WHAT IT READS IS OF BULK AT MOST 1048576: true; the input reads as it did. -/
def locksAloneUptoRow : OpenClaim := { program := "ythnffhhbdihalaa", sum := "80d8e77cb87679f80142493a58726037fd99b0e88b4fb0d59220efd675cd3c13", func := "hayrick/hayricklaw03.LocksAlone", spec := "locksAlone", unfollowed := true, recurses := true, apart := false, narrowed := true }
def LocksAloneUptoSaid : Prop := locksAloneUptoRow.holds Try.pinned (OpenSpec.upto locksAloneSpec)

/-- 'hayricklaw03.LocksRise', WHERE WHAT IT READS IS OF BULK AT MOST 1048576: true; the input reads as it did. -/
def locksRiseUptoRow : OpenClaim := { program := "ythnffhhbdihalaa", sum := "80d8e77cb87679f80142493a58726037fd99b0e88b4fb0d59220efd675cd3c13", func := "hayrick/hayricklaw03.LocksRise", spec := "locksRise", unfollowed := true, recurses := true, apart := false, narrowed := true }
def LocksRiseUptoSaid : Prop := locksRiseUptoRow.holds Try.pinned (OpenSpec.upto locksRiseSpec)

/-- 'hayricklaw03.LocksShare', WHERE WHAT IT READS IS OF BULK AT MOST 1048576: true; the input reads as it did. -/
def locksShareUptoRow : OpenClaim := { program := "ythnffhhbdihalaa", sum := "80d8e77cb87679f80142493a58726037fd99b0e88b4fb0d59220efd675cd3c13", func := "hayrick/hayricklaw03.LocksShare", spec := "locksShare", unfollowed := true, recurses := true, apart := false, narrowed := true }
def LocksShareUptoSaid : Prop := locksShareUptoRow.holds Try.pinned (OpenSpec.upto locksShareSpec)

/-- 'hayricklaw03.LocksApart', WHERE WHAT IT READS IS OF BULK AT MOST 1048576: true; the input reads as it did. -/
def locksApartUptoRow : OpenClaim := { program := "ythnffhhbdihalaa", sum := "80d8e77cb87679f80142493a58726037fd99b0e88b4fb0d59220efd675cd3c13", func := "hayrick/hayricklaw03.LocksApart", spec := "locksApart", unfollowed := true, recurses := true, apart := false, narrowed := true }
def LocksApartUptoSaid : Prop := locksApartUptoRow.holds Try.pinned (OpenSpec.upto locksApartSpec)

/-- 'hayricklaw03.LocksLeft', WHERE WHAT IT READS IS OF BULK AT MOST 1048576: true; the input reads as it did. -/
def locksLeftUptoRow : OpenClaim := { program := "ythnffhhbdihalaa", sum := "80d8e77cb87679f80142493a58726037fd99b0e88b4fb0d59220efd675cd3c13", func := "hayrick/hayricklaw03.LocksLeft", spec := "locksLeft", unfollowed := true, recurses := true, apart := false, narrowed := true }
def LocksLeftUptoSaid : Prop := locksLeftUptoRow.holds Try.pinned (OpenSpec.upto locksLeftSpec)

end Rows
end Go.Proofs.Ythnffhhbdihalaa
