/-
  No cell of these rows narrows 'for every input' (looked for: loops, veiled, ifaces, maps, wideKeys, modest, calm, conditions, laid).
  DERIVED. THE GIVEN ROWS OF THIS SEAT. 9 by the template 'for every input the law returns true; each argument reads behind the call as it read before'; 0 by the template 'total and deterministic' (their statements: YtcblmlkpcplkfaaTotals.lean).
  GIVEN WITH THE SEED: the statements are not yours to turn. If you find one false, say at which input.
  Laid BY PROGRAM, IN A SANDBOX (cutbox-rows.mjs): the forced cells as the released guide's own fill.sh prints them over the translation d60c9346bc438102… (all of the seat's roots in one cut). By AI agents, Wed Nov 11 2026. No macro, syntax, notation, axiom, sorry.
-/
import Derived.Test.YtcblmlkpcplkfaaChecked
import GoSem.Claim
import GoSem.ClaimJoined
import GoSem.ClaimMapViews
import Derived.JoinedTies
import Derived.KernelRfl
namespace Go.Proofs.Ytcblmlkpcplkfaa
/- THE CELL 'sum', in the pinned program and in every row, IS THE sha256 OF THE DUMP (.gsa) THAT YtcblmlkpcplkfaaProg.lean LOADS. Nothing in Lean hashes anything: it is a label: what it is worth is what the hold of that sum in a sandbox is worth. -/
noncomputable def Try.pinned : Pinned := { name := "ytcblmlkpcplkfaa", sum := "d60c9346bc438102a66fe8ed554c2cb29ea6808f6e256e40bd300f28a608073d", checked := Try.checked }
namespace Rows
def none {H : Type} : Left H := { results := [], args := [] }

/-- 'triremelaw10.SuitLess': WHATEVER THE INPUT: true; the input reads as it did. -/
def suitLessSpec : ChangeSpec := { name := "suitLess", fn := fun _ => fun
  | [d] => { results := [.lit (.bool true)], args := [d] }
  | _ => none }
def suitLessRow : OpenClaim := { program := "ytcblmlkpcplkfaa", sum := "d60c9346bc438102a66fe8ed554c2cb29ea6808f6e256e40bd300f28a608073d", func := "trireme/triremelaw10.SuitLess", spec := "suitLess", unfollowed := true, recurses := true, apart := false }
def SuitLessSaid : Prop := suitLessRow.holds Try.pinned (OpenSpec.ofChange suitLessSpec)

/-- ITS FALSE NEIGHBOUR: 'it returns false'. Refute it at one input. -/
def suitLessWrong : ChangeSpec := { name := "suitLess", fn := fun _ => fun
  | [d] => { results := [.lit (.bool false)], args := [d] }
  | _ => none }
def SuitLessWrongFalsely : Prop := suitLessRow.holds Try.pinned (OpenSpec.ofChange suitLessWrong)

/-- 'triremelaw10.SuitFull': WHATEVER THE INPUT: true; the input reads as it did. -/
def suitFullSpec : ChangeSpec := { name := "suitFull", fn := fun _ => fun
  | [d1, d2, d3] => { results := [.lit (.bool true)], args := [d1, d2, d3] }
  | _ => none }
def suitFullRow : OpenClaim := { program := "ytcblmlkpcplkfaa", sum := "d60c9346bc438102a66fe8ed554c2cb29ea6808f6e256e40bd300f28a608073d", func := "trireme/triremelaw10.SuitFull", spec := "suitFull", unfollowed := true, recurses := true, apart := false }
def SuitFullSaid : Prop := suitFullRow.holds Try.pinned (OpenSpec.ofChange suitFullSpec)

/-- ITS FALSE NEIGHBOUR: 'it returns false'. Refute it at one input. -/
def suitFullWrong : ChangeSpec := { name := "suitFull", fn := fun _ => fun
  | [d1, d2, d3] => { results := [.lit (.bool false)], args := [d1, d2, d3] }
  | _ => none }
def SuitFullWrongFalsely : Prop := suitFullRow.holds Try.pinned (OpenSpec.ofChange suitFullWrong)

/-- 'triremelaw10.SuitTolerant': WHATEVER THE INPUT: true; the input reads as it did. -/
def suitTolerantSpec : ChangeSpec := { name := "suitTolerant", fn := fun _ => fun
  | [d] => { results := [.lit (.bool true)], args := [d] }
  | _ => none }
def suitTolerantRow : OpenClaim := { program := "ytcblmlkpcplkfaa", sum := "d60c9346bc438102a66fe8ed554c2cb29ea6808f6e256e40bd300f28a608073d", func := "trireme/triremelaw10.SuitTolerant", spec := "suitTolerant", unfollowed := true, recurses := true, apart := false }
def SuitTolerantSaid : Prop := suitTolerantRow.holds Try.pinned (OpenSpec.ofChange suitTolerantSpec)

/-- ITS FALSE NEIGHBOUR: 'it returns false'. Refute it at one input. -/
def suitTolerantWrong : ChangeSpec := { name := "suitTolerant", fn := fun _ => fun
  | [d] => { results := [.lit (.bool false)], args := [d] }
  | _ => none }
def SuitTolerantWrongFalsely : Prop := suitTolerantRow.holds Try.pinned (OpenSpec.ofChange suitTolerantWrong)

/-- 'triremelaw09.YardChecks': WHATEVER THE INPUT: true; the input reads as it did. -/
def yardChecksSpec : ChangeSpec := { name := "yardChecks", fn := fun _ => fun
  | [d1, d2] => { results := [.lit (.bool true)], args := [d1, d2] }
  | _ => none }
def yardChecksRow : OpenClaim := { program := "ytcblmlkpcplkfaa", sum := "d60c9346bc438102a66fe8ed554c2cb29ea6808f6e256e40bd300f28a608073d", func := "trireme/triremelaw09.YardChecks", spec := "yardChecks", unfollowed := true, recurses := true, apart := false }
def YardChecksSaid : Prop := yardChecksRow.holds Try.pinned (OpenSpec.ofChange yardChecksSpec)

/-- ITS FALSE NEIGHBOUR: 'it returns false'. Refute it at one input. -/
def yardChecksWrong : ChangeSpec := { name := "yardChecks", fn := fun _ => fun
  | [d1, d2] => { results := [.lit (.bool false)], args := [d1, d2] }
  | _ => none }
def YardChecksWrongFalsely : Prop := yardChecksRow.holds Try.pinned (OpenSpec.ofChange yardChecksWrong)

/-- 'triremelaw09.YardLeft': WHATEVER THE INPUT: true; the input reads as it did. -/
def yardLeftSpec : ChangeSpec := { name := "yardLeft", fn := fun _ => fun
  | [d1, d2] => { results := [.lit (.bool true)], args := [d1, d2] }
  | _ => none }
def yardLeftRow : OpenClaim := { program := "ytcblmlkpcplkfaa", sum := "d60c9346bc438102a66fe8ed554c2cb29ea6808f6e256e40bd300f28a608073d", func := "trireme/triremelaw09.YardLeft", spec := "yardLeft", unfollowed := true, recurses := true, apart := false }
def YardLeftSaid : Prop := yardLeftRow.holds Try.pinned (OpenSpec.ofChange yardLeftSpec)

/-- ITS FALSE NEIGHBOUR: 'it returns false'. Refute it at one input. -/
def yardLeftWrong : ChangeSpec := { name := "yardLeft", fn := fun _ => fun
  | [d1, d2] => { results := [.lit (.bool false)], args := [d1, d2] }
  | _ => none }
def YardLeftWrongFalsely : Prop := yardLeftRow.holds Try.pinned (OpenSpec.ofChange yardLeftWrong)

/-- 'triremelaw09.YardOnce': WHATEVER THE INPUT: true; the input reads as it did. -/
def yardOnceSpec : ChangeSpec := { name := "yardOnce", fn := fun _ => fun
  | [d1, d2] => { results := [.lit (.bool true)], args := [d1, d2] }
  | _ => none }
def yardOnceRow : OpenClaim := { program := "ytcblmlkpcplkfaa", sum := "d60c9346bc438102a66fe8ed554c2cb29ea6808f6e256e40bd300f28a608073d", func := "trireme/triremelaw09.YardOnce", spec := "yardOnce", unfollowed := true, recurses := true, apart := false }
def YardOnceSaid : Prop := yardOnceRow.holds Try.pinned (OpenSpec.ofChange yardOnceSpec)

/-- ITS FALSE NEIGHBOUR: 'it returns false'. Refute it at one input. -/
def yardOnceWrong : ChangeSpec := { name := "yardOnce", fn := fun _ => fun
  | [d1, d2] => { results := [.lit (.bool false)], args := [d1, d2] }
  | _ => none }
def YardOnceWrongFalsely : Prop := yardOnceRow.holds Try.pinned (OpenSpec.ofChange yardOnceWrong)

/-- 'triremelaw12.FitOnce': WHATEVER THE INPUT: true; the input reads as it did. -/
def fitOnceSpec : ChangeSpec := { name := "fitOnce", fn := fun _ => fun
  | [d1, d2, d3] => { results := [.lit (.bool true)], args := [d1, d2, d3] }
  | _ => none }
def fitOnceRow : OpenClaim := { program := "ytcblmlkpcplkfaa", sum := "d60c9346bc438102a66fe8ed554c2cb29ea6808f6e256e40bd300f28a608073d", func := "trireme/triremelaw12.FitOnce", spec := "fitOnce", unfollowed := true, recurses := true, apart := false }
def FitOnceSaid : Prop := fitOnceRow.holds Try.pinned (OpenSpec.ofChange fitOnceSpec)

/-- ITS FALSE NEIGHBOUR: 'it returns false'. Refute it at one input. -/
def fitOnceWrong : ChangeSpec := { name := "fitOnce", fn := fun _ => fun
  | [d1, d2, d3] => { results := [.lit (.bool false)], args := [d1, d2, d3] }
  | _ => none }
def FitOnceWrongFalsely : Prop := fitOnceRow.holds Try.pinned (OpenSpec.ofChange fitOnceWrong)

/-- 'triremelaw12.FitKeeps': WHATEVER THE INPUT: true; the input reads as it did. -/
def fitKeepsSpec : ChangeSpec := { name := "fitKeeps", fn := fun _ => fun
  | [d1, d2, d3] => { results := [.lit (.bool true)], args := [d1, d2, d3] }
  | _ => none }
def fitKeepsRow : OpenClaim := { program := "ytcblmlkpcplkfaa", sum := "d60c9346bc438102a66fe8ed554c2cb29ea6808f6e256e40bd300f28a608073d", func := "trireme/triremelaw12.FitKeeps", spec := "fitKeeps", unfollowed := true, recurses := true, apart := false }
def FitKeepsSaid : Prop := fitKeepsRow.holds Try.pinned (OpenSpec.ofChange fitKeepsSpec)

/-- ITS FALSE NEIGHBOUR: 'it returns false'. Refute it at one input. -/
def fitKeepsWrong : ChangeSpec := { name := "fitKeeps", fn := fun _ => fun
  | [d1, d2, d3] => { results := [.lit (.bool false)], args := [d1, d2, d3] }
  | _ => none }
def FitKeepsWrongFalsely : Prop := fitKeepsRow.holds Try.pinned (OpenSpec.ofChange fitKeepsWrong)

/-- 'triremelaw12.FitReady': WHATEVER THE INPUT: true; the input reads as it did. -/
def fitReadySpec : ChangeSpec := { name := "fitReady", fn := fun _ => fun
  | [d1, d2, d3] => { results := [.lit (.bool true)], args := [d1, d2, d3] }
  | _ => none }
def fitReadyRow : OpenClaim := { program := "ytcblmlkpcplkfaa", sum := "d60c9346bc438102a66fe8ed554c2cb29ea6808f6e256e40bd300f28a608073d", func := "trireme/triremelaw12.FitReady", spec := "fitReady", unfollowed := true, recurses := true, apart := false }
def FitReadySaid : Prop := fitReadyRow.holds Try.pinned (OpenSpec.ofChange fitReadySpec)

/-- ITS FALSE NEIGHBOUR: 'it returns false'. Refute it at one input. -/
def fitReadyWrong : ChangeSpec := { name := "fitReady", fn := fun _ => fun
  | [d1, d2, d3] => { results := [.lit (.bool false)], args := [d1, d2, d3] }
  | _ => none }
def FitReadyWrongFalsely : Prop := fitReadyRow.holds Try.pinned (OpenSpec.ofChange fitReadyWrong)

/- THE SECOND FORM. 'bulk': how many values and letters a reading holds, each counted each time it is reached (what is shared counts as often as it is met; a slice's spare places count too). A statement '..UptoSaid' is the law's where the arguments, and the package variables that the reading takes, are together of bulk at most 1048576: NARROWER than '..Said'. Prove '..Said' where nothing that the law and all that it calls make is longer than what came in: it says more and counts as full. Else prove '..UptoSaid'. A law counts once. -/
mutual
def uptoBulk {H : Type} : DataW H → Nat
  | .lit (.string bytes) => bytes.length + 1
  | .lit _ => 1
  | .nil => 1
  | .ptr d => uptoBulk d + 1
  | .slice elems spare => uptoBulkAll elems + uptoBulkAll spare + 1
  | .agg parts => uptoBulkAll parts + 1
  | .iface _ d => uptoBulk d + 1
  | .map entries => uptoBulkEntries entries + 1
  | .held _ => 1
def uptoBulkAll {H : Type} : List (DataW H) → Nat
  | [] => 0
  | d :: r => uptoBulk d + uptoBulkAll r
def uptoBulkEntries {H : Type} : List (Lit × DataW H) → Nat
  | [] => 0
  | x :: r => uptoBulkEntry x + uptoBulkEntries r
def uptoBulkEntry {H : Type} : Lit × DataW H → Nat
  | (.string bytes, d) => bytes.length + uptoBulk d + 1
  | (_, d) => uptoBulk d + 1
 end
def uptoSmall : (H : Type) → List (DataW H) → Bool := fun _ ds => decide (uptoBulkAll ds ≤ 1048576)
def OpenSpec.upto (s : _root_.Go.ChangeSpec) : _root_.Go.OpenSpec := { _root_.Go.OpenSpec.ofChange s with cond := some uptoSmall }

/-- 'triremelaw10.SuitLess', WHERE WHAT IT READS IS OF BULK AT MOST 1048576: true; the input reads as it did. -/
def suitLessUptoRow : OpenClaim := { program := "ytcblmlkpcplkfaa", sum := "d60c9346bc438102a66fe8ed554c2cb29ea6808f6e256e40bd300f28a608073d", func := "trireme/triremelaw10.SuitLess", spec := "suitLess", unfollowed := true, recurses := true, apart := false, narrowed := true }
def SuitLessUptoSaid : Prop := suitLessUptoRow.holds Try.pinned (OpenSpec.upto suitLessSpec)

/-- 'triremelaw10.SuitFull', WHERE WHAT IT READS IS OF BULK AT MOST 1048576: true; the input reads as it did. -/
def suitFullUptoRow : OpenClaim := { program := "ytcblmlkpcplkfaa", sum := "d60c9346bc438102a66fe8ed554c2cb29ea6808f6e256e40bd300f28a608073d", func := "trireme/triremelaw10.SuitFull", spec := "suitFull", unfollowed := true, recurses := true, apart := false, narrowed := true }
def SuitFullUptoSaid : Prop := suitFullUptoRow.holds Try.pinned (OpenSpec.upto suitFullSpec)

/-- 'triremelaw10.SuitTolerant', WHERE WHAT IT READS IS OF BULK AT MOST 1048576: true; the input reads as it did. -/
def suitTolerantUptoRow : OpenClaim := { program := "ytcblmlkpcplkfaa", sum := "d60c9346bc438102a66fe8ed554c2cb29ea6808f6e256e40bd300f28a608073d", func := "trireme/triremelaw10.SuitTolerant", spec := "suitTolerant", unfollowed := true, recurses := true, apart := false, narrowed := true }
def SuitTolerantUptoSaid : Prop := suitTolerantUptoRow.holds Try.pinned (OpenSpec.upto suitTolerantSpec)

/-- 'triremelaw09.YardChecks', WHERE WHAT IT READS IS OF BULK AT MOST 1048576: true; the input reads as it did. -/
def yardChecksUptoRow : OpenClaim := { program := "ytcblmlkpcplkfaa", sum := "d60c9346bc438102a66fe8ed554c2cb29ea6808f6e256e40bd300f28a608073d", func := "trireme/triremelaw09.YardChecks", spec := "yardChecks", unfollowed := true, recurses := true, apart := false, narrowed := true }
def YardChecksUptoSaid : Prop := yardChecksUptoRow.holds Try.pinned (OpenSpec.upto yardChecksSpec)

/-- 'triremelaw09.YardLeft', WHERE WHAT IT READS IS OF BULK AT MOST 1048576: true; the input reads as it did. -/
def yardLeftUptoRow : OpenClaim := { program := "ytcblmlkpcplkfaa", sum := "d60c9346bc438102a66fe8ed554c2cb29ea6808f6e256e40bd300f28a608073d", func := "trireme/triremelaw09.YardLeft", spec := "yardLeft", unfollowed := true, recurses := true, apart := false, narrowed := true }
def YardLeftUptoSaid : Prop := yardLeftUptoRow.holds Try.pinned (OpenSpec.upto yardLeftSpec)

/-- 'triremelaw09.YardOnce', WHERE WHAT IT READS IS OF BULK AT MOST 1048576: true; the input reads as it did. -/
def yardOnceUptoRow : OpenClaim := { program := "ytcblmlkpcplkfaa", sum := "d60c9346bc438102a66fe8ed554c2cb29ea6808f6e256e40bd300f28a608073d", func := "trireme/triremelaw09.YardOnce", spec := "yardOnce", unfollowed := true, recurses := true, apart := false, narrowed := true }
def YardOnceUptoSaid : Prop := yardOnceUptoRow.holds Try.pinned (OpenSpec.upto yardOnceSpec)

/-- 'triremelaw12.FitOnce', WHERE WHAT IT READS IS OF BULK AT MOST 1048576: true; the input reads as it did. -/
def fitOnceUptoRow : OpenClaim := { program := "ytcblmlkpcplkfaa", sum := "d60c9346bc438102a66fe8ed554c2cb29ea6808f6e256e40bd300f28a608073d", func := "trireme/triremelaw12.FitOnce", spec := "fitOnce", unfollowed := true, recurses := true, apart := false, narrowed := true }
def FitOnceUptoSaid : Prop := fitOnceUptoRow.holds Try.pinned (OpenSpec.upto fitOnceSpec)

/-- 'triremelaw12.FitKeeps', WHERE WHAT IT READS IS OF BULK AT MOST 1048576: true; the input reads as it did. -/
def fitKeepsUptoRow : OpenClaim := { program := "ytcblmlkpcplkfaa", sum := "d60c9346bc438102a66fe8ed554c2cb29ea6808f6e256e40bd300f28a608073d", func := "trireme/triremelaw12.FitKeeps", spec := "fitKeeps", unfollowed := true, recurses := true, apart := false, narrowed := true }
def FitKeepsUptoSaid : Prop := fitKeepsUptoRow.holds Try.pinned (OpenSpec.upto fitKeepsSpec)

/-- 'triremelaw12.FitReady', WHERE WHAT IT READS IS OF BULK AT MOST 1048576: true; the input reads as it did. -/
def fitReadyUptoRow : OpenClaim := { program := "ytcblmlkpcplkfaa", sum := "d60c9346bc438102a66fe8ed554c2cb29ea6808f6e256e40bd300f28a608073d", func := "trireme/triremelaw12.FitReady", spec := "fitReady", unfollowed := true, recurses := true, apart := false, narrowed := true }
def FitReadyUptoSaid : Prop := fitReadyUptoRow.holds Try.pinned (OpenSpec.upto fitReadySpec)

end Rows
end Go.Proofs.Ytcblmlkpcplkfaa
