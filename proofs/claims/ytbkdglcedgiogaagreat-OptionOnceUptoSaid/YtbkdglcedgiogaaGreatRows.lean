/-
  No cell of these rows narrows 'for every input' (looked for: loops, veiled, ifaces, maps, wideKeys, modest, calm, conditions, laid).
  DERIVED. THE GIVEN ROWS OF THIS SEAT. 8 by the template 'for every input the law returns true; each argument reads behind the call as it read before'; 0 by the template 'total and deterministic' (their statements: YtbkdglcedgiogaaGreatTotals.lean).
  GIVEN WITH THE SEED: the statements are not yours to turn. If you find one false, say at which input.
  Laid BY PROGRAM, IN A SANDBOX (cutbox-rows.mjs): the forced cells as the released guide's own fill.sh prints them over the translation 9942d0ac26c5571b… (all of the seat's roots in one cut). By AI agents, Wed Nov 11 2026. No macro, syntax, notation, axiom, sorry.
-/
import Derived.Test.YtbkdglcedgiogaaGreatChecked
import GoSem.Claim
import GoSem.ClaimJoined
import GoSem.ClaimMapViews
import Derived.JoinedTies
import Derived.KernelRfl
namespace Go.Proofs.YtbkdglcedgiogaaGreat
/- THE CELL 'sum', in the pinned program and in every row, IS THE sha256 OF THE DUMP (.gsa) THAT YtbkdglcedgiogaaGreatProg.lean LOADS. Nothing in Lean hashes anything: it is a label: what it is worth is what the hold of that sum in a sandbox is worth. -/
noncomputable def Tryz.pinned : Pinned := { name := "ytbkdglcedgiogaagreat", sum := "9942d0ac26c5571b4ade3a9c1c603602ab73f9af2bca003047d927e853dc222e", checked := Tryz.checked }
namespace Rows
def none {H : Type} : Left H := { results := [], args := [] }

/-- 'triremelaw19.PackEstimates': WHATEVER THE INPUT: true; the input reads as it did. -/
def packEstimatesSpec : ChangeSpec := { name := "packEstimates", fn := fun _ => fun
  | [d] => { results := [.lit (.bool true)], args := [d] }
  | _ => none }
def packEstimatesRow : OpenClaim := { program := "ytbkdglcedgiogaagreat", sum := "9942d0ac26c5571b4ade3a9c1c603602ab73f9af2bca003047d927e853dc222e", func := "trireme/triremelaw19.PackEstimates", spec := "packEstimates", unfollowed := true, recurses := true, apart := false }
def PackEstimatesSaid : Prop := packEstimatesRow.holds Tryz.pinned (OpenSpec.ofChange packEstimatesSpec)

/-- ITS FALSE NEIGHBOUR: 'it returns false'. Refute it at one input. -/
def packEstimatesWrong : ChangeSpec := { name := "packEstimates", fn := fun _ => fun
  | [d] => { results := [.lit (.bool false)], args := [d] }
  | _ => none }
def PackEstimatesWrongFalsely : Prop := packEstimatesRow.holds Tryz.pinned (OpenSpec.ofChange packEstimatesWrong)

/-- 'triremelaw19.PackSafe': WHATEVER THE INPUT: true; the input reads as it did. -/
def packSafeSpec : ChangeSpec := { name := "packSafe", fn := fun _ => fun
  | [d] => { results := [.lit (.bool true)], args := [d] }
  | _ => none }
def packSafeRow : OpenClaim := { program := "ytbkdglcedgiogaagreat", sum := "9942d0ac26c5571b4ade3a9c1c603602ab73f9af2bca003047d927e853dc222e", func := "trireme/triremelaw19.PackSafe", spec := "packSafe", unfollowed := true, recurses := true, apart := false }
def PackSafeSaid : Prop := packSafeRow.holds Tryz.pinned (OpenSpec.ofChange packSafeSpec)

/-- ITS FALSE NEIGHBOUR: 'it returns false'. Refute it at one input. -/
def packSafeWrong : ChangeSpec := { name := "packSafe", fn := fun _ => fun
  | [d] => { results := [.lit (.bool false)], args := [d] }
  | _ => none }
def PackSafeWrongFalsely : Prop := packSafeRow.holds Tryz.pinned (OpenSpec.ofChange packSafeWrong)

/-- 'triremelaw14.SchedSteps': WHATEVER THE INPUT: true; the input reads as it did. -/
def schedStepsSpec : ChangeSpec := { name := "schedSteps", fn := fun _ => fun
  | [d1, d2] => { results := [.lit (.bool true)], args := [d1, d2] }
  | _ => none }
def schedStepsRow : OpenClaim := { program := "ytbkdglcedgiogaagreat", sum := "9942d0ac26c5571b4ade3a9c1c603602ab73f9af2bca003047d927e853dc222e", func := "trireme/triremelaw14.SchedSteps", spec := "schedSteps", unfollowed := true, recurses := true, apart := false }
def SchedStepsSaid : Prop := schedStepsRow.holds Tryz.pinned (OpenSpec.ofChange schedStepsSpec)

/-- ITS FALSE NEIGHBOUR: 'it returns false'. Refute it at one input. -/
def schedStepsWrong : ChangeSpec := { name := "schedSteps", fn := fun _ => fun
  | [d1, d2] => { results := [.lit (.bool false)], args := [d1, d2] }
  | _ => none }
def SchedStepsWrongFalsely : Prop := schedStepsRow.holds Tryz.pinned (OpenSpec.ofChange schedStepsWrong)

/-- 'triremelaw14.SchedBest': WHATEVER THE INPUT: true; the input reads as it did. -/
def schedBestSpec : ChangeSpec := { name := "schedBest", fn := fun _ => fun
  | [d1, d2, d3] => { results := [.lit (.bool true)], args := [d1, d2, d3] }
  | _ => none }
def schedBestRow : OpenClaim := { program := "ytbkdglcedgiogaagreat", sum := "9942d0ac26c5571b4ade3a9c1c603602ab73f9af2bca003047d927e853dc222e", func := "trireme/triremelaw14.SchedBest", spec := "schedBest", unfollowed := true, recurses := true, apart := false }
def SchedBestSaid : Prop := schedBestRow.holds Tryz.pinned (OpenSpec.ofChange schedBestSpec)

/-- ITS FALSE NEIGHBOUR: 'it returns false'. Refute it at one input. -/
def schedBestWrong : ChangeSpec := { name := "schedBest", fn := fun _ => fun
  | [d1, d2, d3] => { results := [.lit (.bool false)], args := [d1, d2, d3] }
  | _ => none }
def SchedBestWrongFalsely : Prop := schedBestRow.holds Tryz.pinned (OpenSpec.ofChange schedBestWrong)

/-- 'triremelaw14.SchedSafe': WHATEVER THE INPUT: true; the input reads as it did. -/
def schedSafeSpec : ChangeSpec := { name := "schedSafe", fn := fun _ => fun
  | [d1, d2] => { results := [.lit (.bool true)], args := [d1, d2] }
  | _ => none }
def schedSafeRow : OpenClaim := { program := "ytbkdglcedgiogaagreat", sum := "9942d0ac26c5571b4ade3a9c1c603602ab73f9af2bca003047d927e853dc222e", func := "trireme/triremelaw14.SchedSafe", spec := "schedSafe", unfollowed := true, recurses := true, apart := false }
def SchedSafeSaid : Prop := schedSafeRow.holds Tryz.pinned (OpenSpec.ofChange schedSafeSpec)

/-- ITS FALSE NEIGHBOUR: 'it returns false'. Refute it at one input. -/
def schedSafeWrong : ChangeSpec := { name := "schedSafe", fn := fun _ => fun
  | [d1, d2] => { results := [.lit (.bool false)], args := [d1, d2] }
  | _ => none }
def SchedSafeWrongFalsely : Prop := schedSafeRow.holds Tryz.pinned (OpenSpec.ofChange schedSafeWrong)

/-- 'triremelaw20.OptionTells': WHATEVER THE INPUT: true; the input reads as it did. -/
def optionTellsSpec : ChangeSpec := { name := "optionTells", fn := fun _ => fun
  | [d] => { results := [.lit (.bool true)], args := [d] }
  | _ => none }
def optionTellsRow : OpenClaim := { program := "ytbkdglcedgiogaagreat", sum := "9942d0ac26c5571b4ade3a9c1c603602ab73f9af2bca003047d927e853dc222e", func := "trireme/triremelaw20.OptionTells", spec := "optionTells", unfollowed := true, recurses := true, named := ["math/bits.divideError", "math/bits.overflowError"], apart := false }
def OptionTellsSaid : Prop := optionTellsRow.holds Tryz.pinned (OpenSpec.ofChange optionTellsSpec)

/-- ITS FALSE NEIGHBOUR: 'it returns false'. Refute it at one input. -/
def optionTellsWrong : ChangeSpec := { name := "optionTells", fn := fun _ => fun
  | [d] => { results := [.lit (.bool false)], args := [d] }
  | _ => none }
def OptionTellsWrongFalsely : Prop := optionTellsRow.holds Tryz.pinned (OpenSpec.ofChange optionTellsWrong)

/-- 'triremelaw20.OptionWastes': WHATEVER THE INPUT: true; the input reads as it did. -/
def optionWastesSpec : ChangeSpec := { name := "optionWastes", fn := fun _ => fun
  | [d1, d2, d3] => { results := [.lit (.bool true)], args := [d1, d2, d3] }
  | _ => none }
def optionWastesRow : OpenClaim := { program := "ytbkdglcedgiogaagreat", sum := "9942d0ac26c5571b4ade3a9c1c603602ab73f9af2bca003047d927e853dc222e", func := "trireme/triremelaw20.OptionWastes", spec := "optionWastes", unfollowed := true, recurses := true, named := ["math/bits.divideError", "math/bits.overflowError"], apart := false }
def OptionWastesSaid : Prop := optionWastesRow.holds Tryz.pinned (OpenSpec.ofChange optionWastesSpec)

/-- ITS FALSE NEIGHBOUR: 'it returns false'. Refute it at one input. -/
def optionWastesWrong : ChangeSpec := { name := "optionWastes", fn := fun _ => fun
  | [d1, d2, d3] => { results := [.lit (.bool false)], args := [d1, d2, d3] }
  | _ => none }
def OptionWastesWrongFalsely : Prop := optionWastesRow.holds Tryz.pinned (OpenSpec.ofChange optionWastesWrong)

/-- 'triremelaw20.OptionOnce': WHATEVER THE INPUT: true; the input reads as it did. -/
def optionOnceSpec : ChangeSpec := { name := "optionOnce", fn := fun _ => fun
  | [d] => { results := [.lit (.bool true)], args := [d] }
  | _ => none }
def optionOnceRow : OpenClaim := { program := "ytbkdglcedgiogaagreat", sum := "9942d0ac26c5571b4ade3a9c1c603602ab73f9af2bca003047d927e853dc222e", func := "trireme/triremelaw20.OptionOnce", spec := "optionOnce", unfollowed := true, recurses := true, named := ["math/bits.divideError", "math/bits.overflowError"], apart := false }
def OptionOnceSaid : Prop := optionOnceRow.holds Tryz.pinned (OpenSpec.ofChange optionOnceSpec)

/-- ITS FALSE NEIGHBOUR: 'it returns false'. Refute it at one input. -/
def optionOnceWrong : ChangeSpec := { name := "optionOnce", fn := fun _ => fun
  | [d] => { results := [.lit (.bool false)], args := [d] }
  | _ => none }
def OptionOnceWrongFalsely : Prop := optionOnceRow.holds Tryz.pinned (OpenSpec.ofChange optionOnceWrong)

/- THE SECOND FORM. 'bulk': how many values and letters a reading holds, each counted each time it is reached (what is shared counts as often as it is met; a slice's spare places count too). A statement '..UptoSaid' is the law's where the arguments, and the package variables that the reading takes, are together of bulk at most 1048576: NARROWER than '..Said'. Prove '..Said' where nothing that the law and all that it calls make is longer than what came in: it says more and counts as full. Else prove '..UptoSaid'. A law counts once. -/
mutual
def uptoBulk {H : Type} : DataW H → Nat
  | .lit (.string bytes) => bytes.length + 1
  | .lit _ => 1
  | .nil => 1
  | .ptr d => uptoBulk d + 1
  | .slice elems spare => uptoBulkAll elems + uptoBulkAll spare + 1
  | .agg parts => uptoBulkAll parts + 1
  | .iface _ d => uptoBulk d + 1
  | .map entries => uptoBulkEntries entries + 1
  | .held _ => 1
def uptoBulkAll {H : Type} : List (DataW H) → Nat
  | [] => 0
  | d :: r => uptoBulk d + uptoBulkAll r
def uptoBulkEntries {H : Type} : List (Lit × DataW H) → Nat
  | [] => 0
  | x :: r => uptoBulkEntry x + uptoBulkEntries r
def uptoBulkEntry {H : Type} : Lit × DataW H → Nat
  | (.string bytes, d) => bytes.length + uptoBulk d + 1
  | (_, d) => uptoBulk d + 1
 end
def uptoSmall : (H : Type) → List (DataW H) → Bool := fun _ ds => decide (uptoBulkAll ds ≤ 1048576)
def OpenSpec.upto (s : _root_.Go.ChangeSpec) : _root_.Go.OpenSpec := { _root_.Go.OpenSpec.ofChange s with cond := some uptoSmall }

/-- 'triremelaw19.PackEstimates', WHERE WHAT IT READS IS OF BULK AT MOST 1048576: true; the input reads as it did. -/
def packEstimatesUptoRow : OpenClaim := { program := "ytbkdglcedgiogaagreat", sum := "9942d0ac26c5571b4ade3a9c1c603602ab73f9af2bca003047d927e853dc222e", func := "trireme/triremelaw19.PackEstimates", spec := "packEstimates", unfollowed := true, recurses := true, apart := false, narrowed := true }
def PackEstimatesUptoSaid : Prop := packEstimatesUptoRow.holds Tryz.pinned (OpenSpec.upto packEstimatesSpec)

/-- 'triremelaw19.PackSafe', WHERE WHAT IT READS IS OF BULK AT MOST 1048576: true; the input reads as it did. -/
def packSafeUptoRow : OpenClaim := { program := "ytbkdglcedgiogaagreat", sum := "9942d0ac26c5571b4ade3a9c1c603602ab73f9af2bca003047d927e853dc222e", func := "trireme/triremelaw19.PackSafe", spec := "packSafe", unfollowed := true, recurses := true, apart := false, narrowed := true }
def PackSafeUptoSaid : Prop := packSafeUptoRow.holds Tryz.pinned (OpenSpec.upto packSafeSpec)

/-- 'triremelaw14.SchedSteps', WHERE WHAT IT READS IS OF BULK AT MOST 1048576: true; the input reads as it did. -/
def schedStepsUptoRow : OpenClaim := { program := "ytbkdglcedgiogaagreat", sum := "9942d0ac26c5571b4ade3a9c1c603602ab73f9af2bca003047d927e853dc222e", func := "trireme/triremelaw14.SchedSteps", spec := "schedSteps", unfollowed := true, recurses := true, apart := false, narrowed := true }
def SchedStepsUptoSaid : Prop := schedStepsUptoRow.holds Tryz.pinned (OpenSpec.upto schedStepsSpec)

/-- 'triremelaw14.SchedBest', WHERE WHAT IT READS IS OF BULK AT MOST 1048576: true; the input reads as it did. -/
def schedBestUptoRow : OpenClaim := { program := "ytbkdglcedgiogaagreat", sum := "9942d0ac26c5571b4ade3a9c1c603602ab73f9af2bca003047d927e853dc222e", func := "trireme/triremelaw14.SchedBest", spec := "schedBest", unfollowed := true, recurses := true, apart := false, narrowed := true }
def SchedBestUptoSaid : Prop := schedBestUptoRow.holds Tryz.pinned (OpenSpec.upto schedBestSpec)

/-- 'triremelaw14.SchedSafe', WHERE WHAT IT READS IS OF BULK AT MOST 1048576: true; the input reads as it did. -/
def schedSafeUptoRow : OpenClaim := { program := "ytbkdglcedgiogaagreat", sum := "9942d0ac26c5571b4ade3a9c1c603602ab73f9af2bca003047d927e853dc222e", func := "trireme/triremelaw14.SchedSafe", spec := "schedSafe", unfollowed := true, recurses := true, apart := false, narrowed := true }
def SchedSafeUptoSaid : Prop := schedSafeUptoRow.holds Tryz.pinned (OpenSpec.upto schedSafeSpec)

/-- 'triremelaw20.OptionTells', WHERE WHAT IT READS IS OF BULK AT MOST 1048576: true; the input reads as it did. -/
def optionTellsUptoRow : OpenClaim := { program := "ytbkdglcedgiogaagreat", sum := "9942d0ac26c5571b4ade3a9c1c603602ab73f9af2bca003047d927e853dc222e", func := "trireme/triremelaw20.OptionTells", spec := "optionTells", unfollowed := true, recurses := true, named := ["math/bits.divideError", "math/bits.overflowError"], apart := false, narrowed := true }
def OptionTellsUptoSaid : Prop := optionTellsUptoRow.holds Tryz.pinned (OpenSpec.upto optionTellsSpec)

/-- 'triremelaw20.OptionWastes', WHERE WHAT IT READS IS OF BULK AT MOST 1048576: true; the input reads as it did. -/
def optionWastesUptoRow : OpenClaim := { program := "ytbkdglcedgiogaagreat", sum := "9942d0ac26c5571b4ade3a9c1c603602ab73f9af2bca003047d927e853dc222e", func := "trireme/triremelaw20.OptionWastes", spec := "optionWastes", unfollowed := true, recurses := true, named := ["math/bits.divideError", "math/bits.overflowError"], apart := false, narrowed := true }
def OptionWastesUptoSaid : Prop := optionWastesUptoRow.holds Tryz.pinned (OpenSpec.upto optionWastesSpec)

/-- 'triremelaw20.OptionOnce', WHERE WHAT IT READS IS OF BULK AT MOST 1048576: true; the input reads as it did. -/
def optionOnceUptoRow : OpenClaim := { program := "ytbkdglcedgiogaagreat", sum := "9942d0ac26c5571b4ade3a9c1c603602ab73f9af2bca003047d927e853dc222e", func := "trireme/triremelaw20.OptionOnce", spec := "optionOnce", unfollowed := true, recurses := true, named := ["math/bits.divideError", "math/bits.overflowError"], apart := false, narrowed := true }
def OptionOnceUptoSaid : Prop := optionOnceUptoRow.holds Tryz.pinned (OpenSpec.upto optionOnceSpec)

end Rows
end Go.Proofs.YtbkdglcedgiogaaGreat
