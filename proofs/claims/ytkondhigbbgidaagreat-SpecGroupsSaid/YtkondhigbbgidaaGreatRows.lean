/-
  No cell of these rows narrows 'for every input' (looked for: loops, veiled, ifaces, maps, wideKeys, modest, calm, conditions, laid).
  DERIVED. THE GIVEN ROWS OF THIS SEAT. 6 by the template 'for every input the law returns true; each argument reads behind the call as it read before'; 0 by the template 'total and deterministic' (their statements: YtkondhigbbgidaaGreatTotals.lean).
  GIVEN WITH THE SEED: the statements are not yours to turn. If you find one false, say at which input.
  Laid BY PROGRAM, IN A SANDBOX (cutbox-rows.mjs): the forced cells as the released guide's own fill.sh prints them over the translation 80718d44b42e32c4… (all of the seat's roots in one cut). By AI agents, Wed Nov 11 2026. No macro, syntax, notation, axiom, sorry.
-/
import Derived.Test.YtkondhigbbgidaaGreatChecked
import GoSem.Claim
import GoSem.ClaimJoined
import GoSem.ClaimMapViews
import Derived.JoinedTies
import Derived.KernelRfl
namespace Go.Proofs.YtkondhigbbgidaaGreat
/- THE CELL 'sum', in the pinned program and in every row, IS THE sha256 OF THE DUMP (.gsa) THAT YtkondhigbbgidaaGreatProg.lean LOADS. Nothing in Lean hashes anything: it is a label: what it is worth is what the hold of that sum in a sandbox is worth. -/
noncomputable def Tryz.pinned : Pinned := { name := "ytkondhigbbgidaagreat", sum := "80718d44b42e32c4de34584569f74ecd118dbb636fac2ea36a8fcc5f7e86cc59", checked := Tryz.checked }
namespace Rows
def none {H : Type} : Left H := { results := [], args := [] }

/-- 'triremelaw07.SpecPods': WHATEVER THE INPUT: true; the input reads as it did. -/
def specPodsSpec : ChangeSpec := { name := "specPods", fn := fun _ => fun
  | [d] => { results := [.lit (.bool true)], args := [d] }
  | _ => none }
def specPodsRow : OpenClaim := { program := "ytkondhigbbgidaagreat", sum := "80718d44b42e32c4de34584569f74ecd118dbb636fac2ea36a8fcc5f7e86cc59", func := "trireme/triremelaw07.SpecPods", spec := "specPods", unfollowed := true, recurses := true, named := ["math/bits.divideError", "math/bits.overflowError"], apart := false }
def SpecPodsSaid : Prop := specPodsRow.holds Tryz.pinned (OpenSpec.ofChange specPodsSpec)

/-- ITS FALSE NEIGHBOUR: 'it returns false'. Refute it at one input. -/
def specPodsWrong : ChangeSpec := { name := "specPods", fn := fun _ => fun
  | [d] => { results := [.lit (.bool false)], args := [d] }
  | _ => none }
def SpecPodsWrongFalsely : Prop := specPodsRow.holds Tryz.pinned (OpenSpec.ofChange specPodsWrong)

/-- 'triremelaw07.SpecMachines': WHATEVER THE INPUT: true; the input reads as it did. -/
def specMachinesSpec : ChangeSpec := { name := "specMachines", fn := fun _ => fun
  | [d] => { results := [.lit (.bool true)], args := [d] }
  | _ => none }
def specMachinesRow : OpenClaim := { program := "ytkondhigbbgidaagreat", sum := "80718d44b42e32c4de34584569f74ecd118dbb636fac2ea36a8fcc5f7e86cc59", func := "trireme/triremelaw07.SpecMachines", spec := "specMachines", unfollowed := true, recurses := true, named := ["math/bits.divideError", "math/bits.overflowError"], apart := false }
def SpecMachinesSaid : Prop := specMachinesRow.holds Tryz.pinned (OpenSpec.ofChange specMachinesSpec)

/-- ITS FALSE NEIGHBOUR: 'it returns false'. Refute it at one input. -/
def specMachinesWrong : ChangeSpec := { name := "specMachines", fn := fun _ => fun
  | [d] => { results := [.lit (.bool false)], args := [d] }
  | _ => none }
def SpecMachinesWrongFalsely : Prop := specMachinesRow.holds Tryz.pinned (OpenSpec.ofChange specMachinesWrong)

/-- 'triremelaw07.SpecGroups': WHATEVER THE INPUT: true; the input reads as it did. -/
def specGroupsSpec : ChangeSpec := { name := "specGroups", fn := fun _ => fun
  | [d] => { results := [.lit (.bool true)], args := [d] }
  | _ => none }
def specGroupsRow : OpenClaim := { program := "ytkondhigbbgidaagreat", sum := "80718d44b42e32c4de34584569f74ecd118dbb636fac2ea36a8fcc5f7e86cc59", func := "trireme/triremelaw07.SpecGroups", spec := "specGroups", unfollowed := true, recurses := true, named := ["math/bits.divideError", "math/bits.overflowError"], apart := false }
def SpecGroupsSaid : Prop := specGroupsRow.holds Tryz.pinned (OpenSpec.ofChange specGroupsSpec)

/-- ITS FALSE NEIGHBOUR: 'it returns false'. Refute it at one input. -/
def specGroupsWrong : ChangeSpec := { name := "specGroups", fn := fun _ => fun
  | [d] => { results := [.lit (.bool false)], args := [d] }
  | _ => none }
def SpecGroupsWrongFalsely : Prop := specGroupsRow.holds Tryz.pinned (OpenSpec.ofChange specGroupsWrong)

/-- 'triremelaw34.DumpShows': WHATEVER THE INPUT: true; the input reads as it did. -/
def dumpShowsSpec : ChangeSpec := { name := "dumpShows", fn := fun _ => fun
  | [d1, d2] => { results := [.lit (.bool true)], args := [d1, d2] }
  | _ => none }
def dumpShowsRow : OpenClaim := { program := "ytkondhigbbgidaagreat", sum := "80718d44b42e32c4de34584569f74ecd118dbb636fac2ea36a8fcc5f7e86cc59", func := "trireme/triremelaw34.DumpShows", spec := "dumpShows", unfollowed := true, recurses := true, named := ["math/bits.divideError", "math/bits.overflowError"], apart := false }
def DumpShowsSaid : Prop := dumpShowsRow.holds Tryz.pinned (OpenSpec.ofChange dumpShowsSpec)

/-- ITS FALSE NEIGHBOUR: 'it returns false'. Refute it at one input. -/
def dumpShowsWrong : ChangeSpec := { name := "dumpShows", fn := fun _ => fun
  | [d1, d2] => { results := [.lit (.bool false)], args := [d1, d2] }
  | _ => none }
def DumpShowsWrongFalsely : Prop := dumpShowsRow.holds Tryz.pinned (OpenSpec.ofChange dumpShowsWrong)

/-- 'triremelaw34.DumpParses': WHATEVER THE INPUT: true; the input reads as it did. -/
def dumpParsesSpec : ChangeSpec := { name := "dumpParses", fn := fun _ => fun
  | [d] => { results := [.lit (.bool true)], args := [d] }
  | _ => none }
def dumpParsesRow : OpenClaim := { program := "ytkondhigbbgidaagreat", sum := "80718d44b42e32c4de34584569f74ecd118dbb636fac2ea36a8fcc5f7e86cc59", func := "trireme/triremelaw34.DumpParses", spec := "dumpParses", unfollowed := true, recurses := true, named := ["math/bits.divideError", "math/bits.overflowError"], apart := false }
def DumpParsesSaid : Prop := dumpParsesRow.holds Tryz.pinned (OpenSpec.ofChange dumpParsesSpec)

/-- ITS FALSE NEIGHBOUR: 'it returns false'. Refute it at one input. -/
def dumpParsesWrong : ChangeSpec := { name := "dumpParses", fn := fun _ => fun
  | [d] => { results := [.lit (.bool false)], args := [d] }
  | _ => none }
def DumpParsesWrongFalsely : Prop := dumpParsesRow.holds Tryz.pinned (OpenSpec.ofChange dumpParsesWrong)

/-- 'triremelaw34.DumpDiffers': WHATEVER THE INPUT: true; the input reads as it did. -/
def dumpDiffersSpec : ChangeSpec := { name := "dumpDiffers", fn := fun _ => fun
  | [d] => { results := [.lit (.bool true)], args := [d] }
  | _ => none }
def dumpDiffersRow : OpenClaim := { program := "ytkondhigbbgidaagreat", sum := "80718d44b42e32c4de34584569f74ecd118dbb636fac2ea36a8fcc5f7e86cc59", func := "trireme/triremelaw34.DumpDiffers", spec := "dumpDiffers", unfollowed := true, recurses := true, named := ["math/bits.divideError", "math/bits.overflowError"], apart := false }
def DumpDiffersSaid : Prop := dumpDiffersRow.holds Tryz.pinned (OpenSpec.ofChange dumpDiffersSpec)

/-- ITS FALSE NEIGHBOUR: 'it returns false'. Refute it at one input. -/
def dumpDiffersWrong : ChangeSpec := { name := "dumpDiffers", fn := fun _ => fun
  | [d] => { results := [.lit (.bool false)], args := [d] }
  | _ => none }
def DumpDiffersWrongFalsely : Prop := dumpDiffersRow.holds Tryz.pinned (OpenSpec.ofChange dumpDiffersWrong)

/- THE SECOND FORM. 'bulk': how many values and letters a reading holds, each counted each time it is reached (what is shared counts as often as it is met; a slice's spare places count too). A statement '..UptoSaid' is the law's where the arguments, and the package variables that the reading takes, are together of bulk at most 1048576: NARROWER than '..Said'. Prove '..Said' where nothing that the law and all that it calls make is longer than what came in: it says more and counts as full. Else prove '..UptoSaid'. A law counts once. -/
mutual
def uptoBulk {H : Type} : DataW H → Nat
  | .lit (.string bytes) => bytes.length + 1
  | .lit _ => 1
  | .nil => 1
  | .ptr d => uptoBulk d + 1
  | .slice elems spare => uptoBulkAll elems + uptoBulkAll spare + 1
  | .agg parts => uptoBulkAll parts + 1
  | .iface _ d => uptoBulk d + 1
  | .map entries => uptoBulkEntries entries + 1
  | .held _ => 1
def uptoBulkAll {H : Type} : List (DataW H) → Nat
  | [] => 0
  | d :: r => uptoBulk d + uptoBulkAll r
def uptoBulkEntries {H : Type} : List (Lit × DataW H) → Nat
  | [] => 0
  | x :: r => uptoBulkEntry x + uptoBulkEntries r
def uptoBulkEntry {H : Type} : Lit × DataW H → Nat
  | (.string bytes, d) => bytes.length + uptoBulk d + 1
  | (_, d) => uptoBulk d + 1
 end
def uptoSmall : (H : Type) → List (DataW H) → Bool := fun _ ds => decide (uptoBulkAll ds ≤ 1048576)
def OpenSpec.upto (s : _root_.Go.ChangeSpec) : _root_.Go.OpenSpec := { _root_.Go.OpenSpec.ofChange s with cond := some uptoSmall }

/-- 'triremelaw07.SpecPods', WHERE WHAT IT READS IS OF BULK AT MOST 1048576: true; the input reads as it did. -/
def specPodsUptoRow : OpenClaim := { program := "ytkondhigbbgidaagreat", sum := "80718d44b42e32c4de34584569f74ecd118dbb636fac2ea36a8fcc5f7e86cc59", func := "trireme/triremelaw07.SpecPods", spec := "specPods", unfollowed := true, recurses := true, named := ["math/bits.divideError", "math/bits.overflowError"], apart := false, narrowed := true }
def SpecPodsUptoSaid : Prop := specPodsUptoRow.holds Tryz.pinned (OpenSpec.upto specPodsSpec)

/-- 'triremelaw07.SpecMachines', WHERE WHAT IT READS IS OF BULK AT MOST 1048576: true; the input reads as it did. -/
def specMachinesUptoRow : OpenClaim := { program := "ytkondhigbbgidaagreat", sum := "80718d44b42e32c4de34584569f74ecd118dbb636fac2ea36a8fcc5f7e86cc59", func := "trireme/triremelaw07.SpecMachines", spec := "specMachines", unfollowed := true, recurses := true, named := ["math/bits.divideError", "math/bits.overflowError"], apart := false, narrowed := true }
def SpecMachinesUptoSaid : Prop := specMachinesUptoRow.holds Tryz.pinned (OpenSpec.upto specMachinesSpec)

/-- 'triremelaw07.SpecGroups', WHERE WHAT IT READS IS OF BULK AT MOST 1048576: true; the input reads as it did. -/
def specGroupsUptoRow : OpenClaim := { program := "ytkondhigbbgidaagreat", sum := "80718d44b42e32c4de34584569f74ecd118dbb636fac2ea36a8fcc5f7e86cc59", func := "trireme/triremelaw07.SpecGroups", spec := "specGroups", unfollowed := true, recurses := true, named := ["math/bits.divideError", "math/bits.overflowError"], apart := false, narrowed := true }
def SpecGroupsUptoSaid : Prop := specGroupsUptoRow.holds Tryz.pinned (OpenSpec.upto specGroupsSpec)

/-- 'triremelaw34.DumpShows', WHERE WHAT IT READS IS OF BULK AT MOST 1048576: true; the input reads as it did. -/
def dumpShowsUptoRow : OpenClaim := { program := "ytkondhigbbgidaagreat", sum := "80718d44b42e32c4de34584569f74ecd118dbb636fac2ea36a8fcc5f7e86cc59", func := "trireme/triremelaw34.DumpShows", spec := "dumpShows", unfollowed := true, recurses := true, named := ["math/bits.divideError", "math/bits.overflowError"], apart := false, narrowed := true }
def DumpShowsUptoSaid : Prop := dumpShowsUptoRow.holds Tryz.pinned (OpenSpec.upto dumpShowsSpec)

/-- 'triremelaw34.DumpParses', WHERE WHAT IT READS IS OF BULK AT MOST 1048576: true; the input reads as it did. -/
def dumpParsesUptoRow : OpenClaim := { program := "ytkondhigbbgidaagreat", sum := "80718d44b42e32c4de34584569f74ecd118dbb636fac2ea36a8fcc5f7e86cc59", func := "trireme/triremelaw34.DumpParses", spec := "dumpParses", unfollowed := true, recurses := true, named := ["math/bits.divideError", "math/bits.overflowError"], apart := false, narrowed := true }
def DumpParsesUptoSaid : Prop := dumpParsesUptoRow.holds Tryz.pinned (OpenSpec.upto dumpParsesSpec)

/-- 'triremelaw34.DumpDiffers', WHERE WHAT IT READS IS OF BULK AT MOST 1048576: true; the input reads as it did. -/
def dumpDiffersUptoRow : OpenClaim := { program := "ytkondhigbbgidaagreat", sum := "80718d44b42e32c4de34584569f74ecd118dbb636fac2ea36a8fcc5f7e86cc59", func := "trireme/triremelaw34.DumpDiffers", spec := "dumpDiffers", unfollowed := true, recurses := true, named := ["math/bits.divideError", "math/bits.overflowError"], apart := false, narrowed := true }
def DumpDiffersUptoSaid : Prop := dumpDiffersUptoRow.holds Tryz.pinned (OpenSpec.upto dumpDiffersSpec)

end Rows
end Go.Proofs.YtkondhigbbgidaaGreat
