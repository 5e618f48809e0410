/-
  No cell of these rows narrows 'for every input' (looked for: loops, veiled, ifaces, maps, wideKeys, modest, calm, conditions, laid).
  DERIVED. THE GIVEN ROWS OF THIS SEAT. 6 by the template 'for every input the law returns true; each argument reads behind the call as it read before'; 0 by the template 'total and deterministic' (their statements: YtbgfffdnaijmhaaGreatTotals.lean).
  GIVEN WITH THE SEED: the statements are not yours to turn. If you find one false, say at which input.
  Laid BY PROGRAM, IN A SANDBOX (cutbox-rows.mjs): the forced cells as the released guide's own fill.sh prints them over the translation c8a94b3400241823… (all of the seat's roots in one cut). By AI agents, Wed Nov 11 2026. No macro, syntax, notation, axiom, sorry.
-/
import Derived.Test.YtbgfffdnaijmhaaGreatChecked
import GoSem.Claim
import GoSem.ClaimJoined
import GoSem.ClaimMapViews
import Derived.JoinedTies
import Derived.KernelRfl
namespace Go.Proofs.YtbgfffdnaijmhaaGreat
/- THE CELL 'sum', in the pinned program and in every row, IS THE sha256 OF THE DUMP (.gsa) THAT YtbgfffdnaijmhaaGreatProg.lean LOADS. Nothing in Lean hashes anything: it is a label: what it is worth is what the hold of that sum in a sandbox is worth. -/
noncomputable def Tryz.pinned : Pinned := { name := "ytbgfffdnaijmhaagreat", sum := "c8a94b340024182329b1cea08806f56cc5955c76d682a70b5511ce15e6b66fcc", checked := Tryz.checked }
namespace Rows
def none {H : Type} : Left H := { results := [], args := [] }

/-- 'triremelaw18.WorldNil': WHATEVER THE INPUT: true; the input reads as it did. -/
def worldNilSpec : ChangeSpec := { name := "worldNil", fn := fun _ => fun
  | [d] => { results := [.lit (.bool true)], args := [d] }
  | _ => none }
def worldNilRow : OpenClaim := { program := "ytbgfffdnaijmhaagreat", sum := "c8a94b340024182329b1cea08806f56cc5955c76d682a70b5511ce15e6b66fcc", func := "trireme/triremelaw18.WorldNil", spec := "worldNil", unfollowed := true, recurses := true, apart := false }
def WorldNilSaid : Prop := worldNilRow.holds Tryz.pinned (OpenSpec.ofChange worldNilSpec)

/-- ITS FALSE NEIGHBOUR: 'it returns false'. Refute it at one input. -/
def worldNilWrong : ChangeSpec := { name := "worldNil", fn := fun _ => fun
  | [d] => { results := [.lit (.bool false)], args := [d] }
  | _ => none }
def WorldNilWrongFalsely : Prop := worldNilRow.holds Tryz.pinned (OpenSpec.ofChange worldNilWrong)

/-- 'triremelaw18.WorldKeeps': WHATEVER THE INPUT: true; the input reads as it did. -/
def worldKeepsSpec : ChangeSpec := { name := "worldKeeps", fn := fun _ => fun
  | [d] => { results := [.lit (.bool true)], args := [d] }
  | _ => none }
def worldKeepsRow : OpenClaim := { program := "ytbgfffdnaijmhaagreat", sum := "c8a94b340024182329b1cea08806f56cc5955c76d682a70b5511ce15e6b66fcc", func := "trireme/triremelaw18.WorldKeeps", spec := "worldKeeps", unfollowed := true, recurses := true, apart := false }
def WorldKeepsSaid : Prop := worldKeepsRow.holds Tryz.pinned (OpenSpec.ofChange worldKeepsSpec)

/-- ITS FALSE NEIGHBOUR: 'it returns false'. Refute it at one input. -/
def worldKeepsWrong : ChangeSpec := { name := "worldKeeps", fn := fun _ => fun
  | [d] => { results := [.lit (.bool false)], args := [d] }
  | _ => none }
def WorldKeepsWrongFalsely : Prop := worldKeepsRow.holds Tryz.pinned (OpenSpec.ofChange worldKeepsWrong)

/-- 'triremelaw18.WorldPlays': WHATEVER THE INPUT: true; the input reads as it did. -/
def worldPlaysSpec : ChangeSpec := { name := "worldPlays", fn := fun _ => fun
  | [d] => { results := [.lit (.bool true)], args := [d] }
  | _ => none }
def worldPlaysRow : OpenClaim := { program := "ytbgfffdnaijmhaagreat", sum := "c8a94b340024182329b1cea08806f56cc5955c76d682a70b5511ce15e6b66fcc", func := "trireme/triremelaw18.WorldPlays", spec := "worldPlays", unfollowed := true, recurses := true, apart := false }
def WorldPlaysSaid : Prop := worldPlaysRow.holds Tryz.pinned (OpenSpec.ofChange worldPlaysSpec)

/-- ITS FALSE NEIGHBOUR: 'it returns false'. Refute it at one input. -/
def worldPlaysWrong : ChangeSpec := { name := "worldPlays", fn := fun _ => fun
  | [d] => { results := [.lit (.bool false)], args := [d] }
  | _ => none }
def WorldPlaysWrongFalsely : Prop := worldPlaysRow.holds Tryz.pinned (OpenSpec.ofChange worldPlaysWrong)

/-- 'triremelaw28.DrainOwn': WHATEVER THE INPUT: true; the input reads as it did. -/
def drainOwnSpec : ChangeSpec := { name := "drainOwn", fn := fun _ => fun
  | [d] => { results := [.lit (.bool true)], args := [d] }
  | _ => none }
def drainOwnRow : OpenClaim := { program := "ytbgfffdnaijmhaagreat", sum := "c8a94b340024182329b1cea08806f56cc5955c76d682a70b5511ce15e6b66fcc", func := "trireme/triremelaw28.DrainOwn", spec := "drainOwn", unfollowed := true, recurses := true, apart := false }
def DrainOwnSaid : Prop := drainOwnRow.holds Tryz.pinned (OpenSpec.ofChange drainOwnSpec)

/-- ITS FALSE NEIGHBOUR: 'it returns false'. Refute it at one input. -/
def drainOwnWrong : ChangeSpec := { name := "drainOwn", fn := fun _ => fun
  | [d] => { results := [.lit (.bool false)], args := [d] }
  | _ => none }
def DrainOwnWrongFalsely : Prop := drainOwnRow.holds Tryz.pinned (OpenSpec.ofChange drainOwnWrong)

/-- 'triremelaw28.DrainNil': WHATEVER THE INPUT: true; the input reads as it did. -/
def drainNilSpec : ChangeSpec := { name := "drainNil", fn := fun _ => fun
  | [d] => { results := [.lit (.bool true)], args := [d] }
  | _ => none }
def drainNilRow : OpenClaim := { program := "ytbgfffdnaijmhaagreat", sum := "c8a94b340024182329b1cea08806f56cc5955c76d682a70b5511ce15e6b66fcc", func := "trireme/triremelaw28.DrainNil", spec := "drainNil", unfollowed := true, recurses := true, apart := false }
def DrainNilSaid : Prop := drainNilRow.holds Tryz.pinned (OpenSpec.ofChange drainNilSpec)

/-- ITS FALSE NEIGHBOUR: 'it returns false'. Refute it at one input. -/
def drainNilWrong : ChangeSpec := { name := "drainNil", fn := fun _ => fun
  | [d] => { results := [.lit (.bool false)], args := [d] }
  | _ => none }
def DrainNilWrongFalsely : Prop := drainNilRow.holds Tryz.pinned (OpenSpec.ofChange drainNilWrong)

/-- 'triremelaw28.DrainPlays': WHATEVER THE INPUT: true; the input reads as it did. -/
def drainPlaysSpec : ChangeSpec := { name := "drainPlays", fn := fun _ => fun
  | [d] => { results := [.lit (.bool true)], args := [d] }
  | _ => none }
def drainPlaysRow : OpenClaim := { program := "ytbgfffdnaijmhaagreat", sum := "c8a94b340024182329b1cea08806f56cc5955c76d682a70b5511ce15e6b66fcc", func := "trireme/triremelaw28.DrainPlays", spec := "drainPlays", unfollowed := true, recurses := true, apart := false }
def DrainPlaysSaid : Prop := drainPlaysRow.holds Tryz.pinned (OpenSpec.ofChange drainPlaysSpec)

/-- ITS FALSE NEIGHBOUR: 'it returns false'. Refute it at one input. -/
def drainPlaysWrong : ChangeSpec := { name := "drainPlays", fn := fun _ => fun
  | [d] => { results := [.lit (.bool false)], args := [d] }
  | _ => none }
def DrainPlaysWrongFalsely : Prop := drainPlaysRow.holds Tryz.pinned (OpenSpec.ofChange drainPlaysWrong)

/- THE SECOND FORM. 'bulk': how many values and letters a reading holds, each counted each time it is reached (what is shared counts as often as it is met; a slice's spare places count too). A statement '..UptoSaid' is the law's where the arguments, and the package variables that the reading takes, are together of bulk at most 1048576: NARROWER than '..Said'. Prove '..Said' where nothing that the law and all that it calls make is longer than what came in: it says more and counts as full. Else prove '..UptoSaid'. A law counts once. -/
mutual
def uptoBulk {H : Type} : DataW H → Nat
  | .lit (.string bytes) => bytes.length + 1
  | .lit _ => 1
  | .nil => 1
  | .ptr d => uptoBulk d + 1
  | .slice elems spare => uptoBulkAll elems + uptoBulkAll spare + 1
  | .agg parts => uptoBulkAll parts + 1
  | .iface _ d => uptoBulk d + 1
  | .map entries => uptoBulkEntries entries + 1
  | .held _ => 1
def uptoBulkAll {H : Type} : List (DataW H) → Nat
  | [] => 0
  | d :: r => uptoBulk d + uptoBulkAll r
def uptoBulkEntries {H : Type} : List (Lit × DataW H) → Nat
  | [] => 0
  | x :: r => uptoBulkEntry x + uptoBulkEntries r
def uptoBulkEntry {H : Type} : Lit × DataW H → Nat
  | (.string bytes, d) => bytes.length + uptoBulk d + 1
  | (_, d) => uptoBulk d + 1
 end
def uptoSmall : (H : Type) → List (DataW H) → Bool := fun _ ds => decide (uptoBulkAll ds ≤ 1048576)
def OpenSpec.upto (s : _root_.Go.ChangeSpec) : _root_.Go.OpenSpec := { _root_.Go.OpenSpec.ofChange s with cond := some uptoSmall }

/-- 'triremelaw18.WorldNil', WHERE WHAT IT READS IS OF BULK AT MOST 1048576: true; the input reads as it did. -/
def worldNilUptoRow : OpenClaim := { program := "ytbgfffdnaijmhaagreat", sum := "c8a94b340024182329b1cea08806f56cc5955c76d682a70b5511ce15e6b66fcc", func := "trireme/triremelaw18.WorldNil", spec := "worldNil", unfollowed := true, recurses := true, apart := false, narrowed := true }
def WorldNilUptoSaid : Prop := worldNilUptoRow.holds Tryz.pinned (OpenSpec.upto worldNilSpec)

/-- 'triremelaw18.WorldKeeps', WHERE WHAT IT READS IS OF BULK AT MOST 1048576: true; the input reads as it did. -/
def worldKeepsUptoRow : OpenClaim := { program := "ytbgfffdnaijmhaagreat", sum := "c8a94b340024182329b1cea08806f56cc5955c76d682a70b5511ce15e6b66fcc", func := "trireme/triremelaw18.WorldKeeps", spec := "worldKeeps", unfollowed := true, recurses := true, apart := false, narrowed := true }
def WorldKeepsUptoSaid : Prop := worldKeepsUptoRow.holds Tryz.pinned (OpenSpec.upto worldKeepsSpec)

/-- 'triremelaw18.WorldPlays', WHERE WHAT IT READS IS OF BULK AT MOST 1048576: true; the input reads as it did. -/
def worldPlaysUptoRow : OpenClaim := { program := "ytbgfffdnaijmhaagreat", sum := "c8a94b340024182329b1cea08806f56cc5955c76d682a70b5511ce15e6b66fcc", func := "trireme/triremelaw18.WorldPlays", spec := "worldPlays", unfollowed := true, recurses := true, apart := false, narrowed := true }
def WorldPlaysUptoSaid : Prop := worldPlaysUptoRow.holds Tryz.pinned (OpenSpec.upto worldPlaysSpec)

/-- 'triremelaw28.DrainOwn', WHERE WHAT IT READS IS OF BULK AT MOST 1048576: true; the input reads as it did. -/
def drainOwnUptoRow : OpenClaim := { program := "ytbgfffdnaijmhaagreat", sum := "c8a94b340024182329b1cea08806f56cc5955c76d682a70b5511ce15e6b66fcc", func := "trireme/triremelaw28.DrainOwn", spec := "drainOwn", unfollowed := true, recurses := true, apart := false, narrowed := true }
def DrainOwnUptoSaid : Prop := drainOwnUptoRow.holds Tryz.pinned (OpenSpec.upto drainOwnSpec)

/-- 'triremelaw28.DrainNil', WHERE WHAT IT READS IS OF BULK AT MOST 1048576: true; the input reads as it did. -/
def drainNilUptoRow : OpenClaim := { program := "ytbgfffdnaijmhaagreat", sum := "c8a94b340024182329b1cea08806f56cc5955c76d682a70b5511ce15e6b66fcc", func := "trireme/triremelaw28.DrainNil", spec := "drainNil", unfollowed := true, recurses := true, apart := false, narrowed := true }
def DrainNilUptoSaid : Prop := drainNilUptoRow.holds Tryz.pinned (OpenSpec.upto drainNilSpec)

/-- 'triremelaw28.DrainPlays', WHERE WHAT IT READS IS OF BULK AT MOST 1048576: true; the input reads as it did. -/
def drainPlaysUptoRow : OpenClaim := { program := "ytbgfffdnaijmhaagreat", sum := "c8a94b340024182329b1cea08806f56cc5955c76d682a70b5511ce15e6b66fcc", func := "trireme/triremelaw28.DrainPlays", spec := "drainPlays", unfollowed := true, recurses := true, apart := false, narrowed := true }
def DrainPlaysUptoSaid : Prop := drainPlaysUptoRow.holds Tryz.pinned (OpenSpec.upto drainPlaysSpec)

end Rows
end Go.Proofs.YtbgfffdnaijmhaaGreat
