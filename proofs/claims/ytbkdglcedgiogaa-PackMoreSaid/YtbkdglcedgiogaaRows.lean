/-
  No cell of these rows narrows 'for every input' (looked for: loops, veiled, ifaces, maps, wideKeys, modest, calm, conditions, laid).
  DERIVED. THE GIVEN ROWS OF THIS SEAT. 2 by the template 'for every input the law returns true; each argument reads behind the call as it read before'; 0 by the template 'total and deterministic' (their statements: YtbkdglcedgiogaaTotals.lean).
  GIVEN WITH THE SEED: the statements are not yours to turn. If you find one false, say at which input.
  Laid BY PROGRAM, IN A SANDBOX (cutbox-rows.mjs): the forced cells as the released guide's own fill.sh prints them over the translation edb8d7953d0dfd70… (all of the seat's roots in one cut). By AI agents, Wed Nov 11 2026. No macro, syntax, notation, axiom, sorry.
-/
import Derived.Test.YtbkdglcedgiogaaChecked
import GoSem.Claim
import GoSem.ClaimJoined
import GoSem.ClaimMapViews
import Derived.JoinedTies
import Derived.KernelRfl
namespace Go.Proofs.Ytbkdglcedgiogaa
/- THE CELL 'sum', in the pinned program and in every row, IS THE sha256 OF THE DUMP (.gsa) THAT YtbkdglcedgiogaaProg.lean LOADS. Nothing in Lean hashes anything: it is a label: what it is worth is what the hold of that sum in a sandbox is worth. -/
noncomputable def Try.pinned : Pinned := { name := "ytbkdglcedgiogaa", sum := "edb8d7953d0dfd7061cb2c849410c1ee9c7371ce360d93b3b6384057dfa67b65", checked := Try.checked }
namespace Rows
def none {H : Type} : Left H := { results := [], args := [] }

/-- 'triremelaw19.PackMore': WHATEVER THE INPUT: true; the input reads as it did. -/
def packMoreSpec : ChangeSpec := { name := "packMore", fn := fun _ => fun
  | [d1, d2] => { results := [.lit (.bool true)], args := [d1, d2] }
  | _ => none }
def packMoreRow : OpenClaim := { program := "ytbkdglcedgiogaa", sum := "edb8d7953d0dfd7061cb2c849410c1ee9c7371ce360d93b3b6384057dfa67b65", func := "trireme/triremelaw19.PackMore", spec := "packMore", unfollowed := true, recurses := true, apart := false }
def PackMoreSaid : Prop := packMoreRow.holds Try.pinned (OpenSpec.ofChange packMoreSpec)

/-- ITS FALSE NEIGHBOUR: 'it returns false'. Refute it at one input. -/
def packMoreWrong : ChangeSpec := { name := "packMore", fn := fun _ => fun
  | [d1, d2] => { results := [.lit (.bool false)], args := [d1, d2] }
  | _ => none }
def PackMoreWrongFalsely : Prop := packMoreRow.holds Try.pinned (OpenSpec.ofChange packMoreWrong)

/-- 'triremelaw14.SchedCount': WHATEVER THE INPUT: true; the input reads as it did. -/
def schedCountSpec : ChangeSpec := { name := "schedCount", fn := fun _ => fun
  | [d1, d2] => { results := [.lit (.bool true)], args := [d1, d2] }
  | _ => none }
def schedCountRow : OpenClaim := { program := "ytbkdglcedgiogaa", sum := "edb8d7953d0dfd7061cb2c849410c1ee9c7371ce360d93b3b6384057dfa67b65", func := "trireme/triremelaw14.SchedCount", spec := "schedCount", unfollowed := true, recurses := true, apart := false }
def SchedCountSaid : Prop := schedCountRow.holds Try.pinned (OpenSpec.ofChange schedCountSpec)

/-- ITS FALSE NEIGHBOUR: 'it returns false'. Refute it at one input. -/
def schedCountWrong : ChangeSpec := { name := "schedCount", fn := fun _ => fun
  | [d1, d2] => { results := [.lit (.bool false)], args := [d1, d2] }
  | _ => none }
def SchedCountWrongFalsely : Prop := schedCountRow.holds Try.pinned (OpenSpec.ofChange schedCountWrong)

/- THE SECOND FORM. 'bulk': how many values and letters a reading holds, each counted each time it is reached (what is shared counts as often as it is met; a slice's spare places count too). A statement '..UptoSaid' is the law's where the arguments, and the package variables that the reading takes, are together of bulk at most 1048576: NARROWER than '..Said'. Prove '..Said' where nothing that the law and all that it calls make is longer than what came in: it says more and counts as full. Else prove '..UptoSaid'. A law counts once. -/
mutual
def uptoBulk {H : Type} : DataW H → Nat
  | .lit (.string bytes) => bytes.length + 1
  | .lit _ => 1
  | .nil => 1
  | .ptr d => uptoBulk d + 1
  | .slice elems spare => uptoBulkAll elems + uptoBulkAll spare + 1
  | .agg parts => uptoBulkAll parts + 1
  | .iface _ d => uptoBulk d + 1
  | .map entries => uptoBulkEntries entries + 1
  | .held _ => 1
def uptoBulkAll {H : Type} : List (DataW H) → Nat
  | [] => 0
  | d :: r => uptoBulk d + uptoBulkAll r
def uptoBulkEntries {H : Type} : List (Lit × DataW H) → Nat
  | [] => 0
  | x :: r => uptoBulkEntry x + uptoBulkEntries r
def uptoBulkEntry {H : Type} : Lit × DataW H → Nat
  | (.string bytes, d) => bytes.length + uptoBulk d + 1
  | (_, d) => uptoBulk d + 1
 end
def uptoSmall : (H : Type) → List (DataW H) → Bool := fun _ ds => decide (uptoBulkAll ds ≤ 1048576)
def OpenSpec.upto (s : _root_.Go.ChangeSpec) : _root_.Go.OpenSpec := { _root_.Go.OpenSpec.ofChange s with cond := some uptoSmall }

/-- 'triremelaw19.PackMore', WHERE WHAT IT READS IS OF BULK AT MOST 1048576: true; the input reads as it did. -/
def packMoreUptoRow : OpenClaim := { program := "ytbkdglcedgiogaa", sum := "edb8d7953d0dfd7061cb2c849410c1ee9c7371ce360d93b3b6384057dfa67b65", func := "trireme/triremelaw19.PackMore", spec := "packMore", unfollowed := true, recurses := true, apart := false, narrowed := true }
def PackMoreUptoSaid : Prop := packMoreUptoRow.holds Try.pinned (OpenSpec.upto packMoreSpec)

/-- 'triremelaw14.SchedCount', WHERE WHAT IT READS IS OF BULK AT MOST 1048576: true; the input reads as it did. -/
def schedCountUptoRow : OpenClaim := { program := "ytbkdglcedgiogaa", sum := "edb8d7953d0dfd7061cb2c849410c1ee9c7371ce360d93b3b6384057dfa67b65", func := "trireme/triremelaw14.SchedCount", spec := "schedCount", unfollowed := true, recurses := true, apart := false, narrowed := true }
def SchedCountUptoSaid : Prop := schedCountUptoRow.holds Try.pinned (OpenSpec.upto schedCountSpec)

end Rows
end Go.Proofs.Ytbkdglcedgiogaa
