/-
  No cell of these rows narrows 'for every input' (looked for: loops, veiled, ifaces, maps, wideKeys, modest, calm, conditions, laid).
  DERIVED. THE GIVEN ROWS OF THIS SEAT. 8 by the template 'for every input the law returns true; each argument reads behind the call as it read before'; 0 by the template 'total and deterministic' (their statements: YtmpkpnclmihdnaaGreatTotals.lean).
  GIVEN WITH THE SEED: the statements are not yours to turn. If you find one false, say at which input.
  Laid BY PROGRAM, IN A SANDBOX (cutbox-rows.mjs): the forced cells as the released guide's own fill.sh prints them over the translation 468128dc658140f8… (all of the seat's roots in one cut). By AI agents, Wed Nov 11 2026. No macro, syntax, notation, axiom, sorry.
-/
import Derived.Test.YtmpkpnclmihdnaaGreatChecked
import GoSem.Claim
import GoSem.ClaimJoined
import GoSem.ClaimMapViews
import Derived.JoinedTies
import Derived.KernelRfl
namespace Go.Proofs.YtmpkpnclmihdnaaGreat
/- THE CELL 'sum', in the pinned program and in every row, IS THE sha256 OF THE DUMP (.gsa) THAT YtmpkpnclmihdnaaGreatProg.lean LOADS. Nothing in Lean hashes anything: it is a label: what it is worth is what the hold of that sum in a sandbox is worth. -/
noncomputable def Tryz.pinned : Pinned := { name := "ytmpkpnclmihdnaagreat", sum := "468128dc658140f87603ccb914346069d468a21f48fed76f0ecabbefebbb712c", checked := Tryz.checked }
namespace Rows
def none {H : Type} : Left H := { results := [], args := [] }

/-- 'triremelaw26.PlanTells': WHATEVER THE INPUT: true; the input reads as it did. -/
def planTellsSpec : ChangeSpec := { name := "planTells", fn := fun _ => fun
  | [d] => { results := [.lit (.bool true)], args := [d] }
  | _ => none }
def planTellsRow : OpenClaim := { program := "ytmpkpnclmihdnaagreat", sum := "468128dc658140f87603ccb914346069d468a21f48fed76f0ecabbefebbb712c", func := "trireme/triremelaw26.PlanTells", spec := "planTells", unfollowed := true, recurses := true, apart := false }
def PlanTellsSaid : Prop := planTellsRow.holds Tryz.pinned (OpenSpec.ofChange planTellsSpec)

/-- ITS FALSE NEIGHBOUR: 'it returns false'. Refute it at one input. -/
def planTellsWrong : ChangeSpec := { name := "planTells", fn := fun _ => fun
  | [d] => { results := [.lit (.bool false)], args := [d] }
  | _ => none }
def PlanTellsWrongFalsely : Prop := planTellsRow.holds Tryz.pinned (OpenSpec.ofChange planTellsWrong)

/-- 'triremelaw26.PlanSafe': WHATEVER THE INPUT: true; the input reads as it did. -/
def planSafeSpec : ChangeSpec := { name := "planSafe", fn := fun _ => fun
  | [d] => { results := [.lit (.bool true)], args := [d] }
  | _ => none }
def planSafeRow : OpenClaim := { program := "ytmpkpnclmihdnaagreat", sum := "468128dc658140f87603ccb914346069d468a21f48fed76f0ecabbefebbb712c", func := "trireme/triremelaw26.PlanSafe", spec := "planSafe", unfollowed := true, recurses := true, apart := false }
def PlanSafeSaid : Prop := planSafeRow.holds Tryz.pinned (OpenSpec.ofChange planSafeSpec)

/-- ITS FALSE NEIGHBOUR: 'it returns false'. Refute it at one input. -/
def planSafeWrong : ChangeSpec := { name := "planSafe", fn := fun _ => fun
  | [d] => { results := [.lit (.bool false)], args := [d] }
  | _ => none }
def PlanSafeWrongFalsely : Prop := planSafeRow.holds Tryz.pinned (OpenSpec.ofChange planSafeWrong)

/-- 'triremelaw26.PlanBarred': WHATEVER THE INPUT: true; the input reads as it did. -/
def planBarredSpec : ChangeSpec := { name := "planBarred", fn := fun _ => fun
  | [d] => { results := [.lit (.bool true)], args := [d] }
  | _ => none }
def planBarredRow : OpenClaim := { program := "ytmpkpnclmihdnaagreat", sum := "468128dc658140f87603ccb914346069d468a21f48fed76f0ecabbefebbb712c", func := "trireme/triremelaw26.PlanBarred", spec := "planBarred", unfollowed := true, recurses := true, apart := false }
def PlanBarredSaid : Prop := planBarredRow.holds Tryz.pinned (OpenSpec.ofChange planBarredSpec)

/-- ITS FALSE NEIGHBOUR: 'it returns false'. Refute it at one input. -/
def planBarredWrong : ChangeSpec := { name := "planBarred", fn := fun _ => fun
  | [d] => { results := [.lit (.bool false)], args := [d] }
  | _ => none }
def PlanBarredWrongFalsely : Prop := planBarredRow.holds Tryz.pinned (OpenSpec.ofChange planBarredWrong)

/-- 'triremelaw26.PlanMost': WHATEVER THE INPUT: true; the input reads as it did. -/
def planMostSpec : ChangeSpec := { name := "planMost", fn := fun _ => fun
  | [d] => { results := [.lit (.bool true)], args := [d] }
  | _ => none }
def planMostRow : OpenClaim := { program := "ytmpkpnclmihdnaagreat", sum := "468128dc658140f87603ccb914346069d468a21f48fed76f0ecabbefebbb712c", func := "trireme/triremelaw26.PlanMost", spec := "planMost", unfollowed := true, recurses := true, apart := false }
def PlanMostSaid : Prop := planMostRow.holds Tryz.pinned (OpenSpec.ofChange planMostSpec)

/-- ITS FALSE NEIGHBOUR: 'it returns false'. Refute it at one input. -/
def planMostWrong : ChangeSpec := { name := "planMost", fn := fun _ => fun
  | [d] => { results := [.lit (.bool false)], args := [d] }
  | _ => none }
def PlanMostWrongFalsely : Prop := planMostRow.holds Tryz.pinned (OpenSpec.ofChange planMostWrong)

/-- 'triremelaw13.SnapPlays': WHATEVER THE INPUT: true; the input reads as it did. -/
def snapPlaysSpec : ChangeSpec := { name := "snapPlays", fn := fun _ => fun
  | [d1, d2, d3] => { results := [.lit (.bool true)], args := [d1, d2, d3] }
  | _ => none }
def snapPlaysRow : OpenClaim := { program := "ytmpkpnclmihdnaagreat", sum := "468128dc658140f87603ccb914346069d468a21f48fed76f0ecabbefebbb712c", func := "trireme/triremelaw13.SnapPlays", spec := "snapPlays", unfollowed := true, recurses := true, apart := false }
def SnapPlaysSaid : Prop := snapPlaysRow.holds Tryz.pinned (OpenSpec.ofChange snapPlaysSpec)

/-- ITS FALSE NEIGHBOUR: 'it returns false'. Refute it at one input. -/
def snapPlaysWrong : ChangeSpec := { name := "snapPlays", fn := fun _ => fun
  | [d1, d2, d3] => { results := [.lit (.bool false)], args := [d1, d2, d3] }
  | _ => none }
def SnapPlaysWrongFalsely : Prop := snapPlaysRow.holds Tryz.pinned (OpenSpec.ofChange snapPlaysWrong)

/-- 'triremelaw13.SnapBack': WHATEVER THE INPUT: true; the input reads as it did. -/
def snapBackSpec : ChangeSpec := { name := "snapBack", fn := fun _ => fun
  | [d1, d2, d3] => { results := [.lit (.bool true)], args := [d1, d2, d3] }
  | _ => none }
def snapBackRow : OpenClaim := { program := "ytmpkpnclmihdnaagreat", sum := "468128dc658140f87603ccb914346069d468a21f48fed76f0ecabbefebbb712c", func := "trireme/triremelaw13.SnapBack", spec := "snapBack", unfollowed := true, recurses := true, apart := false }
def SnapBackSaid : Prop := snapBackRow.holds Tryz.pinned (OpenSpec.ofChange snapBackSpec)

/-- ITS FALSE NEIGHBOUR: 'it returns false'. Refute it at one input. -/
def snapBackWrong : ChangeSpec := { name := "snapBack", fn := fun _ => fun
  | [d1, d2, d3] => { results := [.lit (.bool false)], args := [d1, d2, d3] }
  | _ => none }
def SnapBackWrongFalsely : Prop := snapBackRow.holds Tryz.pinned (OpenSpec.ofChange snapBackWrong)

/-- 'triremelaw13.SnapNil': WHATEVER THE INPUT: true; the input reads as it did. -/
def snapNilSpec : ChangeSpec := { name := "snapNil", fn := fun _ => fun
  | [d1, d2, d3] => { results := [.lit (.bool true)], args := [d1, d2, d3] }
  | _ => none }
def snapNilRow : OpenClaim := { program := "ytmpkpnclmihdnaagreat", sum := "468128dc658140f87603ccb914346069d468a21f48fed76f0ecabbefebbb712c", func := "trireme/triremelaw13.SnapNil", spec := "snapNil", unfollowed := true, recurses := true, apart := false }
def SnapNilSaid : Prop := snapNilRow.holds Tryz.pinned (OpenSpec.ofChange snapNilSpec)

/-- ITS FALSE NEIGHBOUR: 'it returns false'. Refute it at one input. -/
def snapNilWrong : ChangeSpec := { name := "snapNil", fn := fun _ => fun
  | [d1, d2, d3] => { results := [.lit (.bool false)], args := [d1, d2, d3] }
  | _ => none }
def SnapNilWrongFalsely : Prop := snapNilRow.holds Tryz.pinned (OpenSpec.ofChange snapNilWrong)

/-- 'triremelaw13.SnapCommit': WHATEVER THE INPUT: true; the input reads as it did. -/
def snapCommitSpec : ChangeSpec := { name := "snapCommit", fn := fun _ => fun
  | [d1, d2, d3] => { results := [.lit (.bool true)], args := [d1, d2, d3] }
  | _ => none }
def snapCommitRow : OpenClaim := { program := "ytmpkpnclmihdnaagreat", sum := "468128dc658140f87603ccb914346069d468a21f48fed76f0ecabbefebbb712c", func := "trireme/triremelaw13.SnapCommit", spec := "snapCommit", unfollowed := true, recurses := true, apart := false }
def SnapCommitSaid : Prop := snapCommitRow.holds Tryz.pinned (OpenSpec.ofChange snapCommitSpec)

/-- ITS FALSE NEIGHBOUR: 'it returns false'. Refute it at one input. -/
def snapCommitWrong : ChangeSpec := { name := "snapCommit", fn := fun _ => fun
  | [d1, d2, d3] => { results := [.lit (.bool false)], args := [d1, d2, d3] }
  | _ => none }
def SnapCommitWrongFalsely : Prop := snapCommitRow.holds Tryz.pinned (OpenSpec.ofChange snapCommitWrong)

/- THE SECOND FORM. 'bulk': how many values and letters a reading holds, each counted each time it is reached (what is shared counts as often as it is met; a slice's spare places count too). A statement '..UptoSaid' is the law's where the arguments, and the package variables that the reading takes, are together of bulk at most 1048576: NARROWER than '..Said'. Prove '..Said' where nothing that the law and all that it calls make is longer than what came in: it says more and counts as full. Else prove '..UptoSaid'. A law counts once. -/
mutual
def uptoBulk {H : Type} : DataW H → Nat
  | .lit (.string bytes) => bytes.length + 1
  | .lit _ => 1
  | .nil => 1
  | .ptr d => uptoBulk d + 1
  | .slice elems spare => uptoBulkAll elems + uptoBulkAll spare + 1
  | .agg parts => uptoBulkAll parts + 1
  | .iface _ d => uptoBulk d + 1
  | .map entries => uptoBulkEntries entries + 1
  | .held _ => 1
def uptoBulkAll {H : Type} : List (DataW H) → Nat
  | [] => 0
  | d :: r => uptoBulk d + uptoBulkAll r
def uptoBulkEntries {H : Type} : List (Lit × DataW H) → Nat
  | [] => 0
  | x :: r => uptoBulkEntry x + uptoBulkEntries r
def uptoBulkEntry {H : Type} : Lit × DataW H → Nat
  | (.string bytes, d) => bytes.length + uptoBulk d + 1
  | (_, d) => uptoBulk d + 1
 end
def uptoSmall : (H : Type) → List (DataW H) → Bool := fun _ ds => decide (uptoBulkAll ds ≤ 1048576)
def OpenSpec.upto (s : _root_.Go.ChangeSpec) : _root_.Go.OpenSpec := { _root_.Go.OpenSpec.ofChange s with cond := some uptoSmall }

/-- 'triremelaw26.PlanTells', WHERE WHAT IT READS IS OF BULK AT MOST 1048576: true; the input reads as it did. -/
def planTellsUptoRow : OpenClaim := { program := "ytmpkpnclmihdnaagreat", sum := "468128dc658140f87603ccb914346069d468a21f48fed76f0ecabbefebbb712c", func := "trireme/triremelaw26.PlanTells", spec := "planTells", unfollowed := true, recurses := true, apart := false, narrowed := true }
def PlanTellsUptoSaid : Prop := planTellsUptoRow.holds Tryz.pinned (OpenSpec.upto planTellsSpec)

/-- 'triremelaw26.PlanSafe', WHERE WHAT IT READS IS OF BULK AT MOST 1048576: true; the input reads as it did. -/
def planSafeUptoRow : OpenClaim := { program := "ytmpkpnclmihdnaagreat", sum := "468128dc658140f87603ccb914346069d468a21f48fed76f0ecabbefebbb712c", func := "trireme/triremelaw26.PlanSafe", spec := "planSafe", unfollowed := true, recurses := true, apart := false, narrowed := true }
def PlanSafeUptoSaid : Prop := planSafeUptoRow.holds Tryz.pinned (OpenSpec.upto planSafeSpec)

/-- 'triremelaw26.PlanBarred', WHERE WHAT IT READS IS OF BULK AT MOST 1048576: true; the input reads as it did. -/
def planBarredUptoRow : OpenClaim := { program := "ytmpkpnclmihdnaagreat", sum := "468128dc658140f87603ccb914346069d468a21f48fed76f0ecabbefebbb712c", func := "trireme/triremelaw26.PlanBarred", spec := "planBarred", unfollowed := true, recurses := true, apart := false, narrowed := true }
def PlanBarredUptoSaid : Prop := planBarredUptoRow.holds Tryz.pinned (OpenSpec.upto planBarredSpec)

/-- 'triremelaw26.PlanMost', WHERE WHAT IT READS IS OF BULK AT MOST 1048576: true; the input reads as it did. -/
def planMostUptoRow : OpenClaim := { program := "ytmpkpnclmihdnaagreat", sum := "468128dc658140f87603ccb914346069d468a21f48fed76f0ecabbefebbb712c", func := "trireme/triremelaw26.PlanMost", spec := "planMost", unfollowed := true, recurses := true, apart := false, narrowed := true }
def PlanMostUptoSaid : Prop := planMostUptoRow.holds Tryz.pinned (OpenSpec.upto planMostSpec)

/-- 'triremelaw13.SnapPlays', WHERE WHAT IT READS IS OF BULK AT MOST 1048576: true; the input reads as it did. -/
def snapPlaysUptoRow : OpenClaim := { program := "ytmpkpnclmihdnaagreat", sum := "468128dc658140f87603ccb914346069d468a21f48fed76f0ecabbefebbb712c", func := "trireme/triremelaw13.SnapPlays", spec := "snapPlays", unfollowed := true, recurses := true, apart := false, narrowed := true }
def SnapPlaysUptoSaid : Prop := snapPlaysUptoRow.holds Tryz.pinned (OpenSpec.upto snapPlaysSpec)

/-- 'triremelaw13.SnapBack', WHERE WHAT IT READS IS OF BULK AT MOST 1048576: true; the input reads as it did. -/
def snapBackUptoRow : OpenClaim := { program := "ytmpkpnclmihdnaagreat", sum := "468128dc658140f87603ccb914346069d468a21f48fed76f0ecabbefebbb712c", func := "trireme/triremelaw13.SnapBack", spec := "snapBack", unfollowed := true, recurses := true, apart := false, narrowed := true }
def SnapBackUptoSaid : Prop := snapBackUptoRow.holds Tryz.pinned (OpenSpec.upto snapBackSpec)

/-- 'triremelaw13.SnapNil', WHERE WHAT IT READS IS OF BULK AT MOST 1048576: true; the input reads as it did. -/
def snapNilUptoRow : OpenClaim := { program := "ytmpkpnclmihdnaagreat", sum := "468128dc658140f87603ccb914346069d468a21f48fed76f0ecabbefebbb712c", func := "trireme/triremelaw13.SnapNil", spec := "snapNil", unfollowed := true, recurses := true, apart := false, narrowed := true }
def SnapNilUptoSaid : Prop := snapNilUptoRow.holds Tryz.pinned (OpenSpec.upto snapNilSpec)

/-- 'triremelaw13.SnapCommit', WHERE WHAT IT READS IS OF BULK AT MOST 1048576: true; the input reads as it did. -/
def snapCommitUptoRow : OpenClaim := { program := "ytmpkpnclmihdnaagreat", sum := "468128dc658140f87603ccb914346069d468a21f48fed76f0ecabbefebbb712c", func := "trireme/triremelaw13.SnapCommit", spec := "snapCommit", unfollowed := true, recurses := true, apart := false, narrowed := true }
def SnapCommitUptoSaid : Prop := snapCommitUptoRow.holds Tryz.pinned (OpenSpec.upto snapCommitSpec)

end Rows
end Go.Proofs.YtmpkpnclmihdnaaGreat
