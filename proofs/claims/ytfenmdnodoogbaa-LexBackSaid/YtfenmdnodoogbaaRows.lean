/-
  No cell of these rows narrows 'for every input' (looked for: loops, veiled, ifaces, maps, wideKeys, modest, calm, conditions, laid).
  DERIVED. THE GIVEN ROWS OF THIS SEAT. 6 by the template 'for every input the law returns true; each argument reads behind the call as it read before'; 0 by the template 'total and deterministic' (their statements: YtfenmdnodoogbaaTotals.lean).
  GIVEN WITH THE SEED: the statements are not yours to turn. If you find one false, say at which input.
  Laid BY PROGRAM, IN A SANDBOX (cutbox-rows.mjs): the forced cells as the released guide's own fill.sh prints them over the translation 668e23a8c9621df7… (all of the seat's roots in one cut). By AI agents, Wed Nov 11 2026. No macro, syntax, notation, axiom, sorry.
-/
import Derived.Test.YtfenmdnodoogbaaChecked
import GoSem.Claim
import GoSem.ClaimJoined
import GoSem.ClaimMapViews
import Derived.JoinedTies
import Derived.KernelRfl
namespace Go.Proofs.Ytfenmdnodoogbaa
/- THE CELL 'sum', in the pinned program and in every row, IS THE sha256 OF THE DUMP (.gsa) THAT YtfenmdnodoogbaaProg.lean LOADS. Nothing in Lean hashes anything: it is a label: what it is worth is what the hold of that sum in a sandbox is worth. -/
noncomputable def Try.pinned : Pinned := { name := "ytfenmdnodoogbaa", sum := "668e23a8c9621df7939934afc6d41cc014676ad7d539a832b3f221a7336b93fc", checked := Try.checked }
namespace Rows
def none {H : Type} : Left H := { results := [], args := [] }

/-- 'triremelaw01.LexTexts': WHATEVER THE INPUT: true; the input reads as it did. -/
def lexTextsSpec : ChangeSpec := { name := "lexTexts", fn := fun _ => fun
  | [d] => { results := [.lit (.bool true)], args := [d] }
  | _ => none }
def lexTextsRow : OpenClaim := { program := "ytfenmdnodoogbaa", sum := "668e23a8c9621df7939934afc6d41cc014676ad7d539a832b3f221a7336b93fc", func := "trireme/triremelaw01.LexTexts", spec := "lexTexts", unfollowed := true, recurses := true, apart := false }
def LexTextsSaid : Prop := lexTextsRow.holds Try.pinned (OpenSpec.ofChange lexTextsSpec)

/-- ITS FALSE NEIGHBOUR: 'it returns false'. Refute it at one input. -/
def lexTextsWrong : ChangeSpec := { name := "lexTexts", fn := fun _ => fun
  | [d] => { results := [.lit (.bool false)], args := [d] }
  | _ => none }
def LexTextsWrongFalsely : Prop := lexTextsRow.holds Try.pinned (OpenSpec.ofChange lexTextsWrong)

/-- 'triremelaw01.LexShows': WHATEVER THE INPUT: true; the input reads as it did. -/
def lexShowsSpec : ChangeSpec := { name := "lexShows", fn := fun _ => fun
  | [d] => { results := [.lit (.bool true)], args := [d] }
  | _ => none }
def lexShowsRow : OpenClaim := { program := "ytfenmdnodoogbaa", sum := "668e23a8c9621df7939934afc6d41cc014676ad7d539a832b3f221a7336b93fc", func := "trireme/triremelaw01.LexShows", spec := "lexShows", unfollowed := true, recurses := true, apart := false }
def LexShowsSaid : Prop := lexShowsRow.holds Try.pinned (OpenSpec.ofChange lexShowsSpec)

/-- ITS FALSE NEIGHBOUR: 'it returns false'. Refute it at one input. -/
def lexShowsWrong : ChangeSpec := { name := "lexShows", fn := fun _ => fun
  | [d] => { results := [.lit (.bool false)], args := [d] }
  | _ => none }
def LexShowsWrongFalsely : Prop := lexShowsRow.holds Try.pinned (OpenSpec.ofChange lexShowsWrong)

/-- 'triremelaw01.LexBack': WHATEVER THE INPUT: true; the input reads as it did. -/
def lexBackSpec : ChangeSpec := { name := "lexBack", fn := fun _ => fun
  | [d] => { results := [.lit (.bool true)], args := [d] }
  | _ => none }
def lexBackRow : OpenClaim := { program := "ytfenmdnodoogbaa", sum := "668e23a8c9621df7939934afc6d41cc014676ad7d539a832b3f221a7336b93fc", func := "trireme/triremelaw01.LexBack", spec := "lexBack", unfollowed := true, recurses := true, apart := false }
def LexBackSaid : Prop := lexBackRow.holds Try.pinned (OpenSpec.ofChange lexBackSpec)

/-- ITS FALSE NEIGHBOUR: 'it returns false'. Refute it at one input. -/
def lexBackWrong : ChangeSpec := { name := "lexBack", fn := fun _ => fun
  | [d] => { results := [.lit (.bool false)], args := [d] }
  | _ => none }
def LexBackWrongFalsely : Prop := lexBackRow.holds Try.pinned (OpenSpec.ofChange lexBackWrong)

/-- 'triremelaw01.LexQuotes': WHATEVER THE INPUT: true; the input reads as it did. -/
def lexQuotesSpec : ChangeSpec := { name := "lexQuotes", fn := fun _ => fun
  | [d] => { results := [.lit (.bool true)], args := [d] }
  | _ => none }
def lexQuotesRow : OpenClaim := { program := "ytfenmdnodoogbaa", sum := "668e23a8c9621df7939934afc6d41cc014676ad7d539a832b3f221a7336b93fc", func := "trireme/triremelaw01.LexQuotes", spec := "lexQuotes", unfollowed := true, recurses := true, apart := false }
def LexQuotesSaid : Prop := lexQuotesRow.holds Try.pinned (OpenSpec.ofChange lexQuotesSpec)

/-- ITS FALSE NEIGHBOUR: 'it returns false'. Refute it at one input. -/
def lexQuotesWrong : ChangeSpec := { name := "lexQuotes", fn := fun _ => fun
  | [d] => { results := [.lit (.bool false)], args := [d] }
  | _ => none }
def LexQuotesWrongFalsely : Prop := lexQuotesRow.holds Try.pinned (OpenSpec.ofChange lexQuotesWrong)

/-- 'triremelaw01.LexWords': WHATEVER THE INPUT: true; the input reads as it did. -/
def lexWordsSpec : ChangeSpec := { name := "lexWords", fn := fun _ => fun
  | [d] => { results := [.lit (.bool true)], args := [d] }
  | _ => none }
def lexWordsRow : OpenClaim := { program := "ytfenmdnodoogbaa", sum := "668e23a8c9621df7939934afc6d41cc014676ad7d539a832b3f221a7336b93fc", func := "trireme/triremelaw01.LexWords", spec := "lexWords", unfollowed := true, recurses := true, apart := false }
def LexWordsSaid : Prop := lexWordsRow.holds Try.pinned (OpenSpec.ofChange lexWordsSpec)

/-- ITS FALSE NEIGHBOUR: 'it returns false'. Refute it at one input. -/
def lexWordsWrong : ChangeSpec := { name := "lexWords", fn := fun _ => fun
  | [d] => { results := [.lit (.bool false)], args := [d] }
  | _ => none }
def LexWordsWrongFalsely : Prop := lexWordsRow.holds Try.pinned (OpenSpec.ofChange lexWordsWrong)

/-- 'triremelaw01.LexJoins': WHATEVER THE INPUT: true; the input reads as it did. -/
def lexJoinsSpec : ChangeSpec := { name := "lexJoins", fn := fun _ => fun
  | [d1, d2] => { results := [.lit (.bool true)], args := [d1, d2] }
  | _ => none }
def lexJoinsRow : OpenClaim := { program := "ytfenmdnodoogbaa", sum := "668e23a8c9621df7939934afc6d41cc014676ad7d539a832b3f221a7336b93fc", func := "trireme/triremelaw01.LexJoins", spec := "lexJoins", unfollowed := true, recurses := true, apart := false }
def LexJoinsSaid : Prop := lexJoinsRow.holds Try.pinned (OpenSpec.ofChange lexJoinsSpec)

/-- ITS FALSE NEIGHBOUR: 'it returns false'. Refute it at one input. -/
def lexJoinsWrong : ChangeSpec := { name := "lexJoins", fn := fun _ => fun
  | [d1, d2] => { results := [.lit (.bool false)], args := [d1, d2] }
  | _ => none }
def LexJoinsWrongFalsely : Prop := lexJoinsRow.holds Try.pinned (OpenSpec.ofChange lexJoinsWrong)

/- THE SECOND FORM. 'bulk': how many values and letters a reading holds, each counted each time it is reached (what is shared counts as often as it is met; a slice's spare places count too). A statement '..UptoSaid' is the law's where the arguments, and the package variables that the reading takes, are together of bulk at most 1048576: NARROWER than '..Said'. Prove '..Said' where nothing that the law and all that it calls make is longer than what came in: it says more and counts as full. Else prove '..UptoSaid'. A law counts once. -/
mutual
def uptoBulk {H : Type} : DataW H → Nat
  | .lit (.string bytes) => bytes.length + 1
  | .lit _ => 1
  | .nil => 1
  | .ptr d => uptoBulk d + 1
  | .slice elems spare => uptoBulkAll elems + uptoBulkAll spare + 1
  | .agg parts => uptoBulkAll parts + 1
  | .iface _ d => uptoBulk d + 1
  | .map entries => uptoBulkEntries entries + 1
  | .held _ => 1
def uptoBulkAll {H : Type} : List (DataW H) → Nat
  | [] => 0
  | d :: r => uptoBulk d + uptoBulkAll r
def uptoBulkEntries {H : Type} : List (Lit × DataW H) → Nat
  | [] => 0
  | x :: r => uptoBulkEntry x + uptoBulkEntries r
def uptoBulkEntry {H : Type} : Lit × DataW H → Nat
  | (.string bytes, d) => bytes.length + uptoBulk d + 1
  | (_, d) => uptoBulk d + 1
 end
def uptoSmall : (H : Type) → List (DataW H) → Bool := fun _ ds => decide (uptoBulkAll ds ≤ 1048576)
def OpenSpec.upto (s : _root_.Go.ChangeSpec) : _root_.Go.OpenSpec := { _root_.Go.OpenSpec.ofChange s with cond := some uptoSmall }

/-- 'triremelaw01.LexTexts', WHERE WHAT IT READS IS OF BULK AT MOST 1048576: true; the input reads as it did. -/
def lexTextsUptoRow : OpenClaim := { program := "ytfenmdnodoogbaa", sum := "668e23a8c9621df7939934afc6d41cc014676ad7d539a832b3f221a7336b93fc", func := "trireme/triremelaw01.LexTexts", spec := "lexTexts", unfollowed := true, recurses := true, apart := false, narrowed := true }
def LexTextsUptoSaid : Prop := lexTextsUptoRow.holds Try.pinned (OpenSpec.upto lexTextsSpec)

/-- 'triremelaw01.LexShows', WHERE WHAT IT READS IS OF BULK AT MOST 1048576: true; the input reads as it did. -/
def lexShowsUptoRow : OpenClaim := { program := "ytfenmdnodoogbaa", sum := "668e23a8c9621df7939934afc6d41cc014676ad7d539a832b3f221a7336b93fc", func := "trireme/triremelaw01.LexShows", spec := "lexShows", unfollowed := true, recurses := true, apart := false, narrowed := true }
def LexShowsUptoSaid : Prop := lexShowsUptoRow.holds Try.pinned (OpenSpec.upto lexShowsSpec)

/-- 'triremelaw01.LexBack', WHERE WHAT IT READS IS OF BULK AT MOST 1048576: true; the input reads as it did. -/
def lexBackUptoRow : OpenClaim := { program := "ytfenmdnodoogbaa", sum := "668e23a8c9621df7939934afc6d41cc014676ad7d539a832b3f221a7336b93fc", func := "trireme/triremelaw01.LexBack", spec := "lexBack", unfollowed := true, recurses := true, apart := false, narrowed := true }
def LexBackUptoSaid : Prop := lexBackUptoRow.holds Try.pinned (OpenSpec.upto lexBackSpec)

/-- 'triremelaw01.LexQuotes', WHERE WHAT IT READS IS OF BULK AT MOST 1048576: true; the input reads as it did. -/
def lexQuotesUptoRow : OpenClaim := { program := "ytfenmdnodoogbaa", sum := "668e23a8c9621df7939934afc6d41cc014676ad7d539a832b3f221a7336b93fc", func := "trireme/triremelaw01.LexQuotes", spec := "lexQuotes", unfollowed := true, recurses := true, apart := false, narrowed := true }
def LexQuotesUptoSaid : Prop := lexQuotesUptoRow.holds Try.pinned (OpenSpec.upto lexQuotesSpec)

/-- 'triremelaw01.LexWords', WHERE WHAT IT READS IS OF BULK AT MOST 1048576: true; the input reads as it did. -/
def lexWordsUptoRow : OpenClaim := { program := "ytfenmdnodoogbaa", sum := "668e23a8c9621df7939934afc6d41cc014676ad7d539a832b3f221a7336b93fc", func := "trireme/triremelaw01.LexWords", spec := "lexWords", unfollowed := true, recurses := true, apart := false, narrowed := true }
def LexWordsUptoSaid : Prop := lexWordsUptoRow.holds Try.pinned (OpenSpec.upto lexWordsSpec)

/-- 'triremelaw01.LexJoins', WHERE WHAT IT READS IS OF BULK AT MOST 1048576: true; the input reads as it did. -/
def lexJoinsUptoRow : OpenClaim := { program := "ytfenmdnodoogbaa", sum := "668e23a8c9621df7939934afc6d41cc014676ad7d539a832b3f221a7336b93fc", func := "trireme/triremelaw01.LexJoins", spec := "lexJoins", unfollowed := true, recurses := true, apart := false, narrowed := true }
def LexJoinsUptoSaid : Prop := lexJoinsUptoRow.holds Try.pinned (OpenSpec.upto lexJoinsSpec)

end Rows
end Go.Proofs.Ytfenmdnodoogbaa
