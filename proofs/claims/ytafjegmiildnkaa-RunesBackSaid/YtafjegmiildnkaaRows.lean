/-
  No cell of these rows narrows 'for every input' (looked for: loops, veiled, ifaces, maps, wideKeys, modest, calm, conditions, laid).
  DERIVED. THE GIVEN ROWS OF THIS SEAT. 4 by the template 'for every input the law returns true; each argument reads behind the call as it read before'; 0 by the template 'total and deterministic' (their statements: YtafjegmiildnkaaTotals.lean).
  GIVEN WITH THE SEED: the statements are not yours to turn. If you find one false, say at which input.
  Laid BY PROGRAM, IN A SANDBOX (cutbox-rows.mjs): the forced cells as the released guide's own fill.sh prints them over the translation cbf27d092046767d… (all of the seat's roots in one cut). By AI agents, Wed Nov 11 2026. No macro, syntax, notation, axiom, sorry.
-/
import Derived.Test.YtafjegmiildnkaaChecked
import GoSem.Claim
import GoSem.ClaimJoined
import GoSem.ClaimMapViews
import Derived.JoinedTies
import Derived.KernelRfl
namespace Go.Proofs.Ytafjegmiildnkaa
/- THE CELL 'sum', in the pinned program and in every row, IS THE sha256 OF THE DUMP (.gsa) THAT YtafjegmiildnkaaProg.lean LOADS. Nothing in Lean hashes anything: it is a label: what it is worth is what the hold of that sum in a sandbox is worth. -/
noncomputable def Try.pinned : Pinned := { name := "ytafjegmiildnkaa", sum := "cbf27d092046767ddb1bfcc805786453450bb0051f50ee31bff5b8d2356e5640", checked := Try.checked }
namespace Rows
def none {H : Type} : Left H := { results := [], args := [] }

/-- 'jobmuxlaw04.RunesDivides': WHATEVER THE INPUT: true; the input reads as it did. -/
def runesDividesSpec : ChangeSpec := { name := "runesDivides", fn := fun _ => fun
  | [d1, d2, d3] => { results := [.lit (.bool true)], args := [d1, d2, d3] }
  | _ => none }
def runesDividesRow : OpenClaim := { program := "ytafjegmiildnkaa", sum := "cbf27d092046767ddb1bfcc805786453450bb0051f50ee31bff5b8d2356e5640", func := "jobmux/jobmuxlaw04.RunesDivides", spec := "runesDivides", apart := false }
def RunesDividesSaid : Prop := runesDividesRow.holds Try.pinned (OpenSpec.ofChange runesDividesSpec)

/-- ITS FALSE NEIGHBOUR: 'it returns false'. Refute it at one input. -/
def runesDividesWrong : ChangeSpec := { name := "runesDivides", fn := fun _ => fun
  | [d1, d2, d3] => { results := [.lit (.bool false)], args := [d1, d2, d3] }
  | _ => none }
def RunesDividesWrongFalsely : Prop := runesDividesRow.holds Try.pinned (OpenSpec.ofChange runesDividesWrong)

/-- 'jobmuxlaw04.RunesDecodes': WHATEVER THE INPUT: true; the input reads as it did. -/
def runesDecodesSpec : ChangeSpec := { name := "runesDecodes", fn := fun _ => fun
  | [d1, d2, d3] => { results := [.lit (.bool true)], args := [d1, d2, d3] }
  | _ => none }
def runesDecodesRow : OpenClaim := { program := "ytafjegmiildnkaa", sum := "cbf27d092046767ddb1bfcc805786453450bb0051f50ee31bff5b8d2356e5640", func := "jobmux/jobmuxlaw04.RunesDecodes", spec := "runesDecodes", apart := false }
def RunesDecodesSaid : Prop := runesDecodesRow.holds Try.pinned (OpenSpec.ofChange runesDecodesSpec)

/-- ITS FALSE NEIGHBOUR: 'it returns false'. Refute it at one input. -/
def runesDecodesWrong : ChangeSpec := { name := "runesDecodes", fn := fun _ => fun
  | [d1, d2, d3] => { results := [.lit (.bool false)], args := [d1, d2, d3] }
  | _ => none }
def RunesDecodesWrongFalsely : Prop := runesDecodesRow.holds Try.pinned (OpenSpec.ofChange runesDecodesWrong)

/-- 'jobmuxlaw04.RunesEncodes': WHATEVER THE INPUT: true; the input reads as it did. -/
def runesEncodesSpec : ChangeSpec := { name := "runesEncodes", fn := fun _ => fun
  | [d] => { results := [.lit (.bool true)], args := [d] }
  | _ => none }
def runesEncodesRow : OpenClaim := { program := "ytafjegmiildnkaa", sum := "cbf27d092046767ddb1bfcc805786453450bb0051f50ee31bff5b8d2356e5640", func := "jobmux/jobmuxlaw04.RunesEncodes", spec := "runesEncodes", unfollowed := true, recurses := true, apart := false }
def RunesEncodesSaid : Prop := runesEncodesRow.holds Try.pinned (OpenSpec.ofChange runesEncodesSpec)

/-- ITS FALSE NEIGHBOUR: 'it returns false'. Refute it at one input. -/
def runesEncodesWrong : ChangeSpec := { name := "runesEncodes", fn := fun _ => fun
  | [d] => { results := [.lit (.bool false)], args := [d] }
  | _ => none }
def RunesEncodesWrongFalsely : Prop := runesEncodesRow.holds Try.pinned (OpenSpec.ofChange runesEncodesWrong)

/-- 'jobmuxlaw04.RunesBack': WHATEVER THE INPUT: true; the input reads as it did. -/
def runesBackSpec : ChangeSpec := { name := "runesBack", fn := fun _ => fun
  | [d] => { results := [.lit (.bool true)], args := [d] }
  | _ => none }
def runesBackRow : OpenClaim := { program := "ytafjegmiildnkaa", sum := "cbf27d092046767ddb1bfcc805786453450bb0051f50ee31bff5b8d2356e5640", func := "jobmux/jobmuxlaw04.RunesBack", spec := "runesBack", unfollowed := true, recurses := true, apart := false }
def RunesBackSaid : Prop := runesBackRow.holds Try.pinned (OpenSpec.ofChange runesBackSpec)

/-- ITS FALSE NEIGHBOUR: 'it returns false'. Refute it at one input. -/
def runesBackWrong : ChangeSpec := { name := "runesBack", fn := fun _ => fun
  | [d] => { results := [.lit (.bool false)], args := [d] }
  | _ => none }
def RunesBackWrongFalsely : Prop := runesBackRow.holds Try.pinned (OpenSpec.ofChange runesBackWrong)

/- THE SECOND FORM. 'bulk': how many values and letters a reading holds, each counted each time it is reached (what is shared counts as often as it is met; a slice's spare places count too). A statement '..UptoSaid' is the law's where the arguments, and the package variables that the reading takes, are together of bulk at most 1048576: NARROWER than '..Said'. Prove '..Said' where nothing that the law and all that it calls make is longer than what came in: it says more and counts as full. Else prove '..UptoSaid'. A law counts once. -/
mutual
def uptoBulk {H : Type} : DataW H → Nat
  | .lit (.string bytes) => bytes.length + 1
  | .lit _ => 1
  | .nil => 1
  | .ptr d => uptoBulk d + 1
  | .slice elems spare => uptoBulkAll elems + uptoBulkAll spare + 1
  | .agg parts => uptoBulkAll parts + 1
  | .iface _ d => uptoBulk d + 1
  | .map entries => uptoBulkEntries entries + 1
  | .held _ => 1
def uptoBulkAll {H : Type} : List (DataW H) → Nat
  | [] => 0
  | d :: r => uptoBulk d + uptoBulkAll r
def uptoBulkEntries {H : Type} : List (Lit × DataW H) → Nat
  | [] => 0
  | x :: r => uptoBulkEntry x + uptoBulkEntries r
def uptoBulkEntry {H : Type} : Lit × DataW H → Nat
  | (.string bytes, d) => bytes.length + uptoBulk d + 1
  | (_, d) => uptoBulk d + 1
 end
def uptoSmall : (H : Type) → List (DataW H) → Bool := fun _ ds => decide (uptoBulkAll ds ≤ 1048576)
def OpenSpec.upto (s : _root_.Go.ChangeSpec) : _root_.Go.OpenSpec := { _root_.Go.OpenSpec.ofChange s with cond := some uptoSmall }

/-- 'jobmuxlaw04.RunesDivides', WHERE WHAT IT READS IS OF BULK AT MOST 1048576: true; the input reads as it did. -/
def runesDividesUptoRow : OpenClaim := { program := "ytafjegmiildnkaa", sum := "cbf27d092046767ddb1bfcc805786453450bb0051f50ee31bff5b8d2356e5640", func := "jobmux/jobmuxlaw04.RunesDivides", spec := "runesDivides", apart := false, narrowed := true }
def RunesDividesUptoSaid : Prop := runesDividesUptoRow.holds Try.pinned (OpenSpec.upto runesDividesSpec)

/-- 'jobmuxlaw04.RunesDecodes', WHERE WHAT IT READS IS OF BULK AT MOST 1048576: true; the input reads as it did. -/
def runesDecodesUptoRow : OpenClaim := { program := "ytafjegmiildnkaa", sum := "cbf27d092046767ddb1bfcc805786453450bb0051f50ee31bff5b8d2356e5640", func := "jobmux/jobmuxlaw04.RunesDecodes", spec := "runesDecodes", apart := false, narrowed := true }
def RunesDecodesUptoSaid : Prop := runesDecodesUptoRow.holds Try.pinned (OpenSpec.upto runesDecodesSpec)

/-- 'jobmuxlaw04.RunesEncodes', WHERE WHAT IT READS IS OF BULK AT MOST 1048576: true; the input reads as it did. -/
def runesEncodesUptoRow : OpenClaim := { program := "ytafjegmiildnkaa", sum := "cbf27d092046767ddb1bfcc805786453450bb0051f50ee31bff5b8d2356e5640", func := "jobmux/jobmuxlaw04.RunesEncodes", spec := "runesEncodes", unfollowed := true, recurses := true, apart := false, narrowed := true }
def RunesEncodesUptoSaid : Prop := runesEncodesUptoRow.holds Try.pinned (OpenSpec.upto runesEncodesSpec)

/-- 'jobmuxlaw04.RunesBack', WHERE WHAT IT READS IS OF BULK AT MOST 1048576: true; the input reads as it did. -/
def runesBackUptoRow : OpenClaim := { program := "ytafjegmiildnkaa", sum := "cbf27d092046767ddb1bfcc805786453450bb0051f50ee31bff5b8d2356e5640", func := "jobmux/jobmuxlaw04.RunesBack", spec := "runesBack", unfollowed := true, recurses := true, apart := false, narrowed := true }
def RunesBackUptoSaid : Prop := runesBackUptoRow.holds Try.pinned (OpenSpec.upto runesBackSpec)

end Rows
end Go.Proofs.Ytafjegmiildnkaa
