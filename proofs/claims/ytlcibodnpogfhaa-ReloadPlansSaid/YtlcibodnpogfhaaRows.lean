/-
  No cell of these rows narrows 'for every input' (looked for: loops, veiled, ifaces, maps, wideKeys, modest, calm, conditions, laid).
  DERIVED. THE GIVEN ROWS OF THIS SEAT. 5 by the template 'for every input the law returns true; each argument reads behind the call as it read before'; 0 by the template 'total and deterministic' (their statements: YtlcibodnpogfhaaTotals.lean).
  GIVEN WITH THE SEED: the statements are not yours to turn. If you find one false, say at which input.
  Laid BY PROGRAM, IN A SANDBOX (cutbox-rows.mjs): the forced cells as the released guide's own fill.sh prints them over the translation acacd4aa92301563… (all of the seat's roots in one cut). By AI agents, Wed Nov 11 2026. No macro, syntax, notation, axiom, sorry.
-/
import Derived.Test.YtlcibodnpogfhaaChecked
import GoSem.Claim
import GoSem.ClaimJoined
import GoSem.ClaimMapViews
import Derived.JoinedTies
import Derived.KernelRfl
namespace Go.Proofs.Ytlcibodnpogfhaa
/- THE CELL 'sum', in the pinned program and in every row, IS THE sha256 OF THE DUMP (.gsa) THAT YtlcibodnpogfhaaProg.lean LOADS. Nothing in Lean hashes anything: it is a label: what it is worth is what the hold of that sum in a sandbox is worth. -/
noncomputable def Try.pinned : Pinned := { name := "ytlcibodnpogfhaa", sum := "acacd4aa92301563d1214a6e680874d48905b7f9f6370bbb3bc6e7889104518c", checked := Try.checked }
namespace Rows
def none {H : Type} : Left H := { results := [], args := [] }

/-- 'jobmuxlaw23.ReloadPlans': WHATEVER THE INPUT: true; the input reads as it did. -/
def reloadPlansSpec : ChangeSpec := { name := "reloadPlans", fn := fun _ => fun
  | [d1, d2, d3] => { results := [.lit (.bool true)], args := [d1, d2, d3] }
  | _ => none }
def reloadPlansRow : OpenClaim := { program := "ytlcibodnpogfhaa", sum := "acacd4aa92301563d1214a6e680874d48905b7f9f6370bbb3bc6e7889104518c", func := "jobmux/jobmuxlaw23.ReloadPlans", spec := "reloadPlans", unfollowed := true, recurses := true, apart := false }
def ReloadPlansSaid : Prop := reloadPlansRow.holds Try.pinned (OpenSpec.ofChange reloadPlansSpec)

/-- ITS FALSE NEIGHBOUR: 'it returns false'. Refute it at one input. -/
def reloadPlansWrong : ChangeSpec := { name := "reloadPlans", fn := fun _ => fun
  | [d1, d2, d3] => { results := [.lit (.bool false)], args := [d1, d2, d3] }
  | _ => none }
def ReloadPlansWrongFalsely : Prop := reloadPlansRow.holds Try.pinned (OpenSpec.ofChange reloadPlansWrong)

/-- 'jobmuxlaw23.ReloadKeeps': WHATEVER THE INPUT: true; the input reads as it did. -/
def reloadKeepsSpec : ChangeSpec := { name := "reloadKeeps", fn := fun _ => fun
  | [d1, d2] => { results := [.lit (.bool true)], args := [d1, d2] }
  | _ => none }
def reloadKeepsRow : OpenClaim := { program := "ytlcibodnpogfhaa", sum := "acacd4aa92301563d1214a6e680874d48905b7f9f6370bbb3bc6e7889104518c", func := "jobmux/jobmuxlaw23.ReloadKeeps", spec := "reloadKeeps", unfollowed := true, recurses := true, apart := false }
def ReloadKeepsSaid : Prop := reloadKeepsRow.holds Try.pinned (OpenSpec.ofChange reloadKeepsSpec)

/-- ITS FALSE NEIGHBOUR: 'it returns false'. Refute it at one input. -/
def reloadKeepsWrong : ChangeSpec := { name := "reloadKeeps", fn := fun _ => fun
  | [d1, d2] => { results := [.lit (.bool false)], args := [d1, d2] }
  | _ => none }
def ReloadKeepsWrongFalsely : Prop := reloadKeepsRow.holds Try.pinned (OpenSpec.ofChange reloadKeepsWrong)

/-- 'jobmuxlaw29.OutqOrder': WHATEVER THE INPUT: true; the input reads as it did. -/
def outqOrderSpec : ChangeSpec := { name := "outqOrder", fn := fun _ => fun
  | [d1, d2] => { results := [.lit (.bool true)], args := [d1, d2] }
  | _ => none }
def outqOrderRow : OpenClaim := { program := "ytlcibodnpogfhaa", sum := "acacd4aa92301563d1214a6e680874d48905b7f9f6370bbb3bc6e7889104518c", func := "jobmux/jobmuxlaw29.OutqOrder", spec := "outqOrder", apart := false }
def OutqOrderSaid : Prop := outqOrderRow.holds Try.pinned (OpenSpec.ofChange outqOrderSpec)

/-- ITS FALSE NEIGHBOUR: 'it returns false'. Refute it at one input. -/
def outqOrderWrong : ChangeSpec := { name := "outqOrder", fn := fun _ => fun
  | [d1, d2] => { results := [.lit (.bool false)], args := [d1, d2] }
  | _ => none }
def OutqOrderWrongFalsely : Prop := outqOrderRow.holds Try.pinned (OpenSpec.ofChange outqOrderWrong)

/-- 'jobmuxlaw28.CommandCodes': WHATEVER THE INPUT: true; the input reads as it did. -/
def commandCodesSpec : ChangeSpec := { name := "commandCodes", fn := fun _ => fun
  | [d1, d2, d3, d4] => { results := [.lit (.bool true)], args := [d1, d2, d3, d4] }
  | _ => none }
def commandCodesRow : OpenClaim := { program := "ytlcibodnpogfhaa", sum := "acacd4aa92301563d1214a6e680874d48905b7f9f6370bbb3bc6e7889104518c", func := "jobmux/jobmuxlaw28.CommandCodes", spec := "commandCodes", recurses := true, apart := false }
def CommandCodesSaid : Prop := commandCodesRow.holds Try.pinned (OpenSpec.ofChange commandCodesSpec)

/-- ITS FALSE NEIGHBOUR: 'it returns false'. Refute it at one input. -/
def commandCodesWrong : ChangeSpec := { name := "commandCodes", fn := fun _ => fun
  | [d1, d2, d3, d4] => { results := [.lit (.bool false)], args := [d1, d2, d3, d4] }
  | _ => none }
def CommandCodesWrongFalsely : Prop := commandCodesRow.holds Try.pinned (OpenSpec.ofChange commandCodesWrong)

/-- 'jobmuxlaw28.CommandBack': WHATEVER THE INPUT: true; the input reads as it did. -/
def commandBackSpec : ChangeSpec := { name := "commandBack", fn := fun _ => fun
  | [d1, d2] => { results := [.lit (.bool true)], args := [d1, d2] }
  | _ => none }
def commandBackRow : OpenClaim := { program := "ytlcibodnpogfhaa", sum := "acacd4aa92301563d1214a6e680874d48905b7f9f6370bbb3bc6e7889104518c", func := "jobmux/jobmuxlaw28.CommandBack", spec := "commandBack", recurses := true, apart := false }
def CommandBackSaid : Prop := commandBackRow.holds Try.pinned (OpenSpec.ofChange commandBackSpec)

/-- ITS FALSE NEIGHBOUR: 'it returns false'. Refute it at one input. -/
def commandBackWrong : ChangeSpec := { name := "commandBack", fn := fun _ => fun
  | [d1, d2] => { results := [.lit (.bool false)], args := [d1, d2] }
  | _ => none }
def CommandBackWrongFalsely : Prop := commandBackRow.holds Try.pinned (OpenSpec.ofChange commandBackWrong)

/- THE SECOND FORM. 'bulk': how many values and letters a reading holds, each counted each time it is reached (what is shared counts as often as it is met; a slice's spare places count too). A statement '..UptoSaid' is the law's where the arguments, and the package variables that the reading takes, are together of bulk at most 1048576: NARROWER than '..Said'. Prove '..Said' where nothing that the law and all that it calls make is longer than what came in: it says more and counts as full. Else prove '..UptoSaid'. A law counts once. -/
mutual
def uptoBulk {H : Type} : DataW H → Nat
  | .lit (.string bytes) => bytes.length + 1
  | .lit _ => 1
  | .nil => 1
  | .ptr d => uptoBulk d + 1
  | .slice elems spare => uptoBulkAll elems + uptoBulkAll spare + 1
  | .agg parts => uptoBulkAll parts + 1
  | .iface _ d => uptoBulk d + 1
  | .map entries => uptoBulkEntries entries + 1
  | .held _ => 1
def uptoBulkAll {H : Type} : List (DataW H) → Nat
  | [] => 0
  | d :: r => uptoBulk d + uptoBulkAll r
def uptoBulkEntries {H : Type} : List (Lit × DataW H) → Nat
  | [] => 0
  | x :: r => uptoBulkEntry x + uptoBulkEntries r
def uptoBulkEntry {H : Type} : Lit × DataW H → Nat
  | (.string bytes, d) => bytes.length + uptoBulk d + 1
  | (_, d) => uptoBulk d + 1
 end
def uptoSmall : (H : Type) → List (DataW H) → Bool := fun _ ds => decide (uptoBulkAll ds ≤ 1048576)
def OpenSpec.upto (s : _root_.Go.ChangeSpec) : _root_.Go.OpenSpec := { _root_.Go.OpenSpec.ofChange s with cond := some uptoSmall }

/-- 'jobmuxlaw23.ReloadPlans', WHERE WHAT IT READS IS OF BULK AT MOST 1048576: true; the input reads as it did. -/
def reloadPlansUptoRow : OpenClaim := { program := "ytlcibodnpogfhaa", sum := "acacd4aa92301563d1214a6e680874d48905b7f9f6370bbb3bc6e7889104518c", func := "jobmux/jobmuxlaw23.ReloadPlans", spec := "reloadPlans", unfollowed := true, recurses := true, apart := false, narrowed := true }
def ReloadPlansUptoSaid : Prop := reloadPlansUptoRow.holds Try.pinned (OpenSpec.upto reloadPlansSpec)

/-- 'jobmuxlaw23.ReloadKeeps', WHERE WHAT IT READS IS OF BULK AT MOST 1048576: true; the input reads as it did. -/
def reloadKeepsUptoRow : OpenClaim := { program := "ytlcibodnpogfhaa", sum := "acacd4aa92301563d1214a6e680874d48905b7f9f6370bbb3bc6e7889104518c", func := "jobmux/jobmuxlaw23.ReloadKeeps", spec := "reloadKeeps", unfollowed := true, recurses := true, apart := false, narrowed := true }
def ReloadKeepsUptoSaid : Prop := reloadKeepsUptoRow.holds Try.pinned (OpenSpec.upto reloadKeepsSpec)

/-- 'jobmuxlaw29.OutqOrder', WHERE WHAT IT READS IS OF BULK AT MOST 1048576: true; the input reads as it did. -/
def outqOrderUptoRow : OpenClaim := { program := "ytlcibodnpogfhaa", sum := "acacd4aa92301563d1214a6e680874d48905b7f9f6370bbb3bc6e7889104518c", func := "jobmux/jobmuxlaw29.OutqOrder", spec := "outqOrder", apart := false, narrowed := true }
def OutqOrderUptoSaid : Prop := outqOrderUptoRow.holds Try.pinned (OpenSpec.upto outqOrderSpec)

/-- 'jobmuxlaw28.CommandCodes', WHERE WHAT IT READS IS OF BULK AT MOST 1048576: true; the input reads as it did. -/
def commandCodesUptoRow : OpenClaim := { program := "ytlcibodnpogfhaa", sum := "acacd4aa92301563d1214a6e680874d48905b7f9f6370bbb3bc6e7889104518c", func := "jobmux/jobmuxlaw28.CommandCodes", spec := "commandCodes", recurses := true, apart := false, narrowed := true }
def CommandCodesUptoSaid : Prop := commandCodesUptoRow.holds Try.pinned (OpenSpec.upto commandCodesSpec)

/-- 'jobmuxlaw28.CommandBack', WHERE WHAT IT READS IS OF BULK AT MOST 1048576: true; the input reads as it did. -/
def commandBackUptoRow : OpenClaim := { program := "ytlcibodnpogfhaa", sum := "acacd4aa92301563d1214a6e680874d48905b7f9f6370bbb3bc6e7889104518c", func := "jobmux/jobmuxlaw28.CommandBack", spec := "commandBack", recurses := true, apart := false, narrowed := true }
def CommandBackUptoSaid : Prop := commandBackUptoRow.holds Try.pinned (OpenSpec.upto commandBackSpec)

end Rows
end Go.Proofs.Ytlcibodnpogfhaa
