/-
  No cell of these rows narrows 'for every input' (looked for: loops, veiled, ifaces, maps, wideKeys, modest, calm, conditions, laid).
  DERIVED. THE GIVEN ROWS OF THIS SEAT. 10 by the template 'for every input the law returns true; each argument reads behind the call as it read before'; 0 by the template 'total and deterministic' (their statements: YtfpmfjibbhedoaaTotals.lean).
  GIVEN WITH THE SEED: the statements are not yours to turn. If you find one false, say at which input.
  Laid BY PROGRAM, IN A SANDBOX (cutbox-rows.mjs): the forced cells as the released guide's own fill.sh prints them over the translation 642d1ee440c65612… (all of the seat's roots in one cut). By AI agents, Wed Nov 11 2026. No macro, syntax, notation, axiom, sorry.
-/
import Derived.Test.YtfpmfjibbhedoaaChecked
import GoSem.Claim
import GoSem.ClaimJoined
import GoSem.ClaimMapViews
import Derived.JoinedTies
import Derived.KernelRfl
namespace Go.Proofs.Ytfpmfjibbhedoaa
/- THE CELL 'sum', in the pinned program and in every row, IS THE sha256 OF THE DUMP (.gsa) THAT YtfpmfjibbhedoaaProg.lean LOADS. Nothing in Lean hashes anything: it is a label: what it is worth is what the hold of that sum in a sandbox is worth. -/
noncomputable def Try.pinned : Pinned := { name := "ytfpmfjibbhedoaa", sum := "642d1ee440c65612ffc644b796a6339d237a907e470fef7aec32b991fdf888bf", checked := Try.checked }
namespace Rows
def none {H : Type} : Left H := { results := [], args := [] }

/-- 'jobmuxlaw28.CommandLimits': WHATEVER THE INPUT: true; the input reads as it did. -/
def commandLimitsSpec : ChangeSpec := { name := "commandLimits", fn := fun _ => fun
  | [d] => { results := [.lit (.bool true)], args := [d] }
  | _ => none }
def commandLimitsRow : OpenClaim := { program := "ytfpmfjibbhedoaa", sum := "642d1ee440c65612ffc644b796a6339d237a907e470fef7aec32b991fdf888bf", func := "jobmux/jobmuxlaw28.CommandLimits", spec := "commandLimits", apart := false }
def CommandLimitsSaid : Prop := commandLimitsRow.holds Try.pinned (OpenSpec.ofChange commandLimitsSpec)

/-- ITS FALSE NEIGHBOUR: 'it returns false'. Refute it at one input. -/
def commandLimitsWrong : ChangeSpec := { name := "commandLimits", fn := fun _ => fun
  | [d] => { results := [.lit (.bool false)], args := [d] }
  | _ => none }
def CommandLimitsWrongFalsely : Prop := commandLimitsRow.holds Try.pinned (OpenSpec.ofChange commandLimitsWrong)

/-- 'jobmuxlaw21.LadderSteps': WHATEVER THE INPUT: true; the input reads as it did. -/
def ladderStepsSpec : ChangeSpec := { name := "ladderSteps", fn := fun _ => fun
  | [d1, d2, d3] => { results := [.lit (.bool true)], args := [d1, d2, d3] }
  | _ => none }
def ladderStepsRow : OpenClaim := { program := "ytfpmfjibbhedoaa", sum := "642d1ee440c65612ffc644b796a6339d237a907e470fef7aec32b991fdf888bf", func := "jobmux/jobmuxlaw21.LadderSteps", spec := "ladderSteps", inPlace := ["math/bits.Add64"], apart := false }
def LadderStepsSaid : Prop := ladderStepsRow.holds Try.pinned (OpenSpec.ofChange ladderStepsSpec)

/-- ITS FALSE NEIGHBOUR: 'it returns false'. Refute it at one input. -/
def ladderStepsWrong : ChangeSpec := { name := "ladderSteps", fn := fun _ => fun
  | [d1, d2, d3] => { results := [.lit (.bool false)], args := [d1, d2, d3] }
  | _ => none }
def LadderStepsWrongFalsely : Prop := ladderStepsRow.holds Try.pinned (OpenSpec.ofChange ladderStepsWrong)

/-- 'jobmuxlaw21.LadderClimbs': WHATEVER THE INPUT: true; the input reads as it did. -/
def ladderClimbsSpec : ChangeSpec := { name := "ladderClimbs", fn := fun _ => fun
  | [d1, d2] => { results := [.lit (.bool true)], args := [d1, d2] }
  | _ => none }
def ladderClimbsRow : OpenClaim := { program := "ytfpmfjibbhedoaa", sum := "642d1ee440c65612ffc644b796a6339d237a907e470fef7aec32b991fdf888bf", func := "jobmux/jobmuxlaw21.LadderClimbs", spec := "ladderClimbs", inPlace := ["math/bits.Add64"], apart := false }
def LadderClimbsSaid : Prop := ladderClimbsRow.holds Try.pinned (OpenSpec.ofChange ladderClimbsSpec)

/-- ITS FALSE NEIGHBOUR: 'it returns false'. Refute it at one input. -/
def ladderClimbsWrong : ChangeSpec := { name := "ladderClimbs", fn := fun _ => fun
  | [d1, d2] => { results := [.lit (.bool false)], args := [d1, d2] }
  | _ => none }
def LadderClimbsWrongFalsely : Prop := ladderClimbsRow.holds Try.pinned (OpenSpec.ofChange ladderClimbsWrong)

/-- 'jobmuxlaw21.LadderShifts': WHATEVER THE INPUT: true; the input reads as it did. -/
def ladderShiftsSpec : ChangeSpec := { name := "ladderShifts", fn := fun _ => fun
  | [d1, d2, d3, d4] => { results := [.lit (.bool true)], args := [d1, d2, d3, d4] }
  | _ => none }
def ladderShiftsRow : OpenClaim := { program := "ytfpmfjibbhedoaa", sum := "642d1ee440c65612ffc644b796a6339d237a907e470fef7aec32b991fdf888bf", func := "jobmux/jobmuxlaw21.LadderShifts", spec := "ladderShifts", inPlace := ["math/bits.Add64"], apart := false }
def LadderShiftsSaid : Prop := ladderShiftsRow.holds Try.pinned (OpenSpec.ofChange ladderShiftsSpec)

/-- ITS FALSE NEIGHBOUR: 'it returns false'. Refute it at one input. -/
def ladderShiftsWrong : ChangeSpec := { name := "ladderShifts", fn := fun _ => fun
  | [d1, d2, d3, d4] => { results := [.lit (.bool false)], args := [d1, d2, d3, d4] }
  | _ => none }
def LadderShiftsWrongFalsely : Prop := ladderShiftsRow.holds Try.pinned (OpenSpec.ofChange ladderShiftsWrong)

/-- 'jobmuxlaw27.FrameLimits': WHATEVER THE INPUT: true; the input reads as it did. -/
def frameLimitsSpec : ChangeSpec := { name := "frameLimits", fn := fun _ => fun
  | [d] => { results := [.lit (.bool true)], args := [d] }
  | _ => none }
def frameLimitsRow : OpenClaim := { program := "ytfpmfjibbhedoaa", sum := "642d1ee440c65612ffc644b796a6339d237a907e470fef7aec32b991fdf888bf", func := "jobmux/jobmuxlaw27.FrameLimits", spec := "frameLimits", apart := false }
def FrameLimitsSaid : Prop := frameLimitsRow.holds Try.pinned (OpenSpec.ofChange frameLimitsSpec)

/-- ITS FALSE NEIGHBOUR: 'it returns false'. Refute it at one input. -/
def frameLimitsWrong : ChangeSpec := { name := "frameLimits", fn := fun _ => fun
  | [d] => { results := [.lit (.bool false)], args := [d] }
  | _ => none }
def FrameLimitsWrongFalsely : Prop := frameLimitsRow.holds Try.pinned (OpenSpec.ofChange frameLimitsWrong)

/-- 'jobmuxlaw27.FrameStreams': WHATEVER THE INPUT: true; the input reads as it did. -/
def frameStreamsSpec : ChangeSpec := { name := "frameStreams", fn := fun _ => fun
  | [d1, d2] => { results := [.lit (.bool true)], args := [d1, d2] }
  | _ => none }
def frameStreamsRow : OpenClaim := { program := "ytfpmfjibbhedoaa", sum := "642d1ee440c65612ffc644b796a6339d237a907e470fef7aec32b991fdf888bf", func := "jobmux/jobmuxlaw27.FrameStreams", spec := "frameStreams", apart := false }
def FrameStreamsSaid : Prop := frameStreamsRow.holds Try.pinned (OpenSpec.ofChange frameStreamsSpec)

/-- ITS FALSE NEIGHBOUR: 'it returns false'. Refute it at one input. -/
def frameStreamsWrong : ChangeSpec := { name := "frameStreams", fn := fun _ => fun
  | [d1, d2] => { results := [.lit (.bool false)], args := [d1, d2] }
  | _ => none }
def FrameStreamsWrongFalsely : Prop := frameStreamsRow.holds Try.pinned (OpenSpec.ofChange frameStreamsWrong)

/-- 'jobmuxlaw28.CommandCodes': WHATEVER THE INPUT: true; the input reads as it did. -/
def commandCodesSpec : ChangeSpec := { name := "commandCodes", fn := fun _ => fun
  | [d1, d2, d3, d4] => { results := [.lit (.bool true)], args := [d1, d2, d3, d4] }
  | _ => none }
def commandCodesRow : OpenClaim := { program := "ytfpmfjibbhedoaa", sum := "642d1ee440c65612ffc644b796a6339d237a907e470fef7aec32b991fdf888bf", func := "jobmux/jobmuxlaw28.CommandCodes", spec := "commandCodes", recurses := true, apart := false }
def CommandCodesSaid : Prop := commandCodesRow.holds Try.pinned (OpenSpec.ofChange commandCodesSpec)

/-- ITS FALSE NEIGHBOUR: 'it returns false'. Refute it at one input. -/
def commandCodesWrong : ChangeSpec := { name := "commandCodes", fn := fun _ => fun
  | [d1, d2, d3, d4] => { results := [.lit (.bool false)], args := [d1, d2, d3, d4] }
  | _ => none }
def CommandCodesWrongFalsely : Prop := commandCodesRow.holds Try.pinned (OpenSpec.ofChange commandCodesWrong)

/-- 'jobmuxlaw28.CommandBack': WHATEVER THE INPUT: true; the input reads as it did. -/
def commandBackSpec : ChangeSpec := { name := "commandBack", fn := fun _ => fun
  | [d1, d2] => { results := [.lit (.bool true)], args := [d1, d2] }
  | _ => none }
def commandBackRow : OpenClaim := { program := "ytfpmfjibbhedoaa", sum := "642d1ee440c65612ffc644b796a6339d237a907e470fef7aec32b991fdf888bf", func := "jobmux/jobmuxlaw28.CommandBack", spec := "commandBack", recurses := true, apart := false }
def CommandBackSaid : Prop := commandBackRow.holds Try.pinned (OpenSpec.ofChange commandBackSpec)

/-- ITS FALSE NEIGHBOUR: 'it returns false'. Refute it at one input. -/
def commandBackWrong : ChangeSpec := { name := "commandBack", fn := fun _ => fun
  | [d1, d2] => { results := [.lit (.bool false)], args := [d1, d2] }
  | _ => none }
def CommandBackWrongFalsely : Prop := commandBackRow.holds Try.pinned (OpenSpec.ofChange commandBackWrong)

/-- 'jobmuxlaw23.ReloadPlans': WHATEVER THE INPUT: true; the input reads as it did. -/
def reloadPlansSpec : ChangeSpec := { name := "reloadPlans", fn := fun _ => fun
  | [d1, d2, d3] => { results := [.lit (.bool true)], args := [d1, d2, d3] }
  | _ => none }
def reloadPlansRow : OpenClaim := { program := "ytfpmfjibbhedoaa", sum := "642d1ee440c65612ffc644b796a6339d237a907e470fef7aec32b991fdf888bf", func := "jobmux/jobmuxlaw23.ReloadPlans", spec := "reloadPlans", unfollowed := true, recurses := true, apart := false }
def ReloadPlansSaid : Prop := reloadPlansRow.holds Try.pinned (OpenSpec.ofChange reloadPlansSpec)

/-- ITS FALSE NEIGHBOUR: 'it returns false'. Refute it at one input. -/
def reloadPlansWrong : ChangeSpec := { name := "reloadPlans", fn := fun _ => fun
  | [d1, d2, d3] => { results := [.lit (.bool false)], args := [d1, d2, d3] }
  | _ => none }
def ReloadPlansWrongFalsely : Prop := reloadPlansRow.holds Try.pinned (OpenSpec.ofChange reloadPlansWrong)

/-- 'jobmuxlaw23.ReloadKeeps': WHATEVER THE INPUT: true; the input reads as it did. -/
def reloadKeepsSpec : ChangeSpec := { name := "reloadKeeps", fn := fun _ => fun
  | [d1, d2] => { results := [.lit (.bool true)], args := [d1, d2] }
  | _ => none }
def reloadKeepsRow : OpenClaim := { program := "ytfpmfjibbhedoaa", sum := "642d1ee440c65612ffc644b796a6339d237a907e470fef7aec32b991fdf888bf", func := "jobmux/jobmuxlaw23.ReloadKeeps", spec := "reloadKeeps", unfollowed := true, recurses := true, apart := false }
def ReloadKeepsSaid : Prop := reloadKeepsRow.holds Try.pinned (OpenSpec.ofChange reloadKeepsSpec)

/-- ITS FALSE NEIGHBOUR: 'it returns false'. Refute it at one input. -/
def reloadKeepsWrong : ChangeSpec := { name := "reloadKeeps", fn := fun _ => fun
  | [d1, d2] => { results := [.lit (.bool false)], args := [d1, d2] }
  | _ => none }
def ReloadKeepsWrongFalsely : Prop := reloadKeepsRow.holds Try.pinned (OpenSpec.ofChange reloadKeepsWrong)

/- THE SECOND FORM. 'bulk': how many values and letters a reading holds, each counted each time it is reached (what is shared counts as often as it is met; a slice's spare places count too). A statement '..UptoSaid' is the law's where the arguments, and the package variables that the reading takes, are together of bulk at most 1048576: NARROWER than '..Said'. Prove '..Said' where nothing that the law and all that it calls make is longer than what came in: it says more and counts as full. Else prove '..UptoSaid'. A law counts once. -/
mutual
def uptoBulk {H : Type} : DataW H → Nat
  | .lit (.string bytes) => bytes.length + 1
  | .lit _ => 1
  | .nil => 1
  | .ptr d => uptoBulk d + 1
  | .slice elems spare => uptoBulkAll elems + uptoBulkAll spare + 1
  | .agg parts => uptoBulkAll parts + 1
  | .iface _ d => uptoBulk d + 1
  | .map entries => uptoBulkEntries entries + 1
  | .held _ => 1
def uptoBulkAll {H : Type} : List (DataW H) → Nat
  | [] => 0
  | d :: r => uptoBulk d + uptoBulkAll r
def uptoBulkEntries {H : Type} : List (Lit × DataW H) → Nat
  | [] => 0
  | x :: r => uptoBulkEntry x + uptoBulkEntries r
def uptoBulkEntry {H : Type} : Lit × DataW H → Nat
  | (.string bytes, d) => bytes.length + uptoBulk d + 1
  | (_, d) => uptoBulk d + 1
 end
def uptoSmall : (H : Type) → List (DataW H) → Bool := fun _ ds => decide (uptoBulkAll ds ≤ 1048576)
def OpenSpec.upto (s : _root_.Go.ChangeSpec) : _root_.Go.OpenSpec := { _root_.Go.OpenSpec.ofChange s with cond := some uptoSmall }

/-- 'jobmuxlaw28.CommandLimits', WHERE WHAT IT READS IS OF BULK AT MOST 1048576: true; the input reads as it did. -/
def commandLimitsUptoRow : OpenClaim := { program := "ytfpmfjibbhedoaa", sum := "642d1ee440c65612ffc644b796a6339d237a907e470fef7aec32b991fdf888bf", func := "jobmux/jobmuxlaw28.CommandLimits", spec := "commandLimits", apart := false, narrowed := true }
def CommandLimitsUptoSaid : Prop := commandLimitsUptoRow.holds Try.pinned (OpenSpec.upto commandLimitsSpec)

/-- 'jobmuxlaw21.LadderSteps', WHERE WHAT IT READS IS OF BULK AT MOST 1048576: true; the input reads as it did. -/
def ladderStepsUptoRow : OpenClaim := { program := "ytfpmfjibbhedoaa", sum := "642d1ee440c65612ffc644b796a6339d237a907e470fef7aec32b991fdf888bf", func := "jobmux/jobmuxlaw21.LadderSteps", spec := "ladderSteps", inPlace := ["math/bits.Add64"], apart := false, narrowed := true }
def LadderStepsUptoSaid : Prop := ladderStepsUptoRow.holds Try.pinned (OpenSpec.upto ladderStepsSpec)

/-- 'jobmuxlaw21.LadderClimbs', WHERE WHAT IT READS IS OF BULK AT MOST 1048576: true; the input reads as it did. -/
def ladderClimbsUptoRow : OpenClaim := { program := "ytfpmfjibbhedoaa", sum := "642d1ee440c65612ffc644b796a6339d237a907e470fef7aec32b991fdf888bf", func := "jobmux/jobmuxlaw21.LadderClimbs", spec := "ladderClimbs", inPlace := ["math/bits.Add64"], apart := false, narrowed := true }
def LadderClimbsUptoSaid : Prop := ladderClimbsUptoRow.holds Try.pinned (OpenSpec.upto ladderClimbsSpec)

/-- 'jobmuxlaw21.LadderShifts', WHERE WHAT IT READS IS OF BULK AT MOST 1048576: true; the input reads as it did. -/
def ladderShiftsUptoRow : OpenClaim := { program := "ytfpmfjibbhedoaa", sum := "642d1ee440c65612ffc644b796a6339d237a907e470fef7aec32b991fdf888bf", func := "jobmux/jobmuxlaw21.LadderShifts", spec := "ladderShifts", inPlace := ["math/bits.Add64"], apart := false, narrowed := true }
def LadderShiftsUptoSaid : Prop := ladderShiftsUptoRow.holds Try.pinned (OpenSpec.upto ladderShiftsSpec)

/-- 'jobmuxlaw27.FrameLimits', WHERE WHAT IT READS IS OF BULK AT MOST 1048576: true; the input reads as it did. -/
def frameLimitsUptoRow : OpenClaim := { program := "ytfpmfjibbhedoaa", sum := "642d1ee440c65612ffc644b796a6339d237a907e470fef7aec32b991fdf888bf", func := "jobmux/jobmuxlaw27.FrameLimits", spec := "frameLimits", apart := false, narrowed := true }
def FrameLimitsUptoSaid : Prop := frameLimitsUptoRow.holds Try.pinned (OpenSpec.upto frameLimitsSpec)

/-- 'jobmuxlaw27.FrameStreams', WHERE WHAT IT READS IS OF BULK AT MOST 1048576: true; the input reads as it did. -/
def frameStreamsUptoRow : OpenClaim := { program := "ytfpmfjibbhedoaa", sum := "642d1ee440c65612ffc644b796a6339d237a907e470fef7aec32b991fdf888bf", func := "jobmux/jobmuxlaw27.FrameStreams", spec := "frameStreams", apart := false, narrowed := true }
def FrameStreamsUptoSaid : Prop := frameStreamsUptoRow.holds Try.pinned (OpenSpec.upto frameStreamsSpec)

/-- 'jobmuxlaw28.CommandCodes', WHERE WHAT IT READS IS OF BULK AT MOST 1048576: true; the input reads as it did. -/
def commandCodesUptoRow : OpenClaim := { program := "ytfpmfjibbhedoaa", sum := "642d1ee440c65612ffc644b796a6339d237a907e470fef7aec32b991fdf888bf", func := "jobmux/jobmuxlaw28.CommandCodes", spec := "commandCodes", recurses := true, apart := false, narrowed := true }
def CommandCodesUptoSaid : Prop := commandCodesUptoRow.holds Try.pinned (OpenSpec.upto commandCodesSpec)

/-- 'jobmuxlaw28.CommandBack', WHERE WHAT IT READS IS OF BULK AT MOST 1048576: true; the input reads as it did. -/
def commandBackUptoRow : OpenClaim := { program := "ytfpmfjibbhedoaa", sum := "642d1ee440c65612ffc644b796a6339d237a907e470fef7aec32b991fdf888bf", func := "jobmux/jobmuxlaw28.CommandBack", spec := "commandBack", recurses := true, apart := false, narrowed := true }
def CommandBackUptoSaid : Prop := commandBackUptoRow.holds Try.pinned (OpenSpec.upto commandBackSpec)

/-- 'jobmuxlaw23.ReloadPlans', WHERE WHAT IT READS IS OF BULK AT MOST 1048576: true; the input reads as it did. -/
def reloadPlansUptoRow : OpenClaim := { program := "ytfpmfjibbhedoaa", sum := "642d1ee440c65612ffc644b796a6339d237a907e470fef7aec32b991fdf888bf", func := "jobmux/jobmuxlaw23.ReloadPlans", spec := "reloadPlans", unfollowed := true, recurses := true, apart := false, narrowed := true }
def ReloadPlansUptoSaid : Prop := reloadPlansUptoRow.holds Try.pinned (OpenSpec.upto reloadPlansSpec)

/-- 'jobmuxlaw23.ReloadKeeps', WHERE WHAT IT READS IS OF BULK AT MOST 1048576: true; the input reads as it did. -/
def reloadKeepsUptoRow : OpenClaim := { program := "ytfpmfjibbhedoaa", sum := "642d1ee440c65612ffc644b796a6339d237a907e470fef7aec32b991fdf888bf", func := "jobmux/jobmuxlaw23.ReloadKeeps", spec := "reloadKeeps", unfollowed := true, recurses := true, apart := false, narrowed := true }
def ReloadKeepsUptoSaid : Prop := reloadKeepsUptoRow.holds Try.pinned (OpenSpec.upto reloadKeepsSpec)

end Rows
end Go.Proofs.Ytfpmfjibbhedoaa
