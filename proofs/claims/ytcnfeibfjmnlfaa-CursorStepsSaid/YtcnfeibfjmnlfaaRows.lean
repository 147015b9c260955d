/-
  No cell of these rows narrows 'for every input' (looked for: loops, veiled, ifaces, maps, wideKeys, modest, calm, conditions, laid).
  DERIVED. THE GIVEN ROWS OF THIS SEAT. 11 by the template 'for every input the law returns true; each argument reads behind the call as it read before'; 0 by the template 'total and deterministic' (their statements: YtcnfeibfjmnlfaaTotals.lean).
  GIVEN WITH THE SEED: the statements are not yours to turn. If you find one false, say at which input.
  Laid BY PROGRAM, IN A SANDBOX (cutbox-rows.mjs): the forced cells as the released guide's own fill.sh prints them over the translation 8d3f170546f57ec3… (all of the seat's roots in one cut). By AI agents, Wed Nov 11 2026. No macro, syntax, notation, axiom, sorry.
-/
import Derived.Test.YtcnfeibfjmnlfaaChecked
import GoSem.Claim
import GoSem.ClaimJoined
import GoSem.ClaimMapViews
import Derived.JoinedTies
import Derived.KernelRfl
namespace Go.Proofs.Ytcnfeibfjmnlfaa
/- THE CELL 'sum', in the pinned program and in every row, IS THE sha256 OF THE DUMP (.gsa) THAT YtcnfeibfjmnlfaaProg.lean LOADS. Nothing in Lean hashes anything: it is a label: what it is worth is what the hold of that sum in a sandbox is worth. -/
noncomputable def Try.pinned : Pinned := { name := "ytcnfeibfjmnlfaa", sum := "8d3f170546f57ec39735cd338cd0a0710315c29f75c4aade461b2a39a652bed7", checked := Try.checked }
namespace Rows
def none {H : Type} : Left H := { results := [], args := [] }

/-- 'jobmuxlaw17.CursorMoves': WHATEVER THE INPUT: true; the input reads as it did. -/
def cursorMovesSpec : ChangeSpec := { name := "cursorMoves", fn := fun _ => fun
  | [d1, d2, d3, d4, d5, d6, d7] => { results := [.lit (.bool true)], args := [d1, d2, d3, d4, d5, d6, d7] }
  | _ => none }
def cursorMovesRow : OpenClaim := { program := "ytcnfeibfjmnlfaa", sum := "8d3f170546f57ec39735cd338cd0a0710315c29f75c4aade461b2a39a652bed7", func := "jobmux/jobmuxlaw17.CursorMoves", spec := "cursorMoves", apart := false }
def CursorMovesSaid : Prop := cursorMovesRow.holds Try.pinned (OpenSpec.ofChange cursorMovesSpec)

/-- ITS FALSE NEIGHBOUR: 'it returns false'. Refute it at one input. -/
def cursorMovesWrong : ChangeSpec := { name := "cursorMoves", fn := fun _ => fun
  | [d1, d2, d3, d4, d5, d6, d7] => { results := [.lit (.bool false)], args := [d1, d2, d3, d4, d5, d6, d7] }
  | _ => none }
def CursorMovesWrongFalsely : Prop := cursorMovesRow.holds Try.pinned (OpenSpec.ofChange cursorMovesWrong)

/-- 'jobmuxlaw17.CursorSteps': WHATEVER THE INPUT: true; the input reads as it did. -/
def cursorStepsSpec : ChangeSpec := { name := "cursorSteps", fn := fun _ => fun
  | [d1, d2, d3] => { results := [.lit (.bool true)], args := [d1, d2, d3] }
  | _ => none }
def cursorStepsRow : OpenClaim := { program := "ytcnfeibfjmnlfaa", sum := "8d3f170546f57ec39735cd338cd0a0710315c29f75c4aade461b2a39a652bed7", func := "jobmux/jobmuxlaw17.CursorSteps", spec := "cursorSteps", apart := false }
def CursorStepsSaid : Prop := cursorStepsRow.holds Try.pinned (OpenSpec.ofChange cursorStepsSpec)

/-- ITS FALSE NEIGHBOUR: 'it returns false'. Refute it at one input. -/
def cursorStepsWrong : ChangeSpec := { name := "cursorSteps", fn := fun _ => fun
  | [d1, d2, d3] => { results := [.lit (.bool false)], args := [d1, d2, d3] }
  | _ => none }
def CursorStepsWrongFalsely : Prop := cursorStepsRow.holds Try.pinned (OpenSpec.ofChange cursorStepsWrong)

/-- 'jobmuxlaw17.CursorStays': WHATEVER THE INPUT: true; the input reads as it did. -/
def cursorStaysSpec : ChangeSpec := { name := "cursorStays", fn := fun _ => fun
  | [d1, d2] => { results := [.lit (.bool true)], args := [d1, d2] }
  | _ => none }
def cursorStaysRow : OpenClaim := { program := "ytcnfeibfjmnlfaa", sum := "8d3f170546f57ec39735cd338cd0a0710315c29f75c4aade461b2a39a652bed7", func := "jobmux/jobmuxlaw17.CursorStays", spec := "cursorStays", apart := false }
def CursorStaysSaid : Prop := cursorStaysRow.holds Try.pinned (OpenSpec.ofChange cursorStaysSpec)

/-- ITS FALSE NEIGHBOUR: 'it returns false'. Refute it at one input. -/
def cursorStaysWrong : ChangeSpec := { name := "cursorStays", fn := fun _ => fun
  | [d1, d2] => { results := [.lit (.bool false)], args := [d1, d2] }
  | _ => none }
def CursorStaysWrongFalsely : Prop := cursorStaysRow.holds Try.pinned (OpenSpec.ofChange cursorStaysWrong)

/-- 'jobmuxlaw29.OutqOrder': WHATEVER THE INPUT: true; the input reads as it did. -/
def outqOrderSpec : ChangeSpec := { name := "outqOrder", fn := fun _ => fun
  | [d1, d2] => { results := [.lit (.bool true)], args := [d1, d2] }
  | _ => none }
def outqOrderRow : OpenClaim := { program := "ytcnfeibfjmnlfaa", sum := "8d3f170546f57ec39735cd338cd0a0710315c29f75c4aade461b2a39a652bed7", func := "jobmux/jobmuxlaw29.OutqOrder", spec := "outqOrder", apart := false }
def OutqOrderSaid : Prop := outqOrderRow.holds Try.pinned (OpenSpec.ofChange outqOrderSpec)

/-- ITS FALSE NEIGHBOUR: 'it returns false'. Refute it at one input. -/
def outqOrderWrong : ChangeSpec := { name := "outqOrder", fn := fun _ => fun
  | [d1, d2] => { results := [.lit (.bool false)], args := [d1, d2] }
  | _ => none }
def OutqOrderWrongFalsely : Prop := outqOrderRow.holds Try.pinned (OpenSpec.ofChange outqOrderWrong)

/-- 'jobmuxlaw01.TicksSums': WHATEVER THE INPUT: true; the input reads as it did. -/
def ticksSumsSpec : ChangeSpec := { name := "ticksSums", fn := fun _ => fun
  | [d1, d2, d3] => { results := [.lit (.bool true)], args := [d1, d2, d3] }
  | _ => none }
def ticksSumsRow : OpenClaim := { program := "ytcnfeibfjmnlfaa", sum := "8d3f170546f57ec39735cd338cd0a0710315c29f75c4aade461b2a39a652bed7", func := "jobmux/jobmuxlaw01.TicksSums", spec := "ticksSums", inPlace := ["math/bits.Add64", "math/bits.Sub64"], apart := false }
def TicksSumsSaid : Prop := ticksSumsRow.holds Try.pinned (OpenSpec.ofChange ticksSumsSpec)

/-- ITS FALSE NEIGHBOUR: 'it returns false'. Refute it at one input. -/
def ticksSumsWrong : ChangeSpec := { name := "ticksSums", fn := fun _ => fun
  | [d1, d2, d3] => { results := [.lit (.bool false)], args := [d1, d2, d3] }
  | _ => none }
def TicksSumsWrongFalsely : Prop := ticksSumsRow.holds Try.pinned (OpenSpec.ofChange ticksSumsWrong)

/-- 'jobmuxlaw01.TicksDelays': WHATEVER THE INPUT: true; the input reads as it did. -/
def ticksDelaysSpec : ChangeSpec := { name := "ticksDelays", fn := fun _ => fun
  | [d1, d2, d3, d4] => { results := [.lit (.bool true)], args := [d1, d2, d3, d4] }
  | _ => none }
def ticksDelaysRow : OpenClaim := { program := "ytcnfeibfjmnlfaa", sum := "8d3f170546f57ec39735cd338cd0a0710315c29f75c4aade461b2a39a652bed7", func := "jobmux/jobmuxlaw01.TicksDelays", spec := "ticksDelays", inPlace := ["math/bits.Add64", "math/bits.Sub64"], apart := false }
def TicksDelaysSaid : Prop := ticksDelaysRow.holds Try.pinned (OpenSpec.ofChange ticksDelaysSpec)

/-- ITS FALSE NEIGHBOUR: 'it returns false'. Refute it at one input. -/
def ticksDelaysWrong : ChangeSpec := { name := "ticksDelays", fn := fun _ => fun
  | [d1, d2, d3, d4] => { results := [.lit (.bool false)], args := [d1, d2, d3, d4] }
  | _ => none }
def TicksDelaysWrongFalsely : Prop := ticksDelaysRow.holds Try.pinned (OpenSpec.ofChange ticksDelaysWrong)

/-- 'jobmuxlaw01.TicksRing': WHATEVER THE INPUT: true; the input reads as it did. -/
def ticksRingSpec : ChangeSpec := { name := "ticksRing", fn := fun _ => fun
  | [d1, d2, d3] => { results := [.lit (.bool true)], args := [d1, d2, d3] }
  | _ => none }
def ticksRingRow : OpenClaim := { program := "ytcnfeibfjmnlfaa", sum := "8d3f170546f57ec39735cd338cd0a0710315c29f75c4aade461b2a39a652bed7", func := "jobmux/jobmuxlaw01.TicksRing", spec := "ticksRing", inPlace := ["math/bits.Add64", "math/bits.Sub64"], apart := false }
def TicksRingSaid : Prop := ticksRingRow.holds Try.pinned (OpenSpec.ofChange ticksRingSpec)

/-- ITS FALSE NEIGHBOUR: 'it returns false'. Refute it at one input. -/
def ticksRingWrong : ChangeSpec := { name := "ticksRing", fn := fun _ => fun
  | [d1, d2, d3] => { results := [.lit (.bool false)], args := [d1, d2, d3] }
  | _ => none }
def TicksRingWrongFalsely : Prop := ticksRingRow.holds Try.pinned (OpenSpec.ofChange ticksRingWrong)

/-- 'jobmuxlaw01.TicksGrows': WHATEVER THE INPUT: true; the input reads as it did. -/
def ticksGrowsSpec : ChangeSpec := { name := "ticksGrows", fn := fun _ => fun
  | [d1, d2, d3, d4, d5, d6] => { results := [.lit (.bool true)], args := [d1, d2, d3, d4, d5, d6] }
  | _ => none }
def ticksGrowsRow : OpenClaim := { program := "ytcnfeibfjmnlfaa", sum := "8d3f170546f57ec39735cd338cd0a0710315c29f75c4aade461b2a39a652bed7", func := "jobmux/jobmuxlaw01.TicksGrows", spec := "ticksGrows", inPlace := ["math/bits.Add64", "math/bits.Sub64"], apart := false }
def TicksGrowsSaid : Prop := ticksGrowsRow.holds Try.pinned (OpenSpec.ofChange ticksGrowsSpec)

/-- ITS FALSE NEIGHBOUR: 'it returns false'. Refute it at one input. -/
def ticksGrowsWrong : ChangeSpec := { name := "ticksGrows", fn := fun _ => fun
  | [d1, d2, d3, d4, d5, d6] => { results := [.lit (.bool false)], args := [d1, d2, d3, d4, d5, d6] }
  | _ => none }
def TicksGrowsWrongFalsely : Prop := ticksGrowsRow.holds Try.pinned (OpenSpec.ofChange ticksGrowsWrong)

/-- 'jobmuxlaw01.TicksDoubles': WHATEVER THE INPUT: true; the input reads as it did. -/
def ticksDoublesSpec : ChangeSpec := { name := "ticksDoubles", fn := fun _ => fun
  | [d1, d2, d3] => { results := [.lit (.bool true)], args := [d1, d2, d3] }
  | _ => none }
def ticksDoublesRow : OpenClaim := { program := "ytcnfeibfjmnlfaa", sum := "8d3f170546f57ec39735cd338cd0a0710315c29f75c4aade461b2a39a652bed7", func := "jobmux/jobmuxlaw01.TicksDoubles", spec := "ticksDoubles", inPlace := ["math/bits.Add64", "math/bits.Sub64"], apart := false }
def TicksDoublesSaid : Prop := ticksDoublesRow.holds Try.pinned (OpenSpec.ofChange ticksDoublesSpec)

/-- ITS FALSE NEIGHBOUR: 'it returns false'. Refute it at one input. -/
def ticksDoublesWrong : ChangeSpec := { name := "ticksDoubles", fn := fun _ => fun
  | [d1, d2, d3] => { results := [.lit (.bool false)], args := [d1, d2, d3] }
  | _ => none }
def TicksDoublesWrongFalsely : Prop := ticksDoublesRow.holds Try.pinned (OpenSpec.ofChange ticksDoublesWrong)

/-- 'jobmuxlaw03.BurstLimits': WHATEVER THE INPUT: true; the input reads as it did. -/
def burstLimitsSpec : ChangeSpec := { name := "burstLimits", fn := fun _ => fun
  | [d1, d2, d3] => { results := [.lit (.bool true)], args := [d1, d2, d3] }
  | _ => none }
def burstLimitsRow : OpenClaim := { program := "ytcnfeibfjmnlfaa", sum := "8d3f170546f57ec39735cd338cd0a0710315c29f75c4aade461b2a39a652bed7", func := "jobmux/jobmuxlaw03.BurstLimits", spec := "burstLimits", inPlace := ["math/bits.Sub64"], unfollowed := true, recurses := true, apart := false }
def BurstLimitsSaid : Prop := burstLimitsRow.holds Try.pinned (OpenSpec.ofChange burstLimitsSpec)

/-- ITS FALSE NEIGHBOUR: 'it returns false'. Refute it at one input. -/
def burstLimitsWrong : ChangeSpec := { name := "burstLimits", fn := fun _ => fun
  | [d1, d2, d3] => { results := [.lit (.bool false)], args := [d1, d2, d3] }
  | _ => none }
def BurstLimitsWrongFalsely : Prop := burstLimitsRow.holds Try.pinned (OpenSpec.ofChange burstLimitsWrong)

/-- 'jobmuxlaw03.BurstForgets': WHATEVER THE INPUT: true; the input reads as it did. -/
def burstForgetsSpec : ChangeSpec := { name := "burstForgets", fn := fun _ => fun
  | [d1, d2, d3, d4] => { results := [.lit (.bool true)], args := [d1, d2, d3, d4] }
  | _ => none }
def burstForgetsRow : OpenClaim := { program := "ytcnfeibfjmnlfaa", sum := "8d3f170546f57ec39735cd338cd0a0710315c29f75c4aade461b2a39a652bed7", func := "jobmux/jobmuxlaw03.BurstForgets", spec := "burstForgets", inPlace := ["math/bits.Sub64"], unfollowed := true, recurses := true, apart := false }
def BurstForgetsSaid : Prop := burstForgetsRow.holds Try.pinned (OpenSpec.ofChange burstForgetsSpec)

/-- ITS FALSE NEIGHBOUR: 'it returns false'. Refute it at one input. -/
def burstForgetsWrong : ChangeSpec := { name := "burstForgets", fn := fun _ => fun
  | [d1, d2, d3, d4] => { results := [.lit (.bool false)], args := [d1, d2, d3, d4] }
  | _ => none }
def BurstForgetsWrongFalsely : Prop := burstForgetsRow.holds Try.pinned (OpenSpec.ofChange burstForgetsWrong)

/- THE SECOND FORM. 'bulk': how many values and letters a reading holds, each counted each time it is reached (what is shared counts as often as it is met; a slice's spare places count too). A statement '..UptoSaid' is the law's where the arguments, and the package variables that the reading takes, are together of bulk at most 1048576: NARROWER than '..Said'. Prove '..Said' where nothing that the law and all that it calls make is longer than what came in: it says more and counts as full. Else prove '..UptoSaid'. A law counts once. -/
mutual
def uptoBulk {H : Type} : DataW H → Nat
  | .lit (.string bytes) => bytes.length + 1
  | .lit _ => 1
  | .nil => 1
  | .ptr d => uptoBulk d + 1
  | .slice elems spare => uptoBulkAll elems + uptoBulkAll spare + 1
  | .agg parts => uptoBulkAll parts + 1
  | .iface _ d => uptoBulk d + 1
  | .map entries => uptoBulkEntries entries + 1
  | .held _ => 1
def uptoBulkAll {H : Type} : List (DataW H) → Nat
  | [] => 0
  | d :: r => uptoBulk d + uptoBulkAll r
def uptoBulkEntries {H : Type} : List (Lit × DataW H) → Nat
  | [] => 0
  | x :: r => uptoBulkEntry x + uptoBulkEntries r
def uptoBulkEntry {H : Type} : Lit × DataW H → Nat
  | (.string bytes, d) => bytes.length + uptoBulk d + 1
  | (_, d) => uptoBulk d + 1
 end
def uptoSmall : (H : Type) → List (DataW H) → Bool := fun _ ds => decide (uptoBulkAll ds ≤ 1048576)
def OpenSpec.upto (s : _root_.Go.ChangeSpec) : _root_.Go.OpenSpec := { _root_.Go.OpenSpec.ofChange s with cond := some uptoSmall }

/-- 'jobmuxlaw17.CursorMoves', WHERE WHAT IT READS IS OF BULK AT MOST 1048576: true; the input reads as it did. -/
def cursorMovesUptoRow : OpenClaim := { program := "ytcnfeibfjmnlfaa", sum := "8d3f170546f57ec39735cd338cd0a0710315c29f75c4aade461b2a39a652bed7", func := "jobmux/jobmuxlaw17.CursorMoves", spec := "cursorMoves", apart := false, narrowed := true }
def CursorMovesUptoSaid : Prop := cursorMovesUptoRow.holds Try.pinned (OpenSpec.upto cursorMovesSpec)

/-- 'jobmuxlaw17.CursorSteps', WHERE WHAT IT READS IS OF BULK AT MOST 1048576: true; the input reads as it did. -/
def cursorStepsUptoRow : OpenClaim := { program := "ytcnfeibfjmnlfaa", sum := "8d3f170546f57ec39735cd338cd0a0710315c29f75c4aade461b2a39a652bed7", func := "jobmux/jobmuxlaw17.CursorSteps", spec := "cursorSteps", apart := false, narrowed := true }
def CursorStepsUptoSaid : Prop := cursorStepsUptoRow.holds Try.pinned (OpenSpec.upto cursorStepsSpec)

/-- 'jobmuxlaw17.CursorStays', WHERE WHAT IT READS IS OF BULK AT MOST 1048576: true; the input reads as it did. -/
def cursorStaysUptoRow : OpenClaim := { program := "ytcnfeibfjmnlfaa", sum := "8d3f170546f57ec39735cd338cd0a0710315c29f75c4aade461b2a39a652bed7", func := "jobmux/jobmuxlaw17.CursorStays", spec := "cursorStays", apart := false, narrowed := true }
def CursorStaysUptoSaid : Prop := cursorStaysUptoRow.holds Try.pinned (OpenSpec.upto cursorStaysSpec)

/-- 'jobmuxlaw29.OutqOrder', WHERE WHAT IT READS IS OF BULK AT MOST 1048576: true; the input reads as it did. -/
def outqOrderUptoRow : OpenClaim := { program := "ytcnfeibfjmnlfaa", sum := "8d3f170546f57ec39735cd338cd0a0710315c29f75c4aade461b2a39a652bed7", func := "jobmux/jobmuxlaw29.OutqOrder", spec := "outqOrder", apart := false, narrowed := true }
def OutqOrderUptoSaid : Prop := outqOrderUptoRow.holds Try.pinned (OpenSpec.upto outqOrderSpec)

/-- 'jobmuxlaw01.TicksSums', WHERE WHAT IT READS IS OF BULK AT MOST 1048576: true; the input reads as it did. -/
def ticksSumsUptoRow : OpenClaim := { program := "ytcnfeibfjmnlfaa", sum := "8d3f170546f57ec39735cd338cd0a0710315c29f75c4aade461b2a39a652bed7", func := "jobmux/jobmuxlaw01.TicksSums", spec := "ticksSums", inPlace := ["math/bits.Add64", "math/bits.Sub64"], apart := false, narrowed := true }
def TicksSumsUptoSaid : Prop := ticksSumsUptoRow.holds Try.pinned (OpenSpec.upto ticksSumsSpec)

/-- 'jobmuxlaw01.TicksDelays', WHERE WHAT IT READS IS OF BULK AT MOST 1048576: true; the input reads as it did. -/
def ticksDelaysUptoRow : OpenClaim := { program := "ytcnfeibfjmnlfaa", sum := "8d3f170546f57ec39735cd338cd0a0710315c29f75c4aade461b2a39a652bed7", func := "jobmux/jobmuxlaw01.TicksDelays", spec := "ticksDelays", inPlace := ["math/bits.Add64", "math/bits.Sub64"], apart := false, narrowed := true }
def TicksDelaysUptoSaid : Prop := ticksDelaysUptoRow.holds Try.pinned (OpenSpec.upto ticksDelaysSpec)

/-- 'jobmuxlaw01.TicksRing', WHERE WHAT IT READS IS OF BULK AT MOST 1048576: true; the input reads as it did. -/
def ticksRingUptoRow : OpenClaim := { program := "ytcnfeibfjmnlfaa", sum := "8d3f170546f57ec39735cd338cd0a0710315c29f75c4aade461b2a39a652bed7", func := "jobmux/jobmuxlaw01.TicksRing", spec := "ticksRing", inPlace := ["math/bits.Add64", "math/bits.Sub64"], apart := false, narrowed := true }
def TicksRingUptoSaid : Prop := ticksRingUptoRow.holds Try.pinned (OpenSpec.upto ticksRingSpec)

/-- 'jobmuxlaw01.TicksGrows', WHERE WHAT IT READS IS OF BULK AT MOST 1048576: true; the input reads as it did. -/
def ticksGrowsUptoRow : OpenClaim := { program := "ytcnfeibfjmnlfaa", sum := "8d3f170546f57ec39735cd338cd0a0710315c29f75c4aade461b2a39a652bed7", func := "jobmux/jobmuxlaw01.TicksGrows", spec := "ticksGrows", inPlace := ["math/bits.Add64", "math/bits.Sub64"], apart := false, narrowed := true }
def TicksGrowsUptoSaid : Prop := ticksGrowsUptoRow.holds Try.pinned (OpenSpec.upto ticksGrowsSpec)

/-- 'jobmuxlaw01.TicksDoubles', WHERE WHAT IT READS IS OF BULK AT MOST 1048576: true; the input reads as it did. -/
def ticksDoublesUptoRow : OpenClaim := { program := "ytcnfeibfjmnlfaa", sum := "8d3f170546f57ec39735cd338cd0a0710315c29f75c4aade461b2a39a652bed7", func := "jobmux/jobmuxlaw01.TicksDoubles", spec := "ticksDoubles", inPlace := ["math/bits.Add64", "math/bits.Sub64"], apart := false, narrowed := true }
def TicksDoublesUptoSaid : Prop := ticksDoublesUptoRow.holds Try.pinned (OpenSpec.upto ticksDoublesSpec)

/-- 'jobmuxlaw03.BurstLimits', WHERE WHAT IT READS IS OF BULK AT MOST 1048576: true; the input reads as it did. -/
def burstLimitsUptoRow : OpenClaim := { program := "ytcnfeibfjmnlfaa", sum := "8d3f170546f57ec39735cd338cd0a0710315c29f75c4aade461b2a39a652bed7", func := "jobmux/jobmuxlaw03.BurstLimits", spec := "burstLimits", inPlace := ["math/bits.Sub64"], unfollowed := true, recurses := true, apart := false, narrowed := true }
def BurstLimitsUptoSaid : Prop := burstLimitsUptoRow.holds Try.pinned (OpenSpec.upto burstLimitsSpec)

/-- 'jobmuxlaw03.BurstForgets', WHERE WHAT IT READS IS OF BULK AT MOST 1048576: true; the input reads as it did. -/
def burstForgetsUptoRow : OpenClaim := { program := "ytcnfeibfjmnlfaa", sum := "8d3f170546f57ec39735cd338cd0a0710315c29f75c4aade461b2a39a652bed7", func := "jobmux/jobmuxlaw03.BurstForgets", spec := "burstForgets", inPlace := ["math/bits.Sub64"], unfollowed := true, recurses := true, apart := false, narrowed := true }
def BurstForgetsUptoSaid : Prop := burstForgetsUptoRow.holds Try.pinned (OpenSpec.upto burstForgetsSpec)

end Rows
end Go.Proofs.Ytcnfeibfjmnlfaa
