/-
  No cell of these rows narrows 'for every input' (looked for: loops, veiled, ifaces, maps, wideKeys, modest, calm, conditions, laid).
  DERIVED. THE GIVEN ROWS OF THIS SEAT. 10 by the template 'for every input the law returns true; each argument reads behind the call as it read before'; 0 by the template 'total and deterministic' (their statements: YtidfahjebjaneaaTotals.lean).
  GIVEN WITH THE SEED: the statements are not yours to turn. If you find one false, say at which input.
  Laid BY PROGRAM, IN A SANDBOX (cutbox-rows.mjs): the forced cells as the released guide's own fill.sh prints them over the translation c0e944b605f640b3… (all of the seat's roots in one cut). By AI agents, Wed Nov 11 2026. No macro, syntax, notation, axiom, sorry.
-/
import Derived.Test.YtidfahjebjaneaaChecked
import GoSem.Claim
import GoSem.ClaimJoined
import GoSem.ClaimMapViews
import Derived.JoinedTies
import Derived.KernelRfl
namespace Go.Proofs.Ytidfahjebjaneaa
/- THE CELL 'sum', in the pinned program and in every row, IS THE sha256 OF THE DUMP (.gsa) THAT YtidfahjebjaneaaProg.lean LOADS. Nothing in Lean hashes anything: it is a label: what it is worth is what the hold of that sum in a sandbox is worth. -/
noncomputable def Try.pinned : Pinned := { name := "ytidfahjebjaneaa", sum := "c0e944b605f640b30f5c5cb5c4886a76275cf24771d69fae9a9f8983278b6e20", checked := Try.checked }
namespace Rows
def none {H : Type} : Left H := { results := [], args := [] }

/-- 'psalterylaw06.CheckSums': WHATEVER THE INPUT: true; the input reads as it did. -/
def checkSumsSpec : ChangeSpec := { name := "checkSums", fn := fun _ => fun
  | [d1, d2, d3] => { results := [.lit (.bool true)], args := [d1, d2, d3] }
  | _ => none }
def checkSumsRow : OpenClaim := { program := "ytidfahjebjaneaa", sum := "c0e944b605f640b30f5c5cb5c4886a76275cf24771d69fae9a9f8983278b6e20", func := "psaltery/psalterylaw06.CheckSums", spec := "checkSums", apart := false }
def CheckSumsSaid : Prop := checkSumsRow.holds Try.pinned (OpenSpec.ofChange checkSumsSpec)

/-- ITS FALSE NEIGHBOUR: 'it returns false'. Refute it at one input. -/
def checkSumsWrong : ChangeSpec := { name := "checkSums", fn := fun _ => fun
  | [d1, d2, d3] => { results := [.lit (.bool false)], args := [d1, d2, d3] }
  | _ => none }
def CheckSumsWrongFalsely : Prop := checkSumsRow.holds Try.pinned (OpenSpec.ofChange checkSumsWrong)

/-- 'psalterylaw28.SlotsTurns': WHATEVER THE INPUT: true; the input reads as it did. -/
def slotsTurnsSpec : ChangeSpec := { name := "slotsTurns", fn := fun _ => fun
  | [d1, d2, d3, d4] => { results := [.lit (.bool true)], args := [d1, d2, d3, d4] }
  | _ => none }
def slotsTurnsRow : OpenClaim := { program := "ytidfahjebjaneaa", sum := "c0e944b605f640b30f5c5cb5c4886a76275cf24771d69fae9a9f8983278b6e20", func := "psaltery/psalterylaw28.SlotsTurns", spec := "slotsTurns", apart := false }
def SlotsTurnsSaid : Prop := slotsTurnsRow.holds Try.pinned (OpenSpec.ofChange slotsTurnsSpec)

/-- ITS FALSE NEIGHBOUR: 'it returns false'. Refute it at one input. -/
def slotsTurnsWrong : ChangeSpec := { name := "slotsTurns", fn := fun _ => fun
  | [d1, d2, d3, d4] => { results := [.lit (.bool false)], args := [d1, d2, d3, d4] }
  | _ => none }
def SlotsTurnsWrongFalsely : Prop := slotsTurnsRow.holds Try.pinned (OpenSpec.ofChange slotsTurnsWrong)

/-- 'psalterylaw27.QueuePlays': WHATEVER THE INPUT: true; the input reads as it did. -/
def queuePlaysSpec : ChangeSpec := { name := "queuePlays", fn := fun _ => fun
  | [d1, d2, d3] => { results := [.lit (.bool true)], args := [d1, d2, d3] }
  | _ => none }
def queuePlaysRow : OpenClaim := { program := "ytidfahjebjaneaa", sum := "c0e944b605f640b30f5c5cb5c4886a76275cf24771d69fae9a9f8983278b6e20", func := "psaltery/psalterylaw27.QueuePlays", spec := "queuePlays", apart := false }
def QueuePlaysSaid : Prop := queuePlaysRow.holds Try.pinned (OpenSpec.ofChange queuePlaysSpec)

/-- ITS FALSE NEIGHBOUR: 'it returns false'. Refute it at one input. -/
def queuePlaysWrong : ChangeSpec := { name := "queuePlays", fn := fun _ => fun
  | [d1, d2, d3] => { results := [.lit (.bool false)], args := [d1, d2, d3] }
  | _ => none }
def QueuePlaysWrongFalsely : Prop := queuePlaysRow.holds Try.pinned (OpenSpec.ofChange queuePlaysWrong)

/-- 'psalterylaw27.QueueFew': WHATEVER THE INPUT: true; the input reads as it did. -/
def queueFewSpec : ChangeSpec := { name := "queueFew", fn := fun _ => fun
  | [d1, d2] => { results := [.lit (.bool true)], args := [d1, d2] }
  | _ => none }
def queueFewRow : OpenClaim := { program := "ytidfahjebjaneaa", sum := "c0e944b605f640b30f5c5cb5c4886a76275cf24771d69fae9a9f8983278b6e20", func := "psaltery/psalterylaw27.QueueFew", spec := "queueFew", apart := false }
def QueueFewSaid : Prop := queueFewRow.holds Try.pinned (OpenSpec.ofChange queueFewSpec)

/-- ITS FALSE NEIGHBOUR: 'it returns false'. Refute it at one input. -/
def queueFewWrong : ChangeSpec := { name := "queueFew", fn := fun _ => fun
  | [d1, d2] => { results := [.lit (.bool false)], args := [d1, d2] }
  | _ => none }
def QueueFewWrongFalsely : Prop := queueFewRow.holds Try.pinned (OpenSpec.ofChange queueFewWrong)

/-- 'psalterylaw27.QueueNil': WHATEVER THE INPUT: true; the input reads as it did. -/
def queueNilSpec : ChangeSpec := { name := "queueNil", fn := fun _ => fun
  | [d1, d2] => { results := [.lit (.bool true)], args := [d1, d2] }
  | _ => none }
def queueNilRow : OpenClaim := { program := "ytidfahjebjaneaa", sum := "c0e944b605f640b30f5c5cb5c4886a76275cf24771d69fae9a9f8983278b6e20", func := "psaltery/psalterylaw27.QueueNil", spec := "queueNil", apart := false }
def QueueNilSaid : Prop := queueNilRow.holds Try.pinned (OpenSpec.ofChange queueNilSpec)

/-- ITS FALSE NEIGHBOUR: 'it returns false'. Refute it at one input. -/
def queueNilWrong : ChangeSpec := { name := "queueNil", fn := fun _ => fun
  | [d1, d2] => { results := [.lit (.bool false)], args := [d1, d2] }
  | _ => none }
def QueueNilWrongFalsely : Prop := queueNilRow.holds Try.pinned (OpenSpec.ofChange queueNilWrong)

/-- 'psalterylaw28.SlotsEvents': WHATEVER THE INPUT: true; the input reads as it did. -/
def slotsEventsSpec : ChangeSpec := { name := "slotsEvents", fn := fun _ => fun
  | [d1, d2, d3, d4] => { results := [.lit (.bool true)], args := [d1, d2, d3, d4] }
  | _ => none }
def slotsEventsRow : OpenClaim := { program := "ytidfahjebjaneaa", sum := "c0e944b605f640b30f5c5cb5c4886a76275cf24771d69fae9a9f8983278b6e20", func := "psaltery/psalterylaw28.SlotsEvents", spec := "slotsEvents", apart := false }
def SlotsEventsSaid : Prop := slotsEventsRow.holds Try.pinned (OpenSpec.ofChange slotsEventsSpec)

/-- ITS FALSE NEIGHBOUR: 'it returns false'. Refute it at one input. -/
def slotsEventsWrong : ChangeSpec := { name := "slotsEvents", fn := fun _ => fun
  | [d1, d2, d3, d4] => { results := [.lit (.bool false)], args := [d1, d2, d3, d4] }
  | _ => none }
def SlotsEventsWrongFalsely : Prop := slotsEventsRow.holds Try.pinned (OpenSpec.ofChange slotsEventsWrong)

/-- 'psalterylaw28.SlotsOnce': WHATEVER THE INPUT: true; the input reads as it did. -/
def slotsOnceSpec : ChangeSpec := { name := "slotsOnce", fn := fun _ => fun
  | [d1, d2, d3, d4, d5] => { results := [.lit (.bool true)], args := [d1, d2, d3, d4, d5] }
  | _ => none }
def slotsOnceRow : OpenClaim := { program := "ytidfahjebjaneaa", sum := "c0e944b605f640b30f5c5cb5c4886a76275cf24771d69fae9a9f8983278b6e20", func := "psaltery/psalterylaw28.SlotsOnce", spec := "slotsOnce", apart := false }
def SlotsOnceSaid : Prop := slotsOnceRow.holds Try.pinned (OpenSpec.ofChange slotsOnceSpec)

/-- ITS FALSE NEIGHBOUR: 'it returns false'. Refute it at one input. -/
def slotsOnceWrong : ChangeSpec := { name := "slotsOnce", fn := fun _ => fun
  | [d1, d2, d3, d4, d5] => { results := [.lit (.bool false)], args := [d1, d2, d3, d4, d5] }
  | _ => none }
def SlotsOnceWrongFalsely : Prop := slotsOnceRow.holds Try.pinned (OpenSpec.ofChange slotsOnceWrong)

/-- 'psalterylaw06.CheckSeals': WHATEVER THE INPUT: true; the input reads as it did. -/
def checkSealsSpec : ChangeSpec := { name := "checkSeals", fn := fun _ => fun
  | [d1, d2] => { results := [.lit (.bool true)], args := [d1, d2] }
  | _ => none }
def checkSealsRow : OpenClaim := { program := "ytidfahjebjaneaa", sum := "c0e944b605f640b30f5c5cb5c4886a76275cf24771d69fae9a9f8983278b6e20", func := "psaltery/psalterylaw06.CheckSeals", spec := "checkSeals", apart := false }
def CheckSealsSaid : Prop := checkSealsRow.holds Try.pinned (OpenSpec.ofChange checkSealsSpec)

/-- ITS FALSE NEIGHBOUR: 'it returns false'. Refute it at one input. -/
def checkSealsWrong : ChangeSpec := { name := "checkSeals", fn := fun _ => fun
  | [d1, d2] => { results := [.lit (.bool false)], args := [d1, d2] }
  | _ => none }
def CheckSealsWrongFalsely : Prop := checkSealsRow.holds Try.pinned (OpenSpec.ofChange checkSealsWrong)

/-- 'psalterylaw06.CheckBack': WHATEVER THE INPUT: true; the input reads as it did. -/
def checkBackSpec : ChangeSpec := { name := "checkBack", fn := fun _ => fun
  | [d1, d2] => { results := [.lit (.bool true)], args := [d1, d2] }
  | _ => none }
def checkBackRow : OpenClaim := { program := "ytidfahjebjaneaa", sum := "c0e944b605f640b30f5c5cb5c4886a76275cf24771d69fae9a9f8983278b6e20", func := "psaltery/psalterylaw06.CheckBack", spec := "checkBack", apart := false }
def CheckBackSaid : Prop := checkBackRow.holds Try.pinned (OpenSpec.ofChange checkBackSpec)

/-- ITS FALSE NEIGHBOUR: 'it returns false'. Refute it at one input. -/
def checkBackWrong : ChangeSpec := { name := "checkBack", fn := fun _ => fun
  | [d1, d2] => { results := [.lit (.bool false)], args := [d1, d2] }
  | _ => none }
def CheckBackWrongFalsely : Prop := checkBackRow.holds Try.pinned (OpenSpec.ofChange checkBackWrong)

/-- 'psalterylaw06.CheckTurned': WHATEVER THE INPUT: true; the input reads as it did. -/
def checkTurnedSpec : ChangeSpec := { name := "checkTurned", fn := fun _ => fun
  | [d1, d2, d3, d4] => { results := [.lit (.bool true)], args := [d1, d2, d3, d4] }
  | _ => none }
def checkTurnedRow : OpenClaim := { program := "ytidfahjebjaneaa", sum := "c0e944b605f640b30f5c5cb5c4886a76275cf24771d69fae9a9f8983278b6e20", func := "psaltery/psalterylaw06.CheckTurned", spec := "checkTurned", apart := false }
def CheckTurnedSaid : Prop := checkTurnedRow.holds Try.pinned (OpenSpec.ofChange checkTurnedSpec)

/-- ITS FALSE NEIGHBOUR: 'it returns false'. Refute it at one input. -/
def checkTurnedWrong : ChangeSpec := { name := "checkTurned", fn := fun _ => fun
  | [d1, d2, d3, d4] => { results := [.lit (.bool false)], args := [d1, d2, d3, d4] }
  | _ => none }
def CheckTurnedWrongFalsely : Prop := checkTurnedRow.holds Try.pinned (OpenSpec.ofChange checkTurnedWrong)

/- THE SECOND FORM. 'bulk': how many values and letters a reading holds, each counted each time it is reached (what is shared counts as often as it is met; a slice's spare places count too). A statement '..UptoSaid' is the law's where the arguments, and the package variables that the reading takes, are together of bulk at most 1048576: NARROWER than '..Said'. Prove '..Said' where nothing that the law and all that it calls make is longer than what came in: it says more and counts as full. Else prove '..UptoSaid'. A law counts once. -/
mutual
def uptoBulk {H : Type} : DataW H → Nat
  | .lit (.string bytes) => bytes.length + 1
  | .lit _ => 1
  | .nil => 1
  | .ptr d => uptoBulk d + 1
  | .slice elems spare => uptoBulkAll elems + uptoBulkAll spare + 1
  | .agg parts => uptoBulkAll parts + 1
  | .iface _ d => uptoBulk d + 1
  | .map entries => uptoBulkEntries entries + 1
  | .held _ => 1
def uptoBulkAll {H : Type} : List (DataW H) → Nat
  | [] => 0
  | d :: r => uptoBulk d + uptoBulkAll r
def uptoBulkEntries {H : Type} : List (Lit × DataW H) → Nat
  | [] => 0
  | x :: r => uptoBulkEntry x + uptoBulkEntries r
def uptoBulkEntry {H : Type} : Lit × DataW H → Nat
  | (.string bytes, d) => bytes.length + uptoBulk d + 1
  | (_, d) => uptoBulk d + 1
 end
def uptoSmall : (H : Type) → List (DataW H) → Bool := fun _ ds => decide (uptoBulkAll ds ≤ 1048576)
def OpenSpec.upto (s : _root_.Go.ChangeSpec) : _root_.Go.OpenSpec := { _root_.Go.OpenSpec.ofChange s with cond := some uptoSmall }

/-- 'psalterylaw06.CheckSums', WHERE WHAT IT READS IS OF BULK AT MOST 1048576: true; the input reads as it did. -/
def checkSumsUptoRow : OpenClaim := { program := "ytidfahjebjaneaa", sum := "c0e944b605f640b30f5c5cb5c4886a76275cf24771d69fae9a9f8983278b6e20", func := "psaltery/psalterylaw06.CheckSums", spec := "checkSums", apart := false, narrowed := true }
def CheckSumsUptoSaid : Prop := checkSumsUptoRow.holds Try.pinned (OpenSpec.upto checkSumsSpec)

/-- 'psalterylaw28.SlotsTurns', WHERE WHAT IT READS IS OF BULK AT MOST 1048576: true; the input reads as it did. -/
def slotsTurnsUptoRow : OpenClaim := { program := "ytidfahjebjaneaa", sum := "c0e944b605f640b30f5c5cb5c4886a76275cf24771d69fae9a9f8983278b6e20", func := "psaltery/psalterylaw28.SlotsTurns", spec := "slotsTurns", apart := false, narrowed := true }
def SlotsTurnsUptoSaid : Prop := slotsTurnsUptoRow.holds Try.pinned (OpenSpec.upto slotsTurnsSpec)

/-- 'psalterylaw27.QueuePlays', WHERE WHAT IT READS IS OF BULK AT MOST 1048576: true; the input reads as it did. -/
def queuePlaysUptoRow : OpenClaim := { program := "ytidfahjebjaneaa", sum := "c0e944b605f640b30f5c5cb5c4886a76275cf24771d69fae9a9f8983278b6e20", func := "psaltery/psalterylaw27.QueuePlays", spec := "queuePlays", apart := false, narrowed := true }
def QueuePlaysUptoSaid : Prop := queuePlaysUptoRow.holds Try.pinned (OpenSpec.upto queuePlaysSpec)

/-- 'psalterylaw27.QueueFew', WHERE WHAT IT READS IS OF BULK AT MOST 1048576: true; the input reads as it did. -/
def queueFewUptoRow : OpenClaim := { program := "ytidfahjebjaneaa", sum := "c0e944b605f640b30f5c5cb5c4886a76275cf24771d69fae9a9f8983278b6e20", func := "psaltery/psalterylaw27.QueueFew", spec := "queueFew", apart := false, narrowed := true }
def QueueFewUptoSaid : Prop := queueFewUptoRow.holds Try.pinned (OpenSpec.upto queueFewSpec)

/-- 'psalterylaw27.QueueNil', WHERE WHAT IT READS IS OF BULK AT MOST 1048576: true; the input reads as it did. -/
def queueNilUptoRow : OpenClaim := { program := "ytidfahjebjaneaa", sum := "c0e944b605f640b30f5c5cb5c4886a76275cf24771d69fae9a9f8983278b6e20", func := "psaltery/psalterylaw27.QueueNil", spec := "queueNil", apart := false, narrowed := true }
def QueueNilUptoSaid : Prop := queueNilUptoRow.holds Try.pinned (OpenSpec.upto queueNilSpec)

/-- 'psalterylaw28.SlotsEvents', WHERE WHAT IT READS IS OF BULK AT MOST 1048576: true; the input reads as it did. -/
def slotsEventsUptoRow : OpenClaim := { program := "ytidfahjebjaneaa", sum := "c0e944b605f640b30f5c5cb5c4886a76275cf24771d69fae9a9f8983278b6e20", func := "psaltery/psalterylaw28.SlotsEvents", spec := "slotsEvents", apart := false, narrowed := true }
def SlotsEventsUptoSaid : Prop := slotsEventsUptoRow.holds Try.pinned (OpenSpec.upto slotsEventsSpec)

/-- 'psalterylaw28.SlotsOnce', WHERE WHAT IT READS IS OF BULK AT MOST 1048576: true; the input reads as it did. -/
def slotsOnceUptoRow : OpenClaim := { program := "ytidfahjebjaneaa", sum := "c0e944b605f640b30f5c5cb5c4886a76275cf24771d69fae9a9f8983278b6e20", func := "psaltery/psalterylaw28.SlotsOnce", spec := "slotsOnce", apart := false, narrowed := true }
def SlotsOnceUptoSaid : Prop := slotsOnceUptoRow.holds Try.pinned (OpenSpec.upto slotsOnceSpec)

/-- 'psalterylaw06.CheckSeals', WHERE WHAT IT READS IS OF BULK AT MOST 1048576: true; the input reads as it did. -/
def checkSealsUptoRow : OpenClaim := { program := "ytidfahjebjaneaa", sum := "c0e944b605f640b30f5c5cb5c4886a76275cf24771d69fae9a9f8983278b6e20", func := "psaltery/psalterylaw06.CheckSeals", spec := "checkSeals", apart := false, narrowed := true }
def CheckSealsUptoSaid : Prop := checkSealsUptoRow.holds Try.pinned (OpenSpec.upto checkSealsSpec)

/-- 'psalterylaw06.CheckBack', WHERE WHAT IT READS IS OF BULK AT MOST 1048576: true; the input reads as it did. -/
def checkBackUptoRow : OpenClaim := { program := "ytidfahjebjaneaa", sum := "c0e944b605f640b30f5c5cb5c4886a76275cf24771d69fae9a9f8983278b6e20", func := "psaltery/psalterylaw06.CheckBack", spec := "checkBack", apart := false, narrowed := true }
def CheckBackUptoSaid : Prop := checkBackUptoRow.holds Try.pinned (OpenSpec.upto checkBackSpec)

/-- 'psalterylaw06.CheckTurned', WHERE WHAT IT READS IS OF BULK AT MOST 1048576: true; the input reads as it did. -/
def checkTurnedUptoRow : OpenClaim := { program := "ytidfahjebjaneaa", sum := "c0e944b605f640b30f5c5cb5c4886a76275cf24771d69fae9a9f8983278b6e20", func := "psaltery/psalterylaw06.CheckTurned", spec := "checkTurned", apart := false, narrowed := true }
def CheckTurnedUptoSaid : Prop := checkTurnedUptoRow.holds Try.pinned (OpenSpec.upto checkTurnedSpec)

end Rows
end Go.Proofs.Ytidfahjebjaneaa
