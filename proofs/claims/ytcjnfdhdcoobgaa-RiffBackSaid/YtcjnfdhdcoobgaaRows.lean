/-
  No cell of these rows narrows 'for every input' (looked for: loops, veiled, ifaces, maps, wideKeys, modest, calm, conditions, laid).
  DERIVED. THE GIVEN ROWS OF THIS SEAT. 10 by the template 'for every input the law returns true; each argument reads behind the call as it read before'; 0 by the template 'total and deterministic' (their statements: YtcjnfdhdcoobgaaTotals.lean).
  GIVEN WITH THE SEED: the statements are not yours to turn. If you find one false, say at which input.
  Laid BY PROGRAM, IN A SANDBOX (cutbox-rows.mjs): the forced cells as the released guide's own fill.sh prints them over the translation 39e2846851ced0ec… (all of the seat's roots in one cut). By AI agents, Wed Nov 11 2026. No macro, syntax, notation, axiom, sorry.
-/
import Derived.Test.YtcjnfdhdcoobgaaChecked
import GoSem.Claim
import GoSem.ClaimJoined
import GoSem.ClaimMapViews
import Derived.JoinedTies
import Derived.KernelRfl
namespace Go.Proofs.Ytcjnfdhdcoobgaa
/- THE CELL 'sum', in the pinned program and in every row, IS THE sha256 OF THE DUMP (.gsa) THAT YtcjnfdhdcoobgaaProg.lean LOADS. Nothing in Lean hashes anything: it is a label: what it is worth is what the hold of that sum in a sandbox is worth. -/
noncomputable def Try.pinned : Pinned := { name := "ytcjnfdhdcoobgaa", sum := "39e2846851ced0ecd3670a6677a8e2c0f29459ed0c32a14fdec1282c9deb8904", checked := Try.checked }
namespace Rows
def none {H : Type} : Left H := { results := [], args := [] }

/-- 'psalterylaw05.BitsWrite': WHATEVER THE INPUT: true; the input reads as it did. -/
def bitsWriteSpec : ChangeSpec := { name := "bitsWrite", fn := fun _ => fun
  | [d1, d2] => { results := [.lit (.bool true)], args := [d1, d2] }
  | _ => none }
def bitsWriteRow : OpenClaim := { program := "ytcjnfdhdcoobgaa", sum := "39e2846851ced0ecd3670a6677a8e2c0f29459ed0c32a14fdec1282c9deb8904", func := "psaltery/psalterylaw05.BitsWrite", spec := "bitsWrite", apart := false }
def BitsWriteSaid : Prop := bitsWriteRow.holds Try.pinned (OpenSpec.ofChange bitsWriteSpec)

/-- ITS FALSE NEIGHBOUR: 'it returns false'. Refute it at one input. -/
def bitsWriteWrong : ChangeSpec := { name := "bitsWrite", fn := fun _ => fun
  | [d1, d2] => { results := [.lit (.bool false)], args := [d1, d2] }
  | _ => none }
def BitsWriteWrongFalsely : Prop := bitsWriteRow.holds Try.pinned (OpenSpec.ofChange bitsWriteWrong)

/-- 'psalterylaw26.PduBytes': WHATEVER THE INPUT: true; the input reads as it did. -/
def pduBytesSpec : ChangeSpec := { name := "pduBytes", fn := fun _ => fun
  | [d1, d2] => { results := [.lit (.bool true)], args := [d1, d2] }
  | _ => none }
def pduBytesRow : OpenClaim := { program := "ytcjnfdhdcoobgaa", sum := "39e2846851ced0ecd3670a6677a8e2c0f29459ed0c32a14fdec1282c9deb8904", func := "psaltery/psalterylaw26.PduBytes", spec := "pduBytes", apart := false }
def PduBytesSaid : Prop := pduBytesRow.holds Try.pinned (OpenSpec.ofChange pduBytesSpec)

/-- ITS FALSE NEIGHBOUR: 'it returns false'. Refute it at one input. -/
def pduBytesWrong : ChangeSpec := { name := "pduBytes", fn := fun _ => fun
  | [d1, d2] => { results := [.lit (.bool false)], args := [d1, d2] }
  | _ => none }
def PduBytesWrongFalsely : Prop := pduBytesRow.holds Try.pinned (OpenSpec.ofChange pduBytesWrong)

/-- 'psalterylaw26.PduSpoils': WHATEVER THE INPUT: true; the input reads as it did. -/
def pduSpoilsSpec : ChangeSpec := { name := "pduSpoils", fn := fun _ => fun
  | [d1, d2, d3] => { results := [.lit (.bool true)], args := [d1, d2, d3] }
  | _ => none }
def pduSpoilsRow : OpenClaim := { program := "ytcjnfdhdcoobgaa", sum := "39e2846851ced0ecd3670a6677a8e2c0f29459ed0c32a14fdec1282c9deb8904", func := "psaltery/psalterylaw26.PduSpoils", spec := "pduSpoils", apart := false }
def PduSpoilsSaid : Prop := pduSpoilsRow.holds Try.pinned (OpenSpec.ofChange pduSpoilsSpec)

/-- ITS FALSE NEIGHBOUR: 'it returns false'. Refute it at one input. -/
def pduSpoilsWrong : ChangeSpec := { name := "pduSpoils", fn := fun _ => fun
  | [d1, d2, d3] => { results := [.lit (.bool false)], args := [d1, d2, d3] }
  | _ => none }
def PduSpoilsWrongFalsely : Prop := pduSpoilsRow.holds Try.pinned (OpenSpec.ofChange pduSpoilsWrong)

/-- 'psalterylaw26.PduBack': WHATEVER THE INPUT: true; the input reads as it did. -/
def pduBackSpec : ChangeSpec := { name := "pduBack", fn := fun _ => fun
  | [d1, d2, d3] => { results := [.lit (.bool true)], args := [d1, d2, d3] }
  | _ => none }
def pduBackRow : OpenClaim := { program := "ytcjnfdhdcoobgaa", sum := "39e2846851ced0ecd3670a6677a8e2c0f29459ed0c32a14fdec1282c9deb8904", func := "psaltery/psalterylaw26.PduBack", spec := "pduBack", apart := false }
def PduBackSaid : Prop := pduBackRow.holds Try.pinned (OpenSpec.ofChange pduBackSpec)

/-- ITS FALSE NEIGHBOUR: 'it returns false'. Refute it at one input. -/
def pduBackWrong : ChangeSpec := { name := "pduBack", fn := fun _ => fun
  | [d1, d2, d3] => { results := [.lit (.bool false)], args := [d1, d2, d3] }
  | _ => none }
def PduBackWrongFalsely : Prop := pduBackRow.holds Try.pinned (OpenSpec.ofChange pduBackWrong)

/-- 'psalterylaw36.RiffBytes': WHATEVER THE INPUT: true; the input reads as it did. -/
def riffBytesSpec : ChangeSpec := { name := "riffBytes", fn := fun _ => fun
  | [d] => { results := [.lit (.bool true)], args := [d] }
  | _ => none }
def riffBytesRow : OpenClaim := { program := "ytcjnfdhdcoobgaa", sum := "39e2846851ced0ecd3670a6677a8e2c0f29459ed0c32a14fdec1282c9deb8904", func := "psaltery/psalterylaw36.RiffBytes", spec := "riffBytes", apart := false }
def RiffBytesSaid : Prop := riffBytesRow.holds Try.pinned (OpenSpec.ofChange riffBytesSpec)

/-- ITS FALSE NEIGHBOUR: 'it returns false'. Refute it at one input. -/
def riffBytesWrong : ChangeSpec := { name := "riffBytes", fn := fun _ => fun
  | [d] => { results := [.lit (.bool false)], args := [d] }
  | _ => none }
def RiffBytesWrongFalsely : Prop := riffBytesRow.holds Try.pinned (OpenSpec.ofChange riffBytesWrong)

/-- 'psalterylaw05.BitsBack': WHATEVER THE INPUT: true; the input reads as it did. -/
def bitsBackSpec : ChangeSpec := { name := "bitsBack", fn := fun _ => fun
  | [d1, d2] => { results := [.lit (.bool true)], args := [d1, d2] }
  | _ => none }
def bitsBackRow : OpenClaim := { program := "ytcjnfdhdcoobgaa", sum := "39e2846851ced0ecd3670a6677a8e2c0f29459ed0c32a14fdec1282c9deb8904", func := "psaltery/psalterylaw05.BitsBack", spec := "bitsBack", apart := false }
def BitsBackSaid : Prop := bitsBackRow.holds Try.pinned (OpenSpec.ofChange bitsBackSpec)

/-- ITS FALSE NEIGHBOUR: 'it returns false'. Refute it at one input. -/
def bitsBackWrong : ChangeSpec := { name := "bitsBack", fn := fun _ => fun
  | [d1, d2] => { results := [.lit (.bool false)], args := [d1, d2] }
  | _ => none }
def BitsBackWrongFalsely : Prop := bitsBackRow.holds Try.pinned (OpenSpec.ofChange bitsBackWrong)

/-- 'psalterylaw36.RiffParses': WHATEVER THE INPUT: true; the input reads as it did. -/
def riffParsesSpec : ChangeSpec := { name := "riffParses", fn := fun _ => fun
  | [d] => { results := [.lit (.bool true)], args := [d] }
  | _ => none }
def riffParsesRow : OpenClaim := { program := "ytcjnfdhdcoobgaa", sum := "39e2846851ced0ecd3670a6677a8e2c0f29459ed0c32a14fdec1282c9deb8904", func := "psaltery/psalterylaw36.RiffParses", spec := "riffParses", apart := false }
def RiffParsesSaid : Prop := riffParsesRow.holds Try.pinned (OpenSpec.ofChange riffParsesSpec)

/-- ITS FALSE NEIGHBOUR: 'it returns false'. Refute it at one input. -/
def riffParsesWrong : ChangeSpec := { name := "riffParses", fn := fun _ => fun
  | [d] => { results := [.lit (.bool false)], args := [d] }
  | _ => none }
def RiffParsesWrongFalsely : Prop := riffParsesRow.holds Try.pinned (OpenSpec.ofChange riffParsesWrong)

/-- 'psalterylaw36.RiffBack': WHATEVER THE INPUT: true; the input reads as it did. -/
def riffBackSpec : ChangeSpec := { name := "riffBack", fn := fun _ => fun
  | [d1, d2, d3, d4] => { results := [.lit (.bool true)], args := [d1, d2, d3, d4] }
  | _ => none }
def riffBackRow : OpenClaim := { program := "ytcjnfdhdcoobgaa", sum := "39e2846851ced0ecd3670a6677a8e2c0f29459ed0c32a14fdec1282c9deb8904", func := "psaltery/psalterylaw36.RiffBack", spec := "riffBack", apart := false }
def RiffBackSaid : Prop := riffBackRow.holds Try.pinned (OpenSpec.ofChange riffBackSpec)

/-- ITS FALSE NEIGHBOUR: 'it returns false'. Refute it at one input. -/
def riffBackWrong : ChangeSpec := { name := "riffBack", fn := fun _ => fun
  | [d1, d2, d3, d4] => { results := [.lit (.bool false)], args := [d1, d2, d3, d4] }
  | _ => none }
def RiffBackWrongFalsely : Prop := riffBackRow.holds Try.pinned (OpenSpec.ofChange riffBackWrong)

/-- 'psalterylaw05.BitsRead': WHATEVER THE INPUT: true; the input reads as it did. -/
def bitsReadSpec : ChangeSpec := { name := "bitsRead", fn := fun _ => fun
  | [d1, d2, d3] => { results := [.lit (.bool true)], args := [d1, d2, d3] }
  | _ => none }
def bitsReadRow : OpenClaim := { program := "ytcjnfdhdcoobgaa", sum := "39e2846851ced0ecd3670a6677a8e2c0f29459ed0c32a14fdec1282c9deb8904", func := "psaltery/psalterylaw05.BitsRead", spec := "bitsRead", apart := false }
def BitsReadSaid : Prop := bitsReadRow.holds Try.pinned (OpenSpec.ofChange bitsReadSpec)

/-- ITS FALSE NEIGHBOUR: 'it returns false'. Refute it at one input. -/
def bitsReadWrong : ChangeSpec := { name := "bitsRead", fn := fun _ => fun
  | [d1, d2, d3] => { results := [.lit (.bool false)], args := [d1, d2, d3] }
  | _ => none }
def BitsReadWrongFalsely : Prop := bitsReadRow.holds Try.pinned (OpenSpec.ofChange bitsReadWrong)

/-- 'psalterylaw05.BitsNil': WHATEVER THE INPUT: true; the input reads as it did. -/
def bitsNilSpec : ChangeSpec := { name := "bitsNil", fn := fun _ => fun
  | [d1, d2] => { results := [.lit (.bool true)], args := [d1, d2] }
  | _ => none }
def bitsNilRow : OpenClaim := { program := "ytcjnfdhdcoobgaa", sum := "39e2846851ced0ecd3670a6677a8e2c0f29459ed0c32a14fdec1282c9deb8904", func := "psaltery/psalterylaw05.BitsNil", spec := "bitsNil", apart := false }
def BitsNilSaid : Prop := bitsNilRow.holds Try.pinned (OpenSpec.ofChange bitsNilSpec)

/-- ITS FALSE NEIGHBOUR: 'it returns false'. Refute it at one input. -/
def bitsNilWrong : ChangeSpec := { name := "bitsNil", fn := fun _ => fun
  | [d1, d2] => { results := [.lit (.bool false)], args := [d1, d2] }
  | _ => none }
def BitsNilWrongFalsely : Prop := bitsNilRow.holds Try.pinned (OpenSpec.ofChange bitsNilWrong)

/- THE SECOND FORM. 'bulk': how many values and letters a reading holds, each counted each time it is reached (what is shared counts as often as it is met; a slice's spare places count too). A statement '..UptoSaid' is the law's where the arguments, and the package variables that the reading takes, are together of bulk at most 1048576: NARROWER than '..Said'. Prove '..Said' where nothing that the law and all that it calls make is longer than what came in: it says more and counts as full. Else prove '..UptoSaid'. A law counts once. -/
mutual
def uptoBulk {H : Type} : DataW H → Nat
  | .lit (.string bytes) => bytes.length + 1
  | .lit _ => 1
  | .nil => 1
  | .ptr d => uptoBulk d + 1
  | .slice elems spare => uptoBulkAll elems + uptoBulkAll spare + 1
  | .agg parts => uptoBulkAll parts + 1
  | .iface _ d => uptoBulk d + 1
  | .map entries => uptoBulkEntries entries + 1
  | .held _ => 1
def uptoBulkAll {H : Type} : List (DataW H) → Nat
  | [] => 0
  | d :: r => uptoBulk d + uptoBulkAll r
def uptoBulkEntries {H : Type} : List (Lit × DataW H) → Nat
  | [] => 0
  | x :: r => uptoBulkEntry x + uptoBulkEntries r
def uptoBulkEntry {H : Type} : Lit × DataW H → Nat
  | (.string bytes, d) => bytes.length + uptoBulk d + 1
  | (_, d) => uptoBulk d + 1
 end
def uptoSmall : (H : Type) → List (DataW H) → Bool := fun _ ds => decide (uptoBulkAll ds ≤ 1048576)
def OpenSpec.upto (s : _root_.Go.ChangeSpec) : _root_.Go.OpenSpec := { _root_.Go.OpenSpec.ofChange s with cond := some uptoSmall }

/-- 'psalterylaw05.BitsWrite', WHERE WHAT IT READS IS OF BULK AT MOST 1048576: true; the input reads as it did. -/
def bitsWriteUptoRow : OpenClaim := { program := "ytcjnfdhdcoobgaa", sum := "39e2846851ced0ecd3670a6677a8e2c0f29459ed0c32a14fdec1282c9deb8904", func := "psaltery/psalterylaw05.BitsWrite", spec := "bitsWrite", apart := false, narrowed := true }
def BitsWriteUptoSaid : Prop := bitsWriteUptoRow.holds Try.pinned (OpenSpec.upto bitsWriteSpec)

/-- 'psalterylaw26.PduBytes', WHERE WHAT IT READS IS OF BULK AT MOST 1048576: true; the input reads as it did. -/
def pduBytesUptoRow : OpenClaim := { program := "ytcjnfdhdcoobgaa", sum := "39e2846851ced0ecd3670a6677a8e2c0f29459ed0c32a14fdec1282c9deb8904", func := "psaltery/psalterylaw26.PduBytes", spec := "pduBytes", apart := false, narrowed := true }
def PduBytesUptoSaid : Prop := pduBytesUptoRow.holds Try.pinned (OpenSpec.upto pduBytesSpec)

/-- 'psalterylaw26.PduSpoils', WHERE WHAT IT READS IS OF BULK AT MOST 1048576: true; the input reads as it did. -/
def pduSpoilsUptoRow : OpenClaim := { program := "ytcjnfdhdcoobgaa", sum := "39e2846851ced0ecd3670a6677a8e2c0f29459ed0c32a14fdec1282c9deb8904", func := "psaltery/psalterylaw26.PduSpoils", spec := "pduSpoils", apart := false, narrowed := true }
def PduSpoilsUptoSaid : Prop := pduSpoilsUptoRow.holds Try.pinned (OpenSpec.upto pduSpoilsSpec)

/-- 'psalterylaw26.PduBack', WHERE WHAT IT READS IS OF BULK AT MOST 1048576: true; the input reads as it did. -/
def pduBackUptoRow : OpenClaim := { program := "ytcjnfdhdcoobgaa", sum := "39e2846851ced0ecd3670a6677a8e2c0f29459ed0c32a14fdec1282c9deb8904", func := "psaltery/psalterylaw26.PduBack", spec := "pduBack", apart := false, narrowed := true }
def PduBackUptoSaid : Prop := pduBackUptoRow.holds Try.pinned (OpenSpec.upto pduBackSpec)

/-- 'psalterylaw36.RiffBytes', WHERE WHAT IT READS IS OF BULK AT MOST 1048576: true; the input reads as it did. -/
def riffBytesUptoRow : OpenClaim := { program := "ytcjnfdhdcoobgaa", sum := "39e2846851ced0ecd3670a6677a8e2c0f29459ed0c32a14fdec1282c9deb8904", func := "psaltery/psalterylaw36.RiffBytes", spec := "riffBytes", apart := false, narrowed := true }
def RiffBytesUptoSaid : Prop := riffBytesUptoRow.holds Try.pinned (OpenSpec.upto riffBytesSpec)

/-- 'psalterylaw05.BitsBack', WHERE WHAT IT READS IS OF BULK AT MOST 1048576: true; the input reads as it did. -/
def bitsBackUptoRow : OpenClaim := { program := "ytcjnfdhdcoobgaa", sum := "39e2846851ced0ecd3670a6677a8e2c0f29459ed0c32a14fdec1282c9deb8904", func := "psaltery/psalterylaw05.BitsBack", spec := "bitsBack", apart := false, narrowed := true }
def BitsBackUptoSaid : Prop := bitsBackUptoRow.holds Try.pinned (OpenSpec.upto bitsBackSpec)

/-- 'psalterylaw36.RiffParses', WHERE WHAT IT READS IS OF BULK AT MOST 1048576: true; the input reads as it did. -/
def riffParsesUptoRow : OpenClaim := { program := "ytcjnfdhdcoobgaa", sum := "39e2846851ced0ecd3670a6677a8e2c0f29459ed0c32a14fdec1282c9deb8904", func := "psaltery/psalterylaw36.RiffParses", spec := "riffParses", apart := false, narrowed := true }
def RiffParsesUptoSaid : Prop := riffParsesUptoRow.holds Try.pinned (OpenSpec.upto riffParsesSpec)

/-- 'psalterylaw36.RiffBack', WHERE WHAT IT READS IS OF BULK AT MOST 1048576: true; the input reads as it did. -/
def riffBackUptoRow : OpenClaim := { program := "ytcjnfdhdcoobgaa", sum := "39e2846851ced0ecd3670a6677a8e2c0f29459ed0c32a14fdec1282c9deb8904", func := "psaltery/psalterylaw36.RiffBack", spec := "riffBack", apart := false, narrowed := true }
def RiffBackUptoSaid : Prop := riffBackUptoRow.holds Try.pinned (OpenSpec.upto riffBackSpec)

/-- 'psalterylaw05.BitsRead', WHERE WHAT IT READS IS OF BULK AT MOST 1048576: true; the input reads as it did. -/
def bitsReadUptoRow : OpenClaim := { program := "ytcjnfdhdcoobgaa", sum := "39e2846851ced0ecd3670a6677a8e2c0f29459ed0c32a14fdec1282c9deb8904", func := "psaltery/psalterylaw05.BitsRead", spec := "bitsRead", apart := false, narrowed := true }
def BitsReadUptoSaid : Prop := bitsReadUptoRow.holds Try.pinned (OpenSpec.upto bitsReadSpec)

/-- 'psalterylaw05.BitsNil', WHERE WHAT IT READS IS OF BULK AT MOST 1048576: true; the input reads as it did. -/
def bitsNilUptoRow : OpenClaim := { program := "ytcjnfdhdcoobgaa", sum := "39e2846851ced0ecd3670a6677a8e2c0f29459ed0c32a14fdec1282c9deb8904", func := "psaltery/psalterylaw05.BitsNil", spec := "bitsNil", apart := false, narrowed := true }
def BitsNilUptoSaid : Prop := bitsNilUptoRow.holds Try.pinned (OpenSpec.upto bitsNilSpec)

end Rows
end Go.Proofs.Ytcjnfdhdcoobgaa
