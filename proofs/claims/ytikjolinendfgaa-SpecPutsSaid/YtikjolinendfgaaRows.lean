/-
  No cell of these rows narrows 'for every input' (looked for: loops, veiled, ifaces, maps, wideKeys, modest, calm, conditions, laid).
  DERIVED. THE GIVEN ROWS OF THIS SEAT. 9 by the template 'for every input the law returns true; each argument reads behind the call as it read before'; 0 by the template 'total and deterministic' (their statements: YtikjolinendfgaaTotals.lean).
  GIVEN WITH THE SEED: the statements are not yours to turn. If you find one false, say at which input.
  Laid BY PROGRAM, IN A SANDBOX (cutbox-rows.mjs): the forced cells as the released guide's own fill.sh prints them over the translation dbe0ae319c82e2c8… (all of the seat's roots in one cut). By AI agents, Wed Nov 11 2026. No macro, syntax, notation, axiom, sorry.
-/
import Derived.Test.YtikjolinendfgaaChecked
import GoSem.Claim
import GoSem.ClaimJoined
import GoSem.ClaimMapViews
import Derived.JoinedTies
import Derived.KernelRfl
namespace Go.Proofs.Ytikjolinendfgaa
/- THE CELL 'sum', in the pinned program and in every row, IS THE sha256 OF THE DUMP (.gsa) THAT YtikjolinendfgaaProg.lean LOADS. Nothing in Lean hashes anything: it is a label: what it is worth is what the hold of that sum in a sandbox is worth. -/
noncomputable def Try.pinned : Pinned := { name := "ytikjolinendfgaa", sum := "dbe0ae319c82e2c8e11304933d1b60f75e833f685b2b883a4caa5e7dda12c37e", checked := Try.checked }
namespace Rows
def none {H : Type} : Left H := { results := [], args := [] }

/-- 'psalterylaw07.ArithPuts': WHATEVER THE INPUT: true; the input reads as it did. -/
def arithPutsSpec : ChangeSpec := { name := "arithPuts", fn := fun _ => fun
  | [d1, d2] => { results := [.lit (.bool true)], args := [d1, d2] }
  | _ => none }
def arithPutsRow : OpenClaim := { program := "ytikjolinendfgaa", sum := "dbe0ae319c82e2c8e11304933d1b60f75e833f685b2b883a4caa5e7dda12c37e", func := "psaltery/psalterylaw07.ArithPuts", spec := "arithPuts", unfollowed := true, recurses := true, apart := false }
def ArithPutsSaid : Prop := arithPutsRow.holds Try.pinned (OpenSpec.ofChange arithPutsSpec)

/-- ITS FALSE NEIGHBOUR: 'it returns false'. Refute it at one input. -/
def arithPutsWrong : ChangeSpec := { name := "arithPuts", fn := fun _ => fun
  | [d1, d2] => { results := [.lit (.bool false)], args := [d1, d2] }
  | _ => none }
def ArithPutsWrongFalsely : Prop := arithPutsRow.holds Try.pinned (OpenSpec.ofChange arithPutsWrong)

/-- 'psalterylaw07.ArithNil': WHATEVER THE INPUT: true; the input reads as it did. -/
def arithNilSpec : ChangeSpec := { name := "arithNil", fn := fun _ => fun
  | [d] => { results := [.lit (.bool true)], args := [d] }
  | _ => none }
def arithNilRow : OpenClaim := { program := "ytikjolinendfgaa", sum := "dbe0ae319c82e2c8e11304933d1b60f75e833f685b2b883a4caa5e7dda12c37e", func := "psaltery/psalterylaw07.ArithNil", spec := "arithNil", unfollowed := true, recurses := true, apart := false }
def ArithNilSaid : Prop := arithNilRow.holds Try.pinned (OpenSpec.ofChange arithNilSpec)

/-- ITS FALSE NEIGHBOUR: 'it returns false'. Refute it at one input. -/
def arithNilWrong : ChangeSpec := { name := "arithNil", fn := fun _ => fun
  | [d] => { results := [.lit (.bool false)], args := [d] }
  | _ => none }
def ArithNilWrongFalsely : Prop := arithNilRow.holds Try.pinned (OpenSpec.ofChange arithNilWrong)

/-- 'psalterylaw07.ArithBack': WHATEVER THE INPUT: true; the input reads as it did. -/
def arithBackSpec : ChangeSpec := { name := "arithBack", fn := fun _ => fun
  | [d1, d2] => { results := [.lit (.bool true)], args := [d1, d2] }
  | _ => none }
def arithBackRow : OpenClaim := { program := "ytikjolinendfgaa", sum := "dbe0ae319c82e2c8e11304933d1b60f75e833f685b2b883a4caa5e7dda12c37e", func := "psaltery/psalterylaw07.ArithBack", spec := "arithBack", unfollowed := true, recurses := true, apart := false }
def ArithBackSaid : Prop := arithBackRow.holds Try.pinned (OpenSpec.ofChange arithBackSpec)

/-- ITS FALSE NEIGHBOUR: 'it returns false'. Refute it at one input. -/
def arithBackWrong : ChangeSpec := { name := "arithBack", fn := fun _ => fun
  | [d1, d2] => { results := [.lit (.bool false)], args := [d1, d2] }
  | _ => none }
def ArithBackWrongFalsely : Prop := arithBackRow.holds Try.pinned (OpenSpec.ofChange arithBackWrong)

/-- 'psalterylaw07.ArithFinds': WHATEVER THE INPUT: true; the input reads as it did. -/
def arithFindsSpec : ChangeSpec := { name := "arithFinds", fn := fun _ => fun
  | [d1, d2, d3] => { results := [.lit (.bool true)], args := [d1, d2, d3] }
  | _ => none }
def arithFindsRow : OpenClaim := { program := "ytikjolinendfgaa", sum := "dbe0ae319c82e2c8e11304933d1b60f75e833f685b2b883a4caa5e7dda12c37e", func := "psaltery/psalterylaw07.ArithFinds", spec := "arithFinds", unfollowed := true, recurses := true, apart := false }
def ArithFindsSaid : Prop := arithFindsRow.holds Try.pinned (OpenSpec.ofChange arithFindsSpec)

/-- ITS FALSE NEIGHBOUR: 'it returns false'. Refute it at one input. -/
def arithFindsWrong : ChangeSpec := { name := "arithFinds", fn := fun _ => fun
  | [d1, d2, d3] => { results := [.lit (.bool false)], args := [d1, d2, d3] }
  | _ => none }
def ArithFindsWrongFalsely : Prop := arithFindsRow.holds Try.pinned (OpenSpec.ofChange arithFindsWrong)

/-- 'psalterylaw07.ArithAny': WHATEVER THE INPUT: true; the input reads as it did. -/
def arithAnySpec : ChangeSpec := { name := "arithAny", fn := fun _ => fun
  | [d1, d2, d3] => { results := [.lit (.bool true)], args := [d1, d2, d3] }
  | _ => none }
def arithAnyRow : OpenClaim := { program := "ytikjolinendfgaa", sum := "dbe0ae319c82e2c8e11304933d1b60f75e833f685b2b883a4caa5e7dda12c37e", func := "psaltery/psalterylaw07.ArithAny", spec := "arithAny", unfollowed := true, recurses := true, apart := false }
def ArithAnySaid : Prop := arithAnyRow.holds Try.pinned (OpenSpec.ofChange arithAnySpec)

/-- ITS FALSE NEIGHBOUR: 'it returns false'. Refute it at one input. -/
def arithAnyWrong : ChangeSpec := { name := "arithAny", fn := fun _ => fun
  | [d1, d2, d3] => { results := [.lit (.bool false)], args := [d1, d2, d3] }
  | _ => none }
def ArithAnyWrongFalsely : Prop := arithAnyRow.holds Try.pinned (OpenSpec.ofChange arithAnyWrong)

/-- 'psalterylaw20.SpecGrows': WHATEVER THE INPUT: true; the input reads as it did. -/
def specGrowsSpec : ChangeSpec := { name := "specGrows", fn := fun _ => fun
  | [d1, d2] => { results := [.lit (.bool true)], args := [d1, d2] }
  | _ => none }
def specGrowsRow : OpenClaim := { program := "ytikjolinendfgaa", sum := "dbe0ae319c82e2c8e11304933d1b60f75e833f685b2b883a4caa5e7dda12c37e", func := "psaltery/psalterylaw20.SpecGrows", spec := "specGrows", unfollowed := true, recurses := true, apart := false }
def SpecGrowsSaid : Prop := specGrowsRow.holds Try.pinned (OpenSpec.ofChange specGrowsSpec)

/-- ITS FALSE NEIGHBOUR: 'it returns false'. Refute it at one input. -/
def specGrowsWrong : ChangeSpec := { name := "specGrows", fn := fun _ => fun
  | [d1, d2] => { results := [.lit (.bool false)], args := [d1, d2] }
  | _ => none }
def SpecGrowsWrongFalsely : Prop := specGrowsRow.holds Try.pinned (OpenSpec.ofChange specGrowsWrong)

/-- 'psalterylaw20.SpecPuts': WHATEVER THE INPUT: true; the input reads as it did. -/
def specPutsSpec : ChangeSpec := { name := "specPuts", fn := fun _ => fun
  | [d] => { results := [.lit (.bool true)], args := [d] }
  | _ => none }
def specPutsRow : OpenClaim := { program := "ytikjolinendfgaa", sum := "dbe0ae319c82e2c8e11304933d1b60f75e833f685b2b883a4caa5e7dda12c37e", func := "psaltery/psalterylaw20.SpecPuts", spec := "specPuts", unfollowed := true, recurses := true, apart := false }
def SpecPutsSaid : Prop := specPutsRow.holds Try.pinned (OpenSpec.ofChange specPutsSpec)

/-- ITS FALSE NEIGHBOUR: 'it returns false'. Refute it at one input. -/
def specPutsWrong : ChangeSpec := { name := "specPuts", fn := fun _ => fun
  | [d] => { results := [.lit (.bool false)], args := [d] }
  | _ => none }
def SpecPutsWrongFalsely : Prop := specPutsRow.holds Try.pinned (OpenSpec.ofChange specPutsWrong)

/-- 'psalterylaw20.SpecAny': WHATEVER THE INPUT: true; the input reads as it did. -/
def specAnySpec : ChangeSpec := { name := "specAny", fn := fun _ => fun
  | [d1, d2] => { results := [.lit (.bool true)], args := [d1, d2] }
  | _ => none }
def specAnyRow : OpenClaim := { program := "ytikjolinendfgaa", sum := "dbe0ae319c82e2c8e11304933d1b60f75e833f685b2b883a4caa5e7dda12c37e", func := "psaltery/psalterylaw20.SpecAny", spec := "specAny", unfollowed := true, recurses := true, apart := false }
def SpecAnySaid : Prop := specAnyRow.holds Try.pinned (OpenSpec.ofChange specAnySpec)

/-- ITS FALSE NEIGHBOUR: 'it returns false'. Refute it at one input. -/
def specAnyWrong : ChangeSpec := { name := "specAny", fn := fun _ => fun
  | [d1, d2] => { results := [.lit (.bool false)], args := [d1, d2] }
  | _ => none }
def SpecAnyWrongFalsely : Prop := specAnyRow.holds Try.pinned (OpenSpec.ofChange specAnyWrong)

/-- 'psalterylaw20.SpecBack': WHATEVER THE INPUT: true; the input reads as it did. -/
def specBackSpec : ChangeSpec := { name := "specBack", fn := fun _ => fun
  | [d1, d2] => { results := [.lit (.bool true)], args := [d1, d2] }
  | _ => none }
def specBackRow : OpenClaim := { program := "ytikjolinendfgaa", sum := "dbe0ae319c82e2c8e11304933d1b60f75e833f685b2b883a4caa5e7dda12c37e", func := "psaltery/psalterylaw20.SpecBack", spec := "specBack", unfollowed := true, recurses := true, apart := false }
def SpecBackSaid : Prop := specBackRow.holds Try.pinned (OpenSpec.ofChange specBackSpec)

/-- ITS FALSE NEIGHBOUR: 'it returns false'. Refute it at one input. -/
def specBackWrong : ChangeSpec := { name := "specBack", fn := fun _ => fun
  | [d1, d2] => { results := [.lit (.bool false)], args := [d1, d2] }
  | _ => none }
def SpecBackWrongFalsely : Prop := specBackRow.holds Try.pinned (OpenSpec.ofChange specBackWrong)

/- THE SECOND FORM. 'bulk': how many values and letters a reading holds, each counted each time it is reached (what is shared counts as often as it is met; a slice's spare places count too). A statement '..UptoSaid' is the law's where the arguments, and the package variables that the reading takes, are together of bulk at most 1048576: NARROWER than '..Said'. Prove '..Said' where nothing that the law and all that it calls make is longer than what came in: it says more and counts as full. Else prove '..UptoSaid'. A law counts once. -/
mutual
def uptoBulk {H : Type} : DataW H → Nat
  | .lit (.string bytes) => bytes.length + 1
  | .lit _ => 1
  | .nil => 1
  | .ptr d => uptoBulk d + 1
  | .slice elems spare => uptoBulkAll elems + uptoBulkAll spare + 1
  | .agg parts => uptoBulkAll parts + 1
  | .iface _ d => uptoBulk d + 1
  | .map entries => uptoBulkEntries entries + 1
  | .held _ => 1
def uptoBulkAll {H : Type} : List (DataW H) → Nat
  | [] => 0
  | d :: r => uptoBulk d + uptoBulkAll r
def uptoBulkEntries {H : Type} : List (Lit × DataW H) → Nat
  | [] => 0
  | x :: r => uptoBulkEntry x + uptoBulkEntries r
def uptoBulkEntry {H : Type} : Lit × DataW H → Nat
  | (.string bytes, d) => bytes.length + uptoBulk d + 1
  | (_, d) => uptoBulk d + 1
 end
def uptoSmall : (H : Type) → List (DataW H) → Bool := fun _ ds => decide (uptoBulkAll ds ≤ 1048576)
def OpenSpec.upto (s : _root_.Go.ChangeSpec) : _root_.Go.OpenSpec := { _root_.Go.OpenSpec.ofChange s with cond := some uptoSmall }

/-- 'psalterylaw07.ArithPuts', WHERE WHAT IT READS IS OF BULK AT MOST 1048576: true; the input reads as it did. -/
def arithPutsUptoRow : OpenClaim := { program := "ytikjolinendfgaa", sum := "dbe0ae319c82e2c8e11304933d1b60f75e833f685b2b883a4caa5e7dda12c37e", func := "psaltery/psalterylaw07.ArithPuts", spec := "arithPuts", unfollowed := true, recurses := true, apart := false, narrowed := true }
def ArithPutsUptoSaid : Prop := arithPutsUptoRow.holds Try.pinned (OpenSpec.upto arithPutsSpec)

/-- 'psalterylaw07.ArithNil', WHERE WHAT IT READS IS OF BULK AT MOST 1048576: true; the input reads as it did. -/
def arithNilUptoRow : OpenClaim := { program := "ytikjolinendfgaa", sum := "dbe0ae319c82e2c8e11304933d1b60f75e833f685b2b883a4caa5e7dda12c37e", func := "psaltery/psalterylaw07.ArithNil", spec := "arithNil", unfollowed := true, recurses := true, apart := false, narrowed := true }
def ArithNilUptoSaid : Prop := arithNilUptoRow.holds Try.pinned (OpenSpec.upto arithNilSpec)

/-- 'psalterylaw07.ArithBack', WHERE WHAT IT READS IS OF BULK AT MOST 1048576: true; the input reads as it did. -/
def arithBackUptoRow : OpenClaim := { program := "ytikjolinendfgaa", sum := "dbe0ae319c82e2c8e11304933d1b60f75e833f685b2b883a4caa5e7dda12c37e", func := "psaltery/psalterylaw07.ArithBack", spec := "arithBack", unfollowed := true, recurses := true, apart := false, narrowed := true }
def ArithBackUptoSaid : Prop := arithBackUptoRow.holds Try.pinned (OpenSpec.upto arithBackSpec)

/-- 'psalterylaw07.ArithFinds', WHERE WHAT IT READS IS OF BULK AT MOST 1048576: true; the input reads as it did. -/
def arithFindsUptoRow : OpenClaim := { program := "ytikjolinendfgaa", sum := "dbe0ae319c82e2c8e11304933d1b60f75e833f685b2b883a4caa5e7dda12c37e", func := "psaltery/psalterylaw07.ArithFinds", spec := "arithFinds", unfollowed := true, recurses := true, apart := false, narrowed := true }
def ArithFindsUptoSaid : Prop := arithFindsUptoRow.holds Try.pinned (OpenSpec.upto arithFindsSpec)

/-- 'psalterylaw07.ArithAny', WHERE WHAT IT READS IS OF BULK AT MOST 1048576: true; the input reads as it did. -/
def arithAnyUptoRow : OpenClaim := { program := "ytikjolinendfgaa", sum := "dbe0ae319c82e2c8e11304933d1b60f75e833f685b2b883a4caa5e7dda12c37e", func := "psaltery/psalterylaw07.ArithAny", spec := "arithAny", unfollowed := true, recurses := true, apart := false, narrowed := true }
def ArithAnyUptoSaid : Prop := arithAnyUptoRow.holds Try.pinned (OpenSpec.upto arithAnySpec)

/-- 'psalterylaw20.SpecGrows', WHERE WHAT IT READS IS OF BULK AT MOST 1048576: true; the input reads as it did. -/
def specGrowsUptoRow : OpenClaim := { program := "ytikjolinendfgaa", sum := "dbe0ae319c82e2c8e11304933d1b60f75e833f685b2b883a4caa5e7dda12c37e", func := "psaltery/psalterylaw20.SpecGrows", spec := "specGrows", unfollowed := true, recurses := true, apart := false, narrowed := true }
def SpecGrowsUptoSaid : Prop := specGrowsUptoRow.holds Try.pinned (OpenSpec.upto specGrowsSpec)

/-- 'psalterylaw20.SpecPuts', WHERE WHAT IT READS IS OF BULK AT MOST 1048576: true; the input reads as it did. -/
def specPutsUptoRow : OpenClaim := { program := "ytikjolinendfgaa", sum := "dbe0ae319c82e2c8e11304933d1b60f75e833f685b2b883a4caa5e7dda12c37e", func := "psaltery/psalterylaw20.SpecPuts", spec := "specPuts", unfollowed := true, recurses := true, apart := false, narrowed := true }
def SpecPutsUptoSaid : Prop := specPutsUptoRow.holds Try.pinned (OpenSpec.upto specPutsSpec)

/-- 'psalterylaw20.SpecAny', WHERE WHAT IT READS IS OF BULK AT MOST 1048576: true; the input reads as it did. -/
def specAnyUptoRow : OpenClaim := { program := "ytikjolinendfgaa", sum := "dbe0ae319c82e2c8e11304933d1b60f75e833f685b2b883a4caa5e7dda12c37e", func := "psaltery/psalterylaw20.SpecAny", spec := "specAny", unfollowed := true, recurses := true, apart := false, narrowed := true }
def SpecAnyUptoSaid : Prop := specAnyUptoRow.holds Try.pinned (OpenSpec.upto specAnySpec)

/-- 'psalterylaw20.SpecBack', WHERE WHAT IT READS IS OF BULK AT MOST 1048576: true; the input reads as it did. -/
def specBackUptoRow : OpenClaim := { program := "ytikjolinendfgaa", sum := "dbe0ae319c82e2c8e11304933d1b60f75e833f685b2b883a4caa5e7dda12c37e", func := "psaltery/psalterylaw20.SpecBack", spec := "specBack", unfollowed := true, recurses := true, apart := false, narrowed := true }
def SpecBackUptoSaid : Prop := specBackUptoRow.holds Try.pinned (OpenSpec.upto specBackSpec)

end Rows
end Go.Proofs.Ytikjolinendfgaa
