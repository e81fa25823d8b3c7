/- What all texts of this seat import: the seat's program, the kit's laws on walks, the print's words. It proves a few small laws on worlds. -/
import Derived.Test.YtikjolinendfgaaProg
import Derived.Below
import Derived.Deep.Draws
import Derived.Deep.AppendLies
import Derived.Maps.AppendAt
import Derived.OwnWalk
import Derived.Laws.BytesArg
import Derived.Laws.MakeOwn
import Derived.Laws.OwnMore
import Derived.Deep.OwnRows
import Derived.Tactics
import Derived.Lib.ConvBytes
import Derived.Laws.Slices
import Derived.WalkKit
import Derived.WalkSpells
import Derived.WalkLawsBesides
import Derived.KernelRfl
import Derived.RowKit3
import Derived.Deep.LoopGhost
import Derived.Deep.QuietTactic
import Derived.BigQuiet
import Derived.WideLaws
import Derived.Deep.DeepCutAuto
import Derived.Deep.CutBlock
import Derived.Deep.RegionHeld3
import Derived.Deep.RegionWith
import Derived.Deep.RegionLaw
import Derived.Laws.Rows
import Derived.Lib.AppendStr
import Derived.Lib.Hide
import Derived.ArgAppend
import Derived.Laws.IdiomCopy
import Derived.OrdersHeld
import Derived.Laws.BitsLemmas
import Derived.RowKit
import Derived.Outline
import Derived.StillTailTactics
import Derived.WalkSmall
import Derived.Laws.CopyOwn
import Derived.Laws.AppendOwnNone
import Derived.Handy
import Derived.Lib.SlBytesConst
import Derived.Lib.SmallJoins
import Derived.Test.YtikjolinendfgaaWWords
import Derived.Test.YtikjolinendfgaaWLast
import Derived.Test.YtikjolinendfgaaWTab
import Derived.Test.YtikjolinendfgaaWFour
import Derived.Test.YtikjolinendfgaaWQPut
import Derived.Test.YtikjolinendfgaaWApart
import Derived.Test.YtikjolinendfgaaWArr
import Derived.Test.YtikjolinendfgaaWZeros
import Derived.Test.YtikjolinendfgaaWFoot
import Derived.Test.YtikjolinendfgaaWKept
import Derived.Test.YtikjolinendfgaaWShare
import Derived.Test.YtikjolinendfgaaWN
import Derived.Test.YtikjolinendfgaaWFootNe
import Derived.Test.YtikjolinendfgaaWAt
import Derived.Test.YtikjolinendfgaaWEqStruct
import Derived.Test.YtikjolinendfgaaWRepsOne
import Derived.Test.YtikjolinendfgaaWInv
import Derived.Test.YtikjolinendfgaaWInvWords
import Derived.Test.YtikjolinendfgaaWGuard
import Derived.Test.YtikjolinendfgaaWNEv
import Derived.Test.YtikjolinendfgaaWMore
namespace Go.Proofs.Ytikjolinendfgaa
open Go.RowKit

theorem bcell {B : Nat} {W w1 : World} (hb : Below B W w1) : (∀ b o, b < B → w1.cell? ⟨b, o, none⟩ = W.cell? ⟨b, o, none⟩) ∧ (∀ b o, b < B → w1.frozen? ⟨b, o, none⟩ = W.frozen? ⟨b, o, none⟩) :=
  ⟨fun b o h => hb.cell (p := ⟨b, o, none⟩) h, fun b o h => hb.frozen (p := ⟨b, o, none⟩) h⟩

theorem bt {w w1 w2 : World} (h : Below w.heap.size w w1) (k : Below w1.heap.size w1 w2) : Below w.heap.size w w2 := h.trans (k.mono h.size)
theorem ba {w w1 : World} (h : Below w.heap.size w w1) (o : Obj) : Below w.heap.size w (w1.alloc o) := h.alloc h.size o
theorem bd {w w1 : World} (h : Below w.heap.size w w1) : Below w.heap.size w w1.drew := ⟨h.os, h.tape, h.output, h.size, h.block⟩
theorem br (w : World) : Below w.heap.size w w := Below.refl _ _
theorem ret_int {k : IntKind} {a b : Int} (h : a = b) : Ending.returned (.int k a) = .returned (.int k b) := by rw [h]

end Go.Proofs.Ytikjolinendfgaa
