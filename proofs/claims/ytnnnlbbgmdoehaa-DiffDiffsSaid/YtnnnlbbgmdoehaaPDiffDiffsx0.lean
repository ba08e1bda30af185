-- PRINTED by print.py (a twelfth state) out of the translation. Not trusted: Lean checks it.
import Derived.Test.YtnnnlbbgmdoehaaProg
import Derived.Below
import Derived.Deep.Draws
import Derived.Deep.AppendLies
import Derived.Maps.AppendAt
import Derived.OwnWalk
import Derived.Laws.BytesArg
import Derived.Laws.MakeOwn
import Derived.Laws.OwnMore
import Derived.Deep.OwnRows
import Derived.Tactics
import Derived.Lib.ConvBytes
import Derived.Laws.Slices
import Derived.WalkKit
import Derived.KernelRfl
import Derived.RowKit3
import Derived.Deep.LoopGhost
import Derived.Deep.QuietTactic
import Derived.BigQuiet
import Derived.WideLaws
import Derived.Deep.DeepCutAuto
import Derived.Deep.CutBlock
import Derived.Deep.RegionHeld3
import Derived.Laws.Rows
import Derived.Lib.AppendStr
import Derived.ArgAppend
import Derived.Laws.IdiomCopy
import Derived.OrdersHeld
import Derived.Laws.BitsLemmas
import Derived.RowKit
import Derived.Test.YtnnnlbbgmdoehaaDfC
import Derived.IntWalk
import Derived.Lib.Hide
import Derived.Test.YtnnnlbbgmdoehaaWWords
import Derived.Test.YtnnnlbbgmdoehaaWLast
import Derived.Test.YtnnnlbbgmdoehaaWTab
import Derived.Test.YtnnnlbbgmdoehaaWFour
import Derived.Test.YtnnnlbbgmdoehaaWQPut
import Derived.Test.YtnnnlbbgmdoehaaWApart
import Derived.Test.YtnnnlbbgmdoehaaWArr
import Derived.Test.YtnnnlbbgmdoehaaWZeros
import Derived.Test.YtnnnlbbgmdoehaaWFoot
import Derived.Test.YtnnnlbbgmdoehaaWKept
import Derived.Test.YtnnnlbbgmdoehaaWShare
import Derived.Test.YtnnnlbbgmdoehaaWN
import Derived.Test.YtnnnlbbgmdoehaaWFootNe
import Derived.Test.YtnnnlbbgmdoehaaWAt
import Derived.Test.YtnnnlbbgmdoehaaWEqStruct
import Derived.Test.YtnnnlbbgmdoehaaWRepsOne
import Derived.Test.YtnnnlbbgmdoehaaWInv
import Derived.Test.YtnnnlbbgmdoehaaWInvWords
import Derived.Test.YtnnnlbbgmdoehaaWGuard
import Derived.Test.YtnnnlbbgmdoehaaWNEv
import Derived.Test.YtnnnlbbgmdoehaaWMore
namespace Go.Proofs.Ytnnnlbbgmdoehaa.PDiffDiffs
open Go.RowKit Go.Proofs.YtnnnlbbgmdoehaaW.PrintWords Go.Proofs.YtnnnlbbgmdoehaaW.PrintLast Go.Proofs.YtnnnlbbgmdoehaaW.PrintMore
attribute [local go_sem] max2_int min2_int max_two min_two max_three min_three max_four min_four   -- for this text's walks alone
set_option linter.unusedVariables false
set_option linter.unusedSimpArgs false



def errW : Option Int → Value
  | none => .nilIface
  | some c => .iface 0 (.int .i64 c)
theorem errW_none : errW none = .nilIface := rfl
theorem errW_some (c : Int) : errW (some c) = .iface 0 (.int .i64 c) := rfl

theorem info9 : (Try.prog.info? 9).map (fun i => (i.zero, i.size, i.bytes)) = some (some (.string ⟨#[]⟩), 1, 16) := by kernel_rfl
-- the values' own types

end Go.Proofs.Ytnnnlbbgmdoehaa.PDiffDiffs
