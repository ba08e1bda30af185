-- PRINTED by print.py (a twelfth state) out of the translation. Not trusted: Lean checks it.
import Derived.Test.YtnnnlbbgmdoehaaDoorProg
import Derived.Below
import Derived.Deep.Draws
import Derived.Deep.AppendLies
import Derived.Maps.AppendAt
import Derived.OwnWalk
import Derived.Laws.BytesArg
import Derived.Laws.MakeOwn
import Derived.Laws.OwnMore
import Derived.Deep.OwnRows
import Derived.Tactics
import Derived.Lib.ConvBytes
import Derived.Laws.Slices
import Derived.WalkKit
import Derived.KernelRfl
import Derived.RowKit3
import Derived.Deep.LoopGhost
import Derived.Deep.QuietTactic
import Derived.BigQuiet
import Derived.WideLaws
import Derived.Deep.DeepCutAuto
import Derived.Deep.CutBlock
import Derived.Deep.RegionHeld3
import Derived.Laws.Rows
import Derived.Lib.AppendStr
import Derived.ArgAppend
import Derived.Laws.IdiomCopy
import Derived.OrdersHeld
import Derived.Laws.BitsLemmas
import Derived.RowKit
import Derived.Test.YtnnnlbbgmdoehaaDoorDfC
import Derived.IntWalk
import Derived.Lib.Hide
import Derived.Test.YtnnnlbbgmdoehaaDoorWWords
import Derived.Test.YtnnnlbbgmdoehaaDoorWLast
import Derived.Test.YtnnnlbbgmdoehaaDoorWTab
import Derived.Test.YtnnnlbbgmdoehaaDoorWFour
import Derived.Test.YtnnnlbbgmdoehaaDoorWQPut
import Derived.Test.YtnnnlbbgmdoehaaDoorWApart
import Derived.Test.YtnnnlbbgmdoehaaDoorWArr
import Derived.Test.YtnnnlbbgmdoehaaDoorWZeros
import Derived.Test.YtnnnlbbgmdoehaaDoorWFoot
import Derived.Test.YtnnnlbbgmdoehaaDoorWKept
import Derived.Test.YtnnnlbbgmdoehaaDoorWShare
import Derived.Test.YtnnnlbbgmdoehaaDoorWN
import Derived.Test.YtnnnlbbgmdoehaaDoorWFootNe
import Derived.Test.YtnnnlbbgmdoehaaDoorWAt
import Derived.Test.YtnnnlbbgmdoehaaDoorWEqStruct
import Derived.Test.YtnnnlbbgmdoehaaDoorWRepsOne
import Derived.Test.YtnnnlbbgmdoehaaDoorWInv
import Derived.Test.YtnnnlbbgmdoehaaDoorWInvWords
import Derived.Test.YtnnnlbbgmdoehaaDoorWGuard
import Derived.Test.YtnnnlbbgmdoehaaDoorWNEv
import Derived.Test.YtnnnlbbgmdoehaaDoorWMore
namespace Go.Proofs.YtnnnlbbgmdoehaaDoor.PDiffReads
open Go.RowKit Go.Proofs.YtnnnlbbgmdoehaaDoorW.PrintWords Go.Proofs.YtnnnlbbgmdoehaaDoorW.PrintLast Go.Proofs.YtnnnlbbgmdoehaaDoorW.PrintMore
attribute [local go_sem] max2_int min2_int max_two min_two max_three min_three max_four min_four   -- for this text's walks alone
set_option linter.unusedVariables false
set_option linter.unusedSimpArgs false



def errW : Option Int → Value
  | none => .nilIface
  | some c => .iface 0 (.int .i64 c)
theorem errW_none : errW none = .nilIface := rfl
theorem errW_some (c : Int) : errW (some c) = .iface 0 (.int .i64 c) := rfl

theorem info9 : (Tryd.prog.info? 9).map (fun i => (i.zero, i.size, i.bytes)) = some (some (.string ⟨#[]⟩), 1, 16) := by kernel_rfl
-- the values' own types

end Go.Proofs.YtnnnlbbgmdoehaaDoor.PDiffReads
