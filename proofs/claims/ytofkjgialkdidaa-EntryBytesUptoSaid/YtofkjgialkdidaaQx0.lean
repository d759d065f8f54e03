-- laid by a program of this session (mp.py) that runs the kit's printer over contracts proved by hand
import Derived.Test.YtofkjgialkdidaaProg
import Derived.Below
import Derived.Deep.Draws
import Derived.Deep.AppendLies
import Derived.Maps.AppendAt
import Derived.OwnWalk
import Derived.Laws.BytesArg
import Derived.Laws.MakeOwn
import Derived.Laws.OwnMore
import Derived.Deep.OwnRows
import Derived.Tactics
import Derived.Lib.ConvBytes
import Derived.Laws.Slices
import Derived.WalkKit
import Derived.KernelRfl
import Derived.RowKit3
import Derived.Deep.LoopGhost
import Derived.Deep.QuietTactic
import Derived.BigQuiet
import Derived.WideLaws
import Derived.Deep.DeepCutAuto
import Derived.Deep.CutBlock
import Derived.Deep.RegionHeld3
import Derived.Laws.Rows
import Derived.Lib.AppendStr
import Derived.ArgAppend
import Derived.Laws.IdiomCopy
import Derived.OrdersHeld
import Derived.Laws.BitsLemmas
import Derived.RowKit
import Derived.Test.YtofkjgialkdidaaWWords
import Derived.Test.YtofkjgialkdidaaWLast
import Derived.Test.YtofkjgialkdidaaWFour
import Derived.Test.YtofkjgialkdidaaWApart
import Derived.Test.YtofkjgialkdidaaWFoot
import Derived.Test.YtofkjgialkdidaaWKept
import Derived.Test.YtofkjgialkdidaaWShare
import Derived.Test.YtofkjgialkdidaaWN
import Derived.Test.YtofkjgialkdidaaWFootNe
import Derived.Test.YtofkjgialkdidaaWAt
import Derived.Test.YtofkjgialkdidaaWEqStruct
import Derived.Test.YtofkjgialkdidaaWRepsOne
import Derived.Test.YtofkjgialkdidaaWInvWords
import Derived.Test.YtofkjgialkdidaaWGuard
import Derived.Test.YtofkjgialkdidaaWNEv
import Derived.Test.YtofkjgialkdidaaWMore
namespace Go.Proofs.Ytofkjgialkdidaa.Q
open Go.RowKit Go.Proofs.YtofkjgialkdidaaW.PrintWords Go.Proofs.YtofkjgialkdidaaW.PrintLast Go.Proofs.YtofkjgialkdidaaW.PrintMore
attribute [local go_sem] max2_int min2_int max_two min_two max_three min_three max_four min_four   -- for this text's walks alone
set_option linter.unusedVariables false
set_option linter.unusedSimpArgs false



def errW : Option Int → Value
  | none => .nilIface
  | some c => .iface 0 (.int .i64 c)
theorem errW_none : errW none = .nilIface := rfl
theorem errW_some (c : Int) : errW (some c) = .iface 0 (.int .i64 c) := rfl

theorem info5 : (Try.prog.info? 5).map (fun i => (i.zero, i.size, i.bytes)) = some (some (.int .u8 0), 1, 1) := by kernel_rfl
theorem info9 : (Try.prog.info? 9).map (fun i => (i.zero, i.size, i.bytes)) = some (some (.string ⟨#[]⟩), 1, 16) := by kernel_rfl
-- the values' own types

theorem sA_ {α : Type} {l : List α} {i : Nat} {a : α} : l.toArray.setIfInBounds i a = (l.set i a).toArray := List.setIfInBounds_toArray ..
theorem sB_ {α : Type} {a b : α} {l : List α} : (a :: l).set 0 b = b :: l := rfl
theorem sC_ {α : Type} {a b : α} {l : List α} {n : Nat} : (a :: l).set (n + 1) b = a :: l.set n b := rfl
theorem mA_ {α β : Type} {f : α → β} {l : List α} : l.toArray.map f = (l.map f).toArray := List.map_toArray ..
theorem mC_ {α β : Type} {f : α → β} {a : α} {l : List α} : (a :: l).map f = f a :: l.map f := rfl
theorem mN_ {α β : Type} {f : α → β} : ([] : List α).map f = [] := rfl
theorem lD_ {α : Type} {i : Nat} {l : List α} : (l.drop i).length = l.length - i := List.length_drop ..
theorem lT_ {α : Type} {i : Nat} {l : List α} : (l.take i).length = min i l.length := List.length_take ..
end Go.Proofs.Ytofkjgialkdidaa.Q
