/- name.Labels: the labels of a name, appended one by one in a range over the iterator. -/
import Derived.Test.YtpbakampjiihfaaLab
import Derived.OwnWalkIn
import Derived.Maps.OwnIn
namespace Go.Proofs.Ytpbakampjiihfaa
set_option linter.unusedVariables false
set_option linter.unusedSimpArgs false
open Go.RowKit Go.Shelf Go.Proofs.YtpbakampjiihfaaW.PrintWords
attribute [local go_sem] Oper.semAt_some

def name_Labels.f (a0 : ByteArray) : Option (List ByteArray × Int) := (name_Right.f a0).bind fun ok => if ok = true then some ((pairs a0).map Prod.fst, 0) else some ([], 2)
end Go.Proofs.Ytpbakampjiihfaa
