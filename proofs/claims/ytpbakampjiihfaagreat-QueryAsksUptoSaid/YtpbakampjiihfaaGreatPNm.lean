/- Labels: what the program's iterator tells. No program in sight. -/
import Derived.Test.YtpbakampjiihfaaGreatLab
import Derived.Test.YtpbakampjiihfaaGreatBld
namespace Go.Proofs.YtpbakampjiihfaaGreat
set_option linter.unusedVariables false
set_option linter.unusedSimpArgs false
open Go.RowKit Go.Proofs.YtpbakampjiihfaaGreatW.PrintWords Go.Proofs.YtpbakampjiihfaaGreat.Q

theorem wr (n : Int) (h : -9223372036854775808 ≤ n ∧ n ≤ 9223372036854775807) : wrap64 n = n := by unfold wrap64; omega
def okN (a0 : ByteArray) : Bool := (endOf a0 (pairs a0)).toList == [0]
theorem nameRight_f (a0 : ByteArray) (h : a0.size ≤ 9223372036854775807) : name_Right.f a0 = some (decide (a0.size ≤ 255) && okN a0) := by
  unfold name_Right.f
  rw [if_pos h]; rfl
/-- A name? -/
def isName (a0 : ByteArray) : Bool := decide (a0.size ≤ 255) && okN a0
end Go.Proofs.YtpbakampjiihfaaGreat
