/- Small things. -/
import Derived.Test.YtpbakampjiihfaaGreatEX
namespace Go.Proofs.YtpbakampjiihfaaGreat.E
set_option linter.unusedVariables false
set_option linter.unusedSimpArgs false
open Go Go.Eng Go.RowKit Go.Lib Go.Proofs Go.Proofs.YtpbakampjiihfaaGreat
set_option maxRecDepth 100000
set_option warn.classDefReducibility false
attribute [local instance 2000] dLe dLt dEq dEqS dAnd

theorem wrp (n : Int) (h : -9223372036854775808 ≤ n ∧ n ≤ 9223372036854775807) : wrap64 n = n := by unfold wrap64; omega
end Go.Proofs.YtpbakampjiihfaaGreat.E
/- The plain law: names read in a message: the program's reading and the reference's are one. No program in sight but its printed functions. -/
namespace Go.Proofs.YtpbakampjiihfaaGreat
set_option linter.unusedVariables false
set_option linter.unusedSimpArgs false
open Go.RowKit Go.Proofs.YtpbakampjiihfaaGreatW.PrintWords Go.Proofs.YtpbakampjiihfaaGreat.Q

def finR : Option (ByteArray × Int × Int) → Option (ByteArray × Int × Int)
  | none => (some ((⟨#[]⟩ : ByteArray), (0 : Int), (2 : Int)) : Option (ByteArray × Int × Int))
  | some (n, j, next) => if isName n = true then some (n, (if next < 0 then j else next), 0) else (some ((⟨#[]⟩ : ByteArray), (0 : Int), (2 : Int)) : Option (ByteArray × Int × Int))
/-! ### The reading as a total function -/
end Go.Proofs.YtpbakampjiihfaaGreat
namespace Go.Proofs.YtpbakampjiihfaaGreat.E
set_option linter.unusedVariables false
set_option linter.unusedSimpArgs false
open Go Go.RowKit Go.Lib Go.Proofs Go.Proofs.YtpbakampjiihfaaGreat Go.Proofs.YtpbakampjiihfaaGreatW.PrintWords Go.Proofs.YtpbakampjiihfaaGreat.Q
set_option maxRecDepth 100000
set_option warn.classDefReducibility false
attribute [local instance 2000] Eng.dLe Eng.dLt Eng.dEq Eng.dEqS Eng.dAnd

/-! ### the reference -/
end Go.Proofs.YtpbakampjiihfaaGreat.E
/- The plain law: right records, program and reference. No program in sight but its printed functions. -/
namespace Go.Proofs.YtpbakampjiihfaaGreat.E
set_option linter.unusedVariables false
set_option linter.unusedSimpArgs false
open Go Go.RowKit Go.Lib Go.Proofs Go.Proofs.YtpbakampjiihfaaGreat Go.Proofs.YtpbakampjiihfaaGreatW.PrintWords Go.Proofs.YtpbakampjiihfaaGreat.Q
set_option maxRecDepth 100000
set_option warn.classDefReducibility false

abbrev RRT := ByteArray × Int × Int × Int × ByteArray
def fewR (x : RRT) : Bool := decide (x.1.size ≤ 1000000 ∧ x.2.2.2.2.size ≤ 1000000)
def fits (n : ByteArray) (t c l : Int) (d : ByteArray) : Prop := isName n = true ∧ (0 ≤ t ∧ t ≤ 65535) ∧ (0 ≤ c ∧ c ≤ 65535) ∧ (0 ≤ l ∧ l ≤ 2147483647) ∧ d.size ≤ 65535
instance (n : ByteArray) (t c l : Int) (d : ByteArray) : Decidable (fits n t c l d) := by unfold fits; infer_instance
section
attribute [local instance 2000] Eng.dLe Eng.dLt Eng.dEq Eng.dEqS Eng.dAnd
end
end Go.Proofs.YtpbakampjiihfaaGreat.E
