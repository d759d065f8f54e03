/- The plain law: records: program and reference. No program in sight. -/
import Derived.Test.YtofkjgialkdidaaPA
import Derived.Test.YtofkjgialkdidaaLbs
import Derived.Test.YtofkjgialkdidaaQx9
import Derived.Test.YtofkjgialkdidaaQx12
import Derived.Test.YtofkjgialkdidaaQx0
import Derived.Test.YtofkjgialkdidaaQx7
import Derived.Test.YtofkjgialkdidaaSpl
import Derived.Test.YtofkjgialkdidaaLab
import Derived.Test.YtofkjgialkdidaaBld
import Derived.Test.YtofkjgialkdidaaFo7
import Derived.Test.YtofkjgialkdidaaRd
import Derived.Test.YtofkjgialkdidaaFld
import Derived.Test.YtofkjgialkdidaaQx6
import Derived.Test.YtofkjgialkdidaaQx10
import Derived.Test.YtofkjgialkdidaaQx5
import Derived.Test.YtofkjgialkdidaaProg
import Derived.Test.YtofkjgialkdidaaRows
import Derived.WalkKit
import Derived.ProofKit
import Derived.OpenShut
import Derived.ShutString
import Derived.ChangeOld
import Derived.ChangeSame
import Derived.Below
import Derived.SizedLaws
import Derived.Test.YtofkjgialkdidaaQx1
namespace Go.Proofs.Ytofkjgialkdidaa
set_option linter.unusedVariables false
set_option linter.unusedSimpArgs false
open Go.RowKit Go.Proofs.YtofkjgialkdidaaW.PrintWords Go.Proofs.YtofkjgialkdidaaW.PrintLast Go.Proofs.Ytofkjgialkdidaa.Q
end Go.Proofs.Ytofkjgialkdidaa
namespace Go.Proofs.Ytofkjgialkdidaa
set_option linter.unusedVariables false
set_option linter.unusedSimpArgs false
open Go.RowKit Go.Proofs.YtofkjgialkdidaaW.PrintWords Go.Proofs.YtofkjgialkdidaaW.PrintLast Go.Proofs.Ytofkjgialkdidaa.Q
def typedB (c : Int) (d : ByteArray) : Bool := if c = 1 then true else if c = 254 then (d.toList != ([] : List UInt8)) else false
theorem typed_prog (n : ByteArray) (t c l : Int) (d : ByteArray) : record_typed.f n t c l d = some (typedB c d) := by
  unfold record_typed.f typedB
  split
  · rfl
  · split <;> rfl
theorem typed_ref (c : Int) (d : ByteArray) : beadrollref11_typed.f c (d.toList == ([] : List UInt8)) = some (typedB c d) := by
  unfold beadrollref11_typed.f typedB
  split
  · rfl
  · split <;> rfl
def fits (t c l : Int) (d : ByteArray) : Bool := decide (0 ≤ t ∧ t ≤ 65535 ∧ 0 ≤ c ∧ c ≤ 65535 ∧ 0 ≤ l ∧ l ≤ 2147483647 ∧ d.size ≤ 65535)
def rightR (n : ByteArray) (t c l : Int) (d : ByteArray) : Bool := isName n && fits t c l d && (if typedB c d = true then rightB t d else true)
theorem skel {α : Type} (x : Bool) (t c l : Int) (d : ByteArray) (T : α) (F : Bool → α) (hT : F true = T) :
    (if x = true then (if t < 0 then T else (if t > 65535 then T else (if c < 0 then T else (if c > 65535 then T else (if l < 0 then T else (if l > 2147483647 then T else F (decide ((d.size : Int) > 65535)))))))) else T) = F (!(x && fits t c l d)) := by
  cases x with
  | false => rw [if_neg (by decide)]; exact hT.symm
  | true =>
    rw [if_pos rfl, Bool.true_and]
    by_cases h : 0 ≤ t ∧ t ≤ 65535 ∧ 0 ≤ c ∧ c ≤ 65535 ∧ 0 ≤ l ∧ l ≤ 2147483647
    · rw [if_neg (by omega), if_neg (by omega), if_neg (by omega), if_neg (by omega), if_neg (by omega), if_neg (by omega)]
      congr 1
      unfold fits
      rw [← decide_not]
      exact decide_eq_decide.2 (by omega)
    · have hf : fits t c l d = false := decide_eq_false (by omega)
      rw [hf]
      show _ = F true
      rw [hT]
      by_cases h1 : t < 0
      · rw [if_pos h1]
      rw [if_neg h1]
      by_cases h2 : t > 65535
      · rw [if_pos h2]
      rw [if_neg h2]
      by_cases h3 : c < 0
      · rw [if_pos h3]
      rw [if_neg h3]
      by_cases h4 : c > 65535
      · rw [if_pos h4]
      rw [if_neg h4]
      by_cases h5 : l < 0
      · rw [if_pos h5]
      rw [if_neg h5, if_pos (by omega)]
theorem rightR_prog (n : ByteArray) (t c l : Int) (d : ByteArray) (hn : n.size ≤ 1000000) (hd : d.size ≤ 1000000) (K : Nat) : record_Right.f (K + 1) n t c l d = some (rightR n t c l d) := by
  unfold record_Right.f rightR
  rw [nameRight_f n (by omega)]
  show (if isName n = true then _ else _) = _
  rw [skel (isName n) t c l d _ (fun x => record_Right.j0 (K + 1) x n t c l d) rfl]
  simp only [record_Right.j0]
  cases isName n && fits t c l d with
  | false => rw [if_pos (by decide)]; rfl
  | true =>
    rw [if_neg (by decide), typed_prog, Option.bind_some, Bool.true_and, right_prog t d (by omega)]
    split <;> rfl
theorem rightR_ref (n : ByteArray) (t c l : Int) (d : ByteArray) (hd : d.size ≤ 1000000) : ∃ K, beadrollref11_Right.f K n t c l d = some (rightR n t c l d) := by
  obtain ⟨K1, h1⟩ := refRight_eq n
  obtain ⟨K2, h2⟩ := right_ref t d (by omega)
  refine ⟨max K1 K2 + 1, ?_⟩
  unfold beadrollref11_Right.f rightR
  rw [upO (fun k => beadrollref07_Right.f k n) (fun k => beadrollref07_Right.mono _ k) (show K1 ≤ max K1 K2 + 1 by omega) _ h1]
  show (if isName n = true then _ else _) = _
  rw [skel (isName n) t c l d _ (fun x => beadrollref11_Right.j0 (max K1 K2 + 1) x n t c l d) rfl]
  simp only [beadrollref11_Right.j0]
  cases isName n && fits t c l d with
  | false => rw [if_pos (by decide)]; rfl
  | true =>
    rw [if_neg (by decide), typed_ref, Option.bind_some, Bool.true_and, upO (fun k => beadrollref10_Right.f k t d) (fun k => beadrollref10_Right.mono _ _ k) (show K2 ≤ max K1 K2 by omega) _ h2]
    split <;> rfl
end Go.Proofs.Ytofkjgialkdidaa
namespace Go.Proofs.Ytofkjgialkdidaa
set_option linter.unusedVariables false
set_option linter.unusedSimpArgs false
open Go.ChangeShapes Go.WideShapes Go.ChangeAt Go.RowKit
open Go.ChangeMaps (open_string shut_string)
section
variable {H : Type} {enc : TypeId × Value → H} {W : World} {sp : Nat → Bool}
end
end Go.Proofs.Ytofkjgialkdidaa
namespace Go.Proofs.Ytofkjgialkdidaa.Pure
set_option linter.unusedVariables false
set_option linter.unusedSimpArgs false
open Go.RowKit Go.Proofs.Ytofkjgialkdidaa.Q Go.Proofs.YtofkjgialkdidaaW.PrintWords Go.Proofs.YtofkjgialkdidaaW.PrintLast
end Go.Proofs.Ytofkjgialkdidaa.Pure
