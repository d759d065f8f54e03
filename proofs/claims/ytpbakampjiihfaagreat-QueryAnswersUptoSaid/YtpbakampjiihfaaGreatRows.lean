/-
  No cell of these rows narrows 'for every input' (looked for: loops, veiled, ifaces, maps, wideKeys, modest, calm, conditions, laid).
  DERIVED. THE GIVEN ROWS OF THIS SEAT. 8 by the template 'for every input the law returns true; each argument reads behind the call as it read before'; 0 by the template 'total and deterministic' (their statements: YtpbakampjiihfaaGreatTotals.lean).
  GIVEN WITH THE SEED: the statements are not yours to turn. If you find one false, say at which input.
  Laid BY PROGRAM, IN A SANDBOX (cutbox-rows.mjs): the forced cells as the released guide's own fill.sh prints them over the translation 6d62148cc54e7912… (all of the seat's roots in one cut). By AI agents, Wed Nov 11 2026. No macro, syntax, notation, axiom, sorry.
-/
import Derived.Test.YtpbakampjiihfaaGreatChecked
import GoSem.Claim
import GoSem.ClaimJoined
import GoSem.ClaimMapViews
import Derived.JoinedTies
import Derived.KernelRfl
namespace Go.Proofs.YtpbakampjiihfaaGreat
/- THE CELL 'sum', in the pinned program and in every row, IS THE sha256 OF THE DUMP (.gsa) THAT YtpbakampjiihfaaGreatProg.lean LOADS. Nothing in Lean hashes anything: it is a label: what it is worth is what the hold of that sum in a sandbox is worth. -/
noncomputable def Tryz.pinned : Pinned := { name := "ytpbakampjiihfaagreat", sum := "6d62148cc54e791215a7e6e0b4b4a38c17abd96359f1d9c9412d67ba059e8ba4", checked := Tryz.checked }
namespace Rows
def none {H : Type} : Left H := { results := [], args := [] }

/-- 'beadrolllaw15.LookupAsks': WHATEVER THE INPUT: true; the input reads as it did. -/
def lookupAsksSpec : ChangeSpec := { name := "lookupAsks", fn := fun _ => fun
  | [d1, d2, d3] => { results := [.lit (.bool true)], args := [d1, d2, d3] }
  | _ => none }
def lookupAsksRow : OpenClaim := { program := "ytpbakampjiihfaagreat", sum := "6d62148cc54e791215a7e6e0b4b4a38c17abd96359f1d9c9412d67ba059e8ba4", func := "beadroll/beadrolllaw15.LookupAsks", spec := "lookupAsks", inPlace := ["internal/abi.NoEscape", "slices.overlaps[string]", "internal/bytealg.MakeNoZero"], unfollowed := true, recurses := true, apart := false }
def LookupAsksSaid : Prop := lookupAsksRow.holds Tryz.pinned (OpenSpec.ofChange lookupAsksSpec)

/-- ITS FALSE NEIGHBOUR: 'it returns false'. Refute it at one input. -/
def lookupAsksWrong : ChangeSpec := { name := "lookupAsks", fn := fun _ => fun
  | [d1, d2, d3] => { results := [.lit (.bool false)], args := [d1, d2, d3] }
  | _ => none }
def LookupAsksWrongFalsely : Prop := lookupAsksRow.holds Tryz.pinned (OpenSpec.ofChange lookupAsksWrong)

/-- 'beadrolllaw15.LookupFinds': WHATEVER THE INPUT: true; the input reads as it did. -/
def lookupFindsSpec : ChangeSpec := { name := "lookupFinds", fn := fun _ => fun
  | [d1, d2] => { results := [.lit (.bool true)], args := [d1, d2] }
  | _ => none }
def lookupFindsRow : OpenClaim := { program := "ytpbakampjiihfaagreat", sum := "6d62148cc54e791215a7e6e0b4b4a38c17abd96359f1d9c9412d67ba059e8ba4", func := "beadroll/beadrolllaw15.LookupFinds", spec := "lookupFinds", inPlace := ["internal/abi.NoEscape", "slices.overlaps[string]", "internal/bytealg.MakeNoZero"], unfollowed := true, recurses := true, apart := false }
def LookupFindsSaid : Prop := lookupFindsRow.holds Tryz.pinned (OpenSpec.ofChange lookupFindsSpec)

/-- ITS FALSE NEIGHBOUR: 'it returns false'. Refute it at one input. -/
def lookupFindsWrong : ChangeSpec := { name := "lookupFinds", fn := fun _ => fun
  | [d1, d2] => { results := [.lit (.bool false)], args := [d1, d2] }
  | _ => none }
def LookupFindsWrongFalsely : Prop := lookupFindsRow.holds Tryz.pinned (OpenSpec.ofChange lookupFindsWrong)

/-- 'beadrolllaw15.LookupOwn': WHATEVER THE INPUT: true; the input reads as it did. -/
def lookupOwnSpec : ChangeSpec := { name := "lookupOwn", fn := fun _ => fun
  | [d1, d2, d3] => { results := [.lit (.bool true)], args := [d1, d2, d3] }
  | _ => none }
def lookupOwnRow : OpenClaim := { program := "ytpbakampjiihfaagreat", sum := "6d62148cc54e791215a7e6e0b4b4a38c17abd96359f1d9c9412d67ba059e8ba4", func := "beadroll/beadrolllaw15.LookupOwn", spec := "lookupOwn", inPlace := ["internal/abi.NoEscape", "slices.overlaps[string]", "internal/bytealg.MakeNoZero"], unfollowed := true, recurses := true, apart := false }
def LookupOwnSaid : Prop := lookupOwnRow.holds Tryz.pinned (OpenSpec.ofChange lookupOwnSpec)

/-- ITS FALSE NEIGHBOUR: 'it returns false'. Refute it at one input. -/
def lookupOwnWrong : ChangeSpec := { name := "lookupOwn", fn := fun _ => fun
  | [d1, d2, d3] => { results := [.lit (.bool false)], args := [d1, d2, d3] }
  | _ => none }
def LookupOwnWrongFalsely : Prop := lookupOwnRow.holds Tryz.pinned (OpenSpec.ofChange lookupOwnWrong)

/-- 'beadrolllaw15.LookupThere': WHATEVER THE INPUT: true; the input reads as it did. -/
def lookupThereSpec : ChangeSpec := { name := "lookupThere", fn := fun _ => fun
  | [d1, d2] => { results := [.lit (.bool true)], args := [d1, d2] }
  | _ => none }
def lookupThereRow : OpenClaim := { program := "ytpbakampjiihfaagreat", sum := "6d62148cc54e791215a7e6e0b4b4a38c17abd96359f1d9c9412d67ba059e8ba4", func := "beadroll/beadrolllaw15.LookupThere", spec := "lookupThere", inPlace := ["internal/abi.NoEscape", "slices.overlaps[string]", "internal/bytealg.MakeNoZero"], unfollowed := true, recurses := true, apart := false }
def LookupThereSaid : Prop := lookupThereRow.holds Tryz.pinned (OpenSpec.ofChange lookupThereSpec)

/-- ITS FALSE NEIGHBOUR: 'it returns false'. Refute it at one input. -/
def lookupThereWrong : ChangeSpec := { name := "lookupThere", fn := fun _ => fun
  | [d1, d2] => { results := [.lit (.bool false)], args := [d1, d2] }
  | _ => none }
def LookupThereWrongFalsely : Prop := lookupThereRow.holds Tryz.pinned (OpenSpec.ofChange lookupThereWrong)

/-- 'beadrolllaw15.LookupCase': WHATEVER THE INPUT: true; the input reads as it did. -/
def lookupCaseSpec : ChangeSpec := { name := "lookupCase", fn := fun _ => fun
  | [d1, d2, d3] => { results := [.lit (.bool true)], args := [d1, d2, d3] }
  | _ => none }
def lookupCaseRow : OpenClaim := { program := "ytpbakampjiihfaagreat", sum := "6d62148cc54e791215a7e6e0b4b4a38c17abd96359f1d9c9412d67ba059e8ba4", func := "beadroll/beadrolllaw15.LookupCase", spec := "lookupCase", inPlace := ["internal/abi.NoEscape", "slices.overlaps[string]", "internal/bytealg.MakeNoZero"], unfollowed := true, recurses := true, apart := false }
def LookupCaseSaid : Prop := lookupCaseRow.holds Tryz.pinned (OpenSpec.ofChange lookupCaseSpec)

/-- ITS FALSE NEIGHBOUR: 'it returns false'. Refute it at one input. -/
def lookupCaseWrong : ChangeSpec := { name := "lookupCase", fn := fun _ => fun
  | [d1, d2, d3] => { results := [.lit (.bool false)], args := [d1, d2, d3] }
  | _ => none }
def LookupCaseWrongFalsely : Prop := lookupCaseRow.holds Tryz.pinned (OpenSpec.ofChange lookupCaseWrong)

/-- 'beadrolllaw25.QueryAnswers': WHATEVER THE INPUT: true; the input reads as it did. -/
def queryAnswersSpec : ChangeSpec := { name := "queryAnswers", fn := fun _ => fun
  | [d1, d2] => { results := [.lit (.bool true)], args := [d1, d2] }
  | _ => none }
def queryAnswersRow : OpenClaim := { program := "ytpbakampjiihfaagreat", sum := "6d62148cc54e791215a7e6e0b4b4a38c17abd96359f1d9c9412d67ba059e8ba4", func := "beadroll/beadrolllaw25.QueryAnswers", spec := "queryAnswers", inPlace := ["internal/abi.NoEscape", "slices.overlaps[string]", "internal/bytealg.MakeNoZero"], unfollowed := true, recurses := true, apart := false }
def QueryAnswersSaid : Prop := queryAnswersRow.holds Tryz.pinned (OpenSpec.ofChange queryAnswersSpec)

/-- ITS FALSE NEIGHBOUR: 'it returns false'. Refute it at one input. -/
def queryAnswersWrong : ChangeSpec := { name := "queryAnswers", fn := fun _ => fun
  | [d1, d2] => { results := [.lit (.bool false)], args := [d1, d2] }
  | _ => none }
def QueryAnswersWrongFalsely : Prop := queryAnswersRow.holds Tryz.pinned (OpenSpec.ofChange queryAnswersWrong)

/-- 'beadrolllaw25.QueryAsks': WHATEVER THE INPUT: true; the input reads as it did. -/
def queryAsksSpec : ChangeSpec := { name := "queryAsks", fn := fun _ => fun
  | [d] => { results := [.lit (.bool true)], args := [d] }
  | _ => none }
def queryAsksRow : OpenClaim := { program := "ytpbakampjiihfaagreat", sum := "6d62148cc54e791215a7e6e0b4b4a38c17abd96359f1d9c9412d67ba059e8ba4", func := "beadroll/beadrolllaw25.QueryAsks", spec := "queryAsks", inPlace := ["internal/abi.NoEscape", "slices.overlaps[string]", "internal/bytealg.MakeNoZero"], unfollowed := true, recurses := true, apart := false }
def QueryAsksSaid : Prop := queryAsksRow.holds Tryz.pinned (OpenSpec.ofChange queryAsksSpec)

/-- ITS FALSE NEIGHBOUR: 'it returns false'. Refute it at one input. -/
def queryAsksWrong : ChangeSpec := { name := "queryAsks", fn := fun _ => fun
  | [d] => { results := [.lit (.bool false)], args := [d] }
  | _ => none }
def QueryAsksWrongFalsely : Prop := queryAsksRow.holds Tryz.pinned (OpenSpec.ofChange queryAsksWrong)

/-- 'beadrolllaw25.QueryRefuses': WHATEVER THE INPUT: true; the input reads as it did. -/
def queryRefusesSpec : ChangeSpec := { name := "queryRefuses", fn := fun _ => fun
  | [d1, d2] => { results := [.lit (.bool true)], args := [d1, d2] }
  | _ => none }
def queryRefusesRow : OpenClaim := { program := "ytpbakampjiihfaagreat", sum := "6d62148cc54e791215a7e6e0b4b4a38c17abd96359f1d9c9412d67ba059e8ba4", func := "beadroll/beadrolllaw25.QueryRefuses", spec := "queryRefuses", inPlace := ["internal/abi.NoEscape", "slices.overlaps[string]", "internal/bytealg.MakeNoZero"], unfollowed := true, recurses := true, apart := false }
def QueryRefusesSaid : Prop := queryRefusesRow.holds Tryz.pinned (OpenSpec.ofChange queryRefusesSpec)

/-- ITS FALSE NEIGHBOUR: 'it returns false'. Refute it at one input. -/
def queryRefusesWrong : ChangeSpec := { name := "queryRefuses", fn := fun _ => fun
  | [d1, d2] => { results := [.lit (.bool false)], args := [d1, d2] }
  | _ => none }
def QueryRefusesWrongFalsely : Prop := queryRefusesRow.holds Tryz.pinned (OpenSpec.ofChange queryRefusesWrong)

/- THE SECOND FORM. 'bulk': how many values and letters a reading holds, each counted each time it is reached (what is shared counts as often as it is met; a slice's spare places count too). A statement '..UptoSaid' is the law's where the arguments, and the package variables that the reading takes, are together of bulk at most 1048576: NARROWER than '..Said'. Prove '..Said' where nothing that the law and all that it calls make is longer than what came in: it says more and counts as full. Else prove '..UptoSaid'. A law counts once. -/
mutual
def uptoBulk {H : Type} : DataW H → Nat
  | .lit (.string bytes) => bytes.length + 1
  | .lit _ => 1
  | .nil => 1
  | .ptr d => uptoBulk d + 1
  | .slice elems spare => uptoBulkAll elems + uptoBulkAll spare + 1
  | .agg parts => uptoBulkAll parts + 1
  | .iface _ d => uptoBulk d + 1
  | .map entries => uptoBulkEntries entries + 1
  | .held _ => 1
def uptoBulkAll {H : Type} : List (DataW H) → Nat
  | [] => 0
  | d :: r => uptoBulk d + uptoBulkAll r
def uptoBulkEntries {H : Type} : List (Lit × DataW H) → Nat
  | [] => 0
  | x :: r => uptoBulkEntry x + uptoBulkEntries r
def uptoBulkEntry {H : Type} : Lit × DataW H → Nat
  | (.string bytes, d) => bytes.length + uptoBulk d + 1
  | (_, d) => uptoBulk d + 1
 end
def uptoSmall : (H : Type) → List (DataW H) → Bool := fun _ ds => decide (uptoBulkAll ds ≤ 1048576)
def OpenSpec.upto (s : _root_.Go.ChangeSpec) : _root_.Go.OpenSpec := { _root_.Go.OpenSpec.ofChange s with cond := some uptoSmall }

/-- 'beadrolllaw15.LookupAsks', WHERE WHAT IT READS IS OF BULK AT MOST 1048576: true; the input reads as it did. -/
def lookupAsksUptoRow : OpenClaim := { program := "ytpbakampjiihfaagreat", sum := "6d62148cc54e791215a7e6e0b4b4a38c17abd96359f1d9c9412d67ba059e8ba4", func := "beadroll/beadrolllaw15.LookupAsks", spec := "lookupAsks", inPlace := ["internal/abi.NoEscape", "slices.overlaps[string]", "internal/bytealg.MakeNoZero"], unfollowed := true, recurses := true, apart := false, narrowed := true }
def LookupAsksUptoSaid : Prop := lookupAsksUptoRow.holds Tryz.pinned (OpenSpec.upto lookupAsksSpec)

/-- 'beadrolllaw15.LookupFinds', WHERE WHAT IT READS IS OF BULK AT MOST 1048576: true; the input reads as it did. -/
def lookupFindsUptoRow : OpenClaim := { program := "ytpbakampjiihfaagreat", sum := "6d62148cc54e791215a7e6e0b4b4a38c17abd96359f1d9c9412d67ba059e8ba4", func := "beadroll/beadrolllaw15.LookupFinds", spec := "lookupFinds", inPlace := ["internal/abi.NoEscape", "slices.overlaps[string]", "internal/bytealg.MakeNoZero"], unfollowed := true, recurses := true, apart := false, narrowed := true }
def LookupFindsUptoSaid : Prop := lookupFindsUptoRow.holds Tryz.pinned (OpenSpec.upto lookupFindsSpec)

/-- 'beadrolllaw15.LookupOwn', WHERE WHAT IT READS IS OF BULK AT MOST 1048576: true; the input reads as it did. -/
def lookupOwnUptoRow : OpenClaim := { program := "ytpbakampjiihfaagreat", sum := "6d62148cc54e791215a7e6e0b4b4a38c17abd96359f1d9c9412d67ba059e8ba4", func := "beadroll/beadrolllaw15.LookupOwn", spec := "lookupOwn", inPlace := ["internal/abi.NoEscape", "slices.overlaps[string]", "internal/bytealg.MakeNoZero"], unfollowed := true, recurses := true, apart := false, narrowed := true }
def LookupOwnUptoSaid : Prop := lookupOwnUptoRow.holds Tryz.pinned (OpenSpec.upto lookupOwnSpec)

/-- 'beadrolllaw15.LookupThere', WHERE WHAT IT READS IS OF BULK AT MOST 1048576: true; the input reads as it did. -/
def lookupThereUptoRow : OpenClaim := { program := "ytpbakampjiihfaagreat", sum := "6d62148cc54e791215a7e6e0b4b4a38c17abd96359f1d9c9412d67ba059e8ba4", func := "beadroll/beadrolllaw15.LookupThere", spec := "lookupThere", inPlace := ["internal/abi.NoEscape", "slices.overlaps[string]", "internal/bytealg.MakeNoZero"], unfollowed := true, recurses := true, apart := false, narrowed := true }
def LookupThereUptoSaid : Prop := lookupThereUptoRow.holds Tryz.pinned (OpenSpec.upto lookupThereSpec)

/-- 'beadrolllaw15.LookupCase', WHERE WHAT IT READS IS OF BULK AT MOST 1048576: true; the input reads as it did. -/
def lookupCaseUptoRow : OpenClaim := { program := "ytpbakampjiihfaagreat", sum := "6d62148cc54e791215a7e6e0b4b4a38c17abd96359f1d9c9412d67ba059e8ba4", func := "beadroll/beadrolllaw15.LookupCase", spec := "lookupCase", inPlace := ["internal/abi.NoEscape", "slices.overlaps[string]", "internal/bytealg.MakeNoZero"], unfollowed := true, recurses := true, apart := false, narrowed := true }
def LookupCaseUptoSaid : Prop := lookupCaseUptoRow.holds Tryz.pinned (OpenSpec.upto lookupCaseSpec)

/-- 'beadrolllaw25.QueryAnswers', WHERE WHAT IT READS IS OF BULK AT MOST 1048576: true; the input reads as it did. -/
def queryAnswersUptoRow : OpenClaim := { program := "ytpbakampjiihfaagreat", sum := "6d62148cc54e791215a7e6e0b4b4a38c17abd96359f1d9c9412d67ba059e8ba4", func := "beadroll/beadrolllaw25.QueryAnswers", spec := "queryAnswers", inPlace := ["internal/abi.NoEscape", "slices.overlaps[string]", "internal/bytealg.MakeNoZero"], unfollowed := true, recurses := true, apart := false, narrowed := true }
def QueryAnswersUptoSaid : Prop := queryAnswersUptoRow.holds Tryz.pinned (OpenSpec.upto queryAnswersSpec)

/-- 'beadrolllaw25.QueryAsks', WHERE WHAT IT READS IS OF BULK AT MOST 1048576: true; the input reads as it did. -/
def queryAsksUptoRow : OpenClaim := { program := "ytpbakampjiihfaagreat", sum := "6d62148cc54e791215a7e6e0b4b4a38c17abd96359f1d9c9412d67ba059e8ba4", func := "beadroll/beadrolllaw25.QueryAsks", spec := "queryAsks", inPlace := ["internal/abi.NoEscape", "slices.overlaps[string]", "internal/bytealg.MakeNoZero"], unfollowed := true, recurses := true, apart := false, narrowed := true }
def QueryAsksUptoSaid : Prop := queryAsksUptoRow.holds Tryz.pinned (OpenSpec.upto queryAsksSpec)

/-- 'beadrolllaw25.QueryRefuses', WHERE WHAT IT READS IS OF BULK AT MOST 1048576: true; the input reads as it did. -/
def queryRefusesUptoRow : OpenClaim := { program := "ytpbakampjiihfaagreat", sum := "6d62148cc54e791215a7e6e0b4b4a38c17abd96359f1d9c9412d67ba059e8ba4", func := "beadroll/beadrolllaw25.QueryRefuses", spec := "queryRefuses", inPlace := ["internal/abi.NoEscape", "slices.overlaps[string]", "internal/bytealg.MakeNoZero"], unfollowed := true, recurses := true, apart := false, narrowed := true }
def QueryRefusesUptoSaid : Prop := queryRefusesUptoRow.holds Tryz.pinned (OpenSpec.upto queryRefusesSpec)

end Rows
end Go.Proofs.YtpbakampjiihfaaGreat
