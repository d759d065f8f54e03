/- PRINTED BY eng.py: functions, run by the engine. -/
import Derived.Test.YtpbakampjiihfaaGreatEB
import Derived.Test.YtpbakampjiihfaaGreatGvB2
import Derived.Test.YtpbakampjiihfaaGreatProg
import Derived.Laws.Externs
import Derived.MapKept
import Derived.WalkKit
import Derived.Test.YtpbakampjiihfaaGreatGX
import Derived.Test.YtpbakampjiihfaaGreatEO
set_option maxRecDepth 100000
set_option maxHeartbeats 0
namespace Go.Proofs.YtpbakampjiihfaaGreat.E
set_option linter.unusedVariables false
set_option linter.unusedSimpArgs false
open Go Go.Eng Go.RowKit Go.Lib Go.Proofs
noncomputable section
set_option warn.classDefReducibility false
attribute [local instance 2000] dLe dLt dEq dEqS dAnd
/-! ### beadroll/octets.most -/
/-! ### beadroll/octets.bytes -/
/-! ### beadroll/pack.at -/
/-! ### beadroll/pack.Read -/
/-! ### beadroll/beadrollref07.Labels -/
/-! ### beadroll/beadrollref07.Right -/
/-! ### beadroll/beadrollref09.Read -/
/-! ### beadroll/beadrollref10.Parts -/
/-! ### beadroll/beadrollref01.Width -/
/-! ### beadroll/beadrollref01.Number -/
/-! ### beadroll/beadrollref01.Cut -/
/-! ### beadroll/beadrollref01.Pieces -/
/-! ### beadroll/beadrollref10.Read -/
/-! ### beadroll/beadrollref10.join -/
/-! ### beadroll/beadrollref10.Whole -/
/-! ### beadroll/beadrollref10.Right -/
/-! ### beadroll/beadrollref07.lower -/
/-! ### beadroll/beadrollref07.Fold -/
/-! ### beadroll/beadrollref10.Fold -/
/-! ### beadroll/beadrollref11.typed -/
/-! ### beadroll/beadrollref11.Right -/
/-! ### beadroll/rdata.parts -/
/-! ### beadroll/rdata.part -/
/-! ### beadroll/rdata.Right$1 -/
/-! ### beadroll/rdata.walk -/
/-! ### beadroll/rdata.Right -/
/-! ### (*strings.Builder).WriteString -/
/-! ### beadroll/rdata.Fold$1 -/
/-! ### beadroll/rdata.walk -/
/-! ### beadroll/rdata.Fold -/
/-! ### beadroll/record.typed -/
/-! ### beadroll/record.Right -/
/-! ### beadroll/beadrollref12.in -/
/-! ### beadroll/beadrollref12.rights -/
/-! ### beadroll/beadrollref12.Formed -/
/-! ### beadroll/beadrollref12.Few -/
noncomputable def g35.G : List FSpec := []
theorem g35.G_ok : ∀ sp ∈ g35.G, FOk Tryz.prog sp := allOk_nil
noncomputable def g35.s3 (again : Int → Int × Bool × Int × Bool × Bool × Bool × Bool × Int × Int × List (ByteArray × Int × Int) × List (ByteArray × Int × Int × Int × ByteArray) × List (ByteArray × Int × Int × Int × ByteArray) × List (ByteArray × Int × Int × Int × ByteArray) → List (ByteArray × Int × Int × Int × ByteArray) → Option (Bool ⊕ ((Int × Bool × Int × Bool × Bool × Bool × Bool × Int × Int × List (ByteArray × Int × Int) × List (ByteArray × Int × Int × Int × ByteArray) × List (ByteArray × Int × Int × Int × ByteArray) × List (ByteArray × Int × Int × Int × ByteArray)) × (List (ByteArray × Int × Int × Int × ByteArray))))) (a0 : Int) (a1 : Int × Bool × Int × Bool × Bool × Bool × Bool × Int × Int × List (ByteArray × Int × Int) × List (ByteArray × Int × Int × Int × ByteArray) × List (ByteArray × Int × Int × Int × ByteArray) × List (ByteArray × Int × Int × Int × ByteArray)) (a2 : List (ByteArray × Int × Int × Int × ByteArray)) : Option (Bool ⊕ ((Int × Bool × Int × Bool × Bool × Bool × Bool × Int × Int × List (ByteArray × Int × Int) × List (ByteArray × Int × Int × Int × ByteArray) × List (ByteArray × Int × Int × Int × ByteArray) × List (ByteArray × Int × Int × Int × ByteArray)) × (List (ByteArray × Int × Int × Int × ByteArray)))) :=
  if a0 < (nz a2.length) then (if 0 ≤ a0 then if a0 < nz a2.length then (match a2[a0.toNat]? with
   | some x1 => if (600 : Int) < (nz x1.1.size) then some (.inl false)
    else if 0 ≤ a0 then if a0 < nz a2.length then (match a2[a0.toNat]? with
    | some x2 => if (2000 : Int) < (nz x2.2.2.2.2.size) then some (.inl false)
     else again (wrap64 (a0 + 1)) a1 a2
    | none => none)
    else none
    else none
   | none => none)
   else none
   else none)
  else some (.inr (a1, a2))
noncomputable def g35.l3 : Nat → Int → Int × Bool × Int × Bool × Bool × Bool × Bool × Int × Int × List (ByteArray × Int × Int) × List (ByteArray × Int × Int × Int × ByteArray) × List (ByteArray × Int × Int × Int × ByteArray) × List (ByteArray × Int × Int × Int × ByteArray) → List (ByteArray × Int × Int × Int × ByteArray) → Option (Bool ⊕ ((Int × Bool × Int × Bool × Bool × Bool × Bool × Int × Int × List (ByteArray × Int × Int) × List (ByteArray × Int × Int × Int × ByteArray) × List (ByteArray × Int × Int × Int × ByteArray) × List (ByteArray × Int × Int × Int × ByteArray)) × (List (ByteArray × Int × Int × Int × ByteArray))))
  | 0, _, _, _ => none
  | k + 1, a0, a1, a2 => g35.s3 (g35.l3 k) a0 a1 a2
def g35.n3 : Norm := ⟨[1, 3, 4], [(false, [.ptr 0 0]), (false, [.sl 1]), (false, [.k (.int .i64)])], [some (.cells [.k (.pair (.int .i64) (.pair .bool (.pair (.int .i64) (.pair .bool (.pair .bool (.pair .bool (.pair .bool (.pair (.int .i64) (.pair (.int .i64) (.pair (.list 69 (.pair .str (.pair (.int .i64) (.int .i64)))) (.pair (.list 49 (.pair .str (.pair (.int .i64) (.pair (.int .i64) (.pair (.int .i64) .str))))) (.pair (.list 49 (.pair .str (.pair (.int .i64) (.pair (.int .i64) (.pair (.int .i64) .str))))) (.list 49 (.pair .str (.pair (.int .i64) (.pair (.int .i64) (.pair (.int .i64) .str)))))))))))))))))] 62), some (.lst 49 (.pair .str (.pair (.int .i64) (.pair (.int .i64) (.pair (.int .i64) .str)))))]⟩
def g35.x3 : List ExitS := [{ e := .ret, n := ⟨[2], [(false, [.k .bool])], []⟩, raw := Bool, ret := fun y => (((y, ()), ()), ()), un := fun z => z.1.1.1 },
  { e := .exit 0, n := ⟨[1, 3], [(false, [.ptr 0 0]), (false, [.sl 1])], [some (.cells [.k (.pair (.int .i64) (.pair .bool (.pair (.int .i64) (.pair .bool (.pair .bool (.pair .bool (.pair .bool (.pair (.int .i64) (.pair (.int .i64) (.pair (.list 69 (.pair .str (.pair (.int .i64) (.int .i64)))) (.pair (.list 49 (.pair .str (.pair (.int .i64) (.pair (.int .i64) (.pair (.int .i64) .str))))) (.pair (.list 49 (.pair .str (.pair (.int .i64) (.pair (.int .i64) (.pair (.int .i64) .str))))) (.list 49 (.pair .str (.pair (.int .i64) (.pair (.int .i64) (.pair (.int .i64) .str)))))))))))))))))] 62), some (.lst 49 (.pair .str (.pair (.int .i64) (.pair (.int .i64) (.pair (.int .i64) .str)))))]⟩, raw := (Int × Bool × Int × Bool × Bool × Bool × Bool × Int × Int × List (ByteArray × Int × Int) × List (ByteArray × Int × Int × Int × ByteArray) × List (ByteArray × Int × Int × Int × ByteArray) × List (ByteArray × Int × Int × Int × ByteArray)) × (List (ByteArray × Int × Int × Int × ByteArray)), ret := fun y => ((((), ()), ((), ()), ()), ((y.1, ()), y.2, ())), un := fun z => (z.2.1.1, z.2.2.1) }]
noncomputable def g35.m3 (k : Nat) (x : g35.n3.X) : Option (SumR g35.x3) := g35.l3 k x.1.2.2.1.1 x.2.1.1 x.2.2.1
noncomputable def g35.L3 : LSpec := { id := 3, n := g35.n3, exits := g35.x3, sem := g35.m3 9223372036854775808 }
theorem g35.e3 : ∀ k x, g35.m3 (k + 1) x = roundS Tryz.prog kap g35.G [] (loopAt Tryz.f35 3) 46 0 g35.n3 g35.x3 (g35.m3 k) x := fun k x => by kernel_rfl
theorem g35.k3 : LOk Tryz.prog 0 46 g35.L3 (loopAt Tryz.f35 3) := LOk.of (κ := kap) (l := g35.L3) g35.G_ok follows (L := []) (lam_by (fn := Tryz.f35) (by kernel_rfl) lamAll_nil) g35.m3 (unAll_cons (fun _ => rfl) (unAll_cons (fun _ => rfl) unAll_nil)) (fun _ => rfl) g35.e3 9223372036854775808 rfl
noncomputable def g35.f (b0 : Int × Bool × Int × Bool × Bool × Bool × Bool × Int × Int × List (ByteArray × Int × Int) × List (ByteArray × Int × Int × Int × ByteArray) × List (ByteArray × Int × Int × Int × ByteArray) × List (ByteArray × Int × Int × Int × ByteArray)) : Option Bool :=
  if nz (([] : List (ByteArray × Int × Int × Int × ByteArray)).length) + nz b0.2.2.2.2.2.2.2.2.2.2.1.length ≤ room Tryz.prog 49 then if nz ((([] : List (ByteArray × Int × Int × Int × ByteArray)) ++ b0.2.2.2.2.2.2.2.2.2.2.1).length) + nz b0.2.2.2.2.2.2.2.2.2.2.2.1.length ≤ room Tryz.prog 49 then if nz (((([] : List (ByteArray × Int × Int × Int × ByteArray)) ++ b0.2.2.2.2.2.2.2.2.2.2.1) ++ b0.2.2.2.2.2.2.2.2.2.2.2.1).length) + nz b0.2.2.2.2.2.2.2.2.2.2.2.2.length ≤ room Tryz.prog 49 then (g35.l3 9223372036854775808 0 b0 (((([] : List (ByteArray × Int × Int × Int × ByteArray)) ++ b0.2.2.2.2.2.2.2.2.2.2.1) ++ b0.2.2.2.2.2.2.2.2.2.2.2.1) ++ b0.2.2.2.2.2.2.2.2.2.2.2.2)).bind fun (y3 : Bool ⊕ ((Int × Bool × Int × Bool × Bool × Bool × Bool × Int × Int × List (ByteArray × Int × Int) × List (ByteArray × Int × Int × Int × ByteArray) × List (ByteArray × Int × Int × Int × ByteArray) × List (ByteArray × Int × Int × Int × ByteArray)) × (List (ByteArray × Int × Int × Int × ByteArray)))) =>
  (match y3 with
  | .inl y4 => some y4
  | .inr y5 => if (nz y5.2.length) ≤ 30 then some (decide ((nz y5.1.2.2.2.2.2.2.2.2.2.1.length) ≤ 10))
   else some false)
  else none
  else none
  else none
noncomputable def g35.sp : FSpec := { f := 35, ins := [(true, [.k (.pair (.int .i64) (.pair .bool (.pair (.int .i64) (.pair .bool (.pair .bool (.pair .bool (.pair .bool (.pair (.int .i64) (.pair (.int .i64) (.pair (.list 69 (.pair .str (.pair (.int .i64) (.int .i64)))) (.pair (.list 49 (.pair .str (.pair (.int .i64) (.pair (.int .i64) (.pair (.int .i64) .str))))) (.pair (.list 49 (.pair .str (.pair (.int .i64) (.pair (.int .i64) (.pair (.int .i64) .str))))) (.list 49 (.pair .str (.pair (.int .i64) (.pair (.int .i64) (.pair (.int .i64) .str)))))))))))))))))])], inE := [], outs := [(false, [.k .bool])], outE := [], raw := Bool, sem := fun x => g35.f x.1.1.1, ret := fun y => (((y, ()), ()), ()) }
theorem g35.ok : FOk Tryz.prog g35.sp := fn_ok (κ := kap) g35.G_ok follows (L := [g35.L3]) (fn := Tryz.f35) (c := bodyOf Tryz.f35) rfl (by decide) rfl (lam_by (fn := Tryz.f35) (by kernel_rfl) (lamAll_cons g35.k3 lamAll_nil)) (un := fun z => z.1.1.1) (fun _ => rfl) (by decide) (fun x => by kernel_rfl)
/-! ### beadroll/beadrollref11.Same -/
/-! ### beadroll/beadrollref12.Same -/
end
end Go.Proofs.YtpbakampjiihfaaGreat.E
