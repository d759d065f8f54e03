/- PRINTED BY eng.py: functions, run by the engine. -/
import Derived.Test.YtpbakampjiihfaaEB
import Derived.Test.YtpbakampjiihfaaProg
set_option maxRecDepth 100000
set_option maxHeartbeats 0
namespace Go.Proofs.Ytpbakampjiihfaa.E
set_option linter.unusedVariables false
set_option linter.unusedSimpArgs false
open Go Go.Eng Go.RowKit Go.Lib Go.Proofs
noncomputable section
set_option warn.classDefReducibility false
attribute [local instance 2000] dLe dLt dEq dEqS dAnd
def kap (t : TypeId) : Option K := match t with | 3 => some (.int .i64) | 5 => some (.int .u8) | 9 => some .str | 24 => some (.list 63 (.pair .str (.pair (.int .i64) (.pair (.int .i64) (.pair (.int .i64) .str))))) | 57 => some (.int .u64) | 63 => some (.pair .str (.pair (.int .i64) (.pair (.int .i64) (.pair (.int .i64) .str)))) | 71 => some (.pair .str (.pair (.int .i64) (.int .i64))) | _ => none
theorem follows : Try.prog.follows .mixedOrders = true := rfl
/-! ### beadroll/octets.width -/
noncomputable def g87.G : List FSpec := []
theorem g87.G_ok : ∀ sp ∈ g87.G, FOk Try.prog sp := allOk_nil
noncomputable def g87.f (b0 : Int) : Option Bool :=
  if b0 = 1 then some true
  else if b0 = 2 then some true
  else if b0 = 4 then some true
  else some (decide (b0 = 8))
noncomputable def g87.sp : FSpec := { f := 87, ins := [(false, [.k (.int .i64)])], inE := [], outs := [(false, [.k .bool])], outE := [], raw := Bool, sem := fun x => g87.f x.1.1.1, ret := fun y => (((y, ()), ()), ()) }
theorem g87.ok : FOk Try.prog g87.sp := fn_ok (κ := kap) g87.G_ok follows (L := []) (fn := Try.f87) (c := bodyOf Try.f87) rfl (by decide) rfl (lam_by (fn := Try.f87) (by kernel_rfl) lamAll_nil) (un := fun z => z.1.1.1) (fun _ => rfl) (by decide) (fun x => by kernel_rfl)
/-! ### beadroll/octets.whole -/
noncomputable def g54.G : List FSpec := [g87.sp]
theorem g54.G_ok : ∀ sp ∈ g54.G, FOk Try.prog sp := allOk_cons g87.ok allOk_nil
noncomputable def g54.s2 (again : List Int → Int → Int → Option (Bool ⊕ Unit)) (a0 : List Int) (a1 : Int) (a2 : Int) : Option (Bool ⊕ Unit) :=
  if a2 < a1 then (if 0 ≤ a2 then if a2 < nz a0.length then (match a0[a2.toNat]? with
   | some x1 => (g87.f x1).bind fun (y2 : Bool) =>
    if (!y2) = true then some (.inl false)
    else again a0 a1 (wrap64 (a2 + 1))
   | none => none)
   else none
   else none)
  else some (.inr ())
noncomputable def g54.l2 : Nat → List Int → Int → Int → Option (Bool ⊕ Unit)
  | 0, _, _, _ => none
  | k + 1, a0, a1, a2 => g54.s2 (g54.l2 k) a0 a1 a2
def g54.n2 : Norm := ⟨[5, 6, 7], [(false, [.k (.list 3 (.int .i64))]), (false, [.k (.int .i64)]), (false, [.k (.int .i64)])], []⟩
def g54.x2 : List ExitS := [{ e := .ret, n := ⟨[2], [(false, [.k .bool])], []⟩, raw := Bool, ret := fun y => (((y, ()), ()), ()), un := fun z => z.1.1.1 },
  { e := .exit 0, n := ⟨[], [], []⟩, raw := Unit, ret := fun y => ((), ()), un := fun z => () }]
noncomputable def g54.m2 (k : Nat) (x : g54.n2.X) : Option (SumR g54.x2) := g54.l2 k x.1.1.1 x.1.2.1.1 x.1.2.2.1.1
noncomputable def g54.L2 : LSpec := { id := 2, n := g54.n2, exits := g54.x2, sem := g54.m2 9223372036854775808 }
theorem g54.e2 : ∀ k x, g54.m2 (k + 1) x = roundS Try.prog kap g54.G [] (loopAt Try.f54 2) 15 0 g54.n2 g54.x2 (g54.m2 k) x := fun k x => by kernel_rfl
theorem g54.k2 : LOk Try.prog 0 15 g54.L2 (loopAt Try.f54 2) := LOk.of (κ := kap) (l := g54.L2) g54.G_ok follows (L := []) (lam_by (fn := Try.f54) (by kernel_rfl) lamAll_nil) g54.m2 (unAll_cons (fun _ => rfl) (unAll_cons (fun _ => rfl) unAll_nil)) (fun _ => rfl) g54.e2 9223372036854775808 rfl
noncomputable def g54.f (b0 : List Int) : Option Bool :=
  (g54.l2 9223372036854775808 b0 (nz b0.length) 0).bind fun (y3 : Bool ⊕ Unit) =>
  (match y3 with
  | .inl y4 => some y4
  | .inr y5 => some true)
noncomputable def g54.sp : FSpec := { f := 54, ins := [(false, [.k (.list 3 (.int .i64))])], inE := [], outs := [(false, [.k .bool])], outE := [], raw := Bool, sem := fun x => g54.f x.1.1.1, ret := fun y => (((y, ()), ()), ()) }
theorem g54.ok : FOk Try.prog g54.sp := fn_ok (κ := kap) g54.G_ok follows (L := [g54.L2]) (fn := Try.f54) (c := bodyOf Try.f54) rfl (by decide) rfl (lam_by (fn := Try.f54) (by kernel_rfl) (lamAll_cons g54.k2 lamAll_nil)) (un := fun z => z.1.1.1) (fun _ => rfl) (by decide) (fun x => by kernel_rfl)
/-! ### beadroll/octets.piece -/
noncomputable def g58.G : List FSpec := []
theorem g58.G_ok : ∀ sp ∈ g58.G, FOk Try.prog sp := allOk_nil
noncomputable def g58.f (b0 : Int) : Option Bool :=
  if b0 = 1 then some true
  else if b0 = 2 then some true
  else some (decide (b0 = 4))
noncomputable def g58.sp : FSpec := { f := 58, ins := [(false, [.k (.int .i64)])], inE := [], outs := [(false, [.k .bool])], outE := [], raw := Bool, sem := fun x => g58.f x.1.1.1, ret := fun y => (((y, ()), ()), ()) }
theorem g58.ok : FOk Try.prog g58.sp := fn_ok (κ := kap) g58.G_ok follows (L := []) (fn := Try.f58) (c := bodyOf Try.f58) rfl (by decide) rfl (lam_by (fn := Try.f58) (by kernel_rfl) lamAll_nil) (un := fun z => z.1.1.1) (fun _ => rfl) (by decide) (fun x => by kernel_rfl)
end
end Go.Proofs.Ytpbakampjiihfaa.E
