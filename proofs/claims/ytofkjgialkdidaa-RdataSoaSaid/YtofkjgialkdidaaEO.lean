/- PRINTED BY eng.py: functions, run by the engine. -/
import Derived.Test.YtofkjgialkdidaaEB
import Derived.Test.YtofkjgialkdidaaProg
set_option maxRecDepth 100000
set_option maxHeartbeats 0
namespace Go.Proofs.Ytofkjgialkdidaa.E
set_option linter.unusedVariables false
set_option linter.unusedSimpArgs false
open Go Go.Eng Go.RowKit Go.Lib Go.Proofs
noncomputable section
set_option warn.classDefReducibility false
attribute [local instance 2000] dLe dLt dEq dEqS dAnd
def kap (t : TypeId) : Option K := match t with | 3 => some (.int .i64) | 5 => some (.int .u8) | 9 => some .str | 33 => some (.pair (.int .i64) .str) | 42 => some (.int .u32) | 54 => some (.pair .str (.pair (.int .i64) (.pair (.int .i64) (.pair (.int .i64) .str)))) | 64 => some (.list 54 (.pair .str (.pair (.int .i64) (.pair (.int .i64) (.pair (.int .i64) .str))))) | 111 => some (.int .u64) | 124 => some (.pair .str (.pair (.int .i64) (.int .i64))) | 154 => some (.pair .str (.int .i64)) | _ => none
theorem follows : Try.prog.follows .mixedOrders = true := rfl
/-! ### beadroll/octets.width -/
noncomputable def g150.G : List FSpec := []
theorem g150.G_ok : ∀ sp ∈ g150.G, FOk Try.prog sp := allOk_nil
noncomputable def g150.f (b0 : Int) : Option Bool :=
  if b0 = 1 then some true
  else if b0 = 2 then some true
  else if b0 = 4 then some true
  else some (decide (b0 = 8))
noncomputable def g150.sp : FSpec := { f := 150, ins := [(false, [.k (.int .i64)])], inE := [], outs := [(false, [.k .bool])], outE := [], raw := Bool, sem := fun x => g150.f x.1.1.1, ret := fun y => (((y, ()), ()), ()) }
theorem g150.ok : FOk Try.prog g150.sp := fn_ok (κ := kap) g150.G_ok follows (L := []) (fn := Try.f150) (c := bodyOf Try.f150) rfl (by decide) rfl (lam_by (fn := Try.f150) (by kernel_rfl) lamAll_nil) (un := fun z => z.1.1.1) (fun _ => rfl) (by decide) (fun x => by kernel_rfl)
/-! ### beadroll/octets.whole -/
noncomputable def g125.G : List FSpec := [g150.sp]
theorem g125.G_ok : ∀ sp ∈ g125.G, FOk Try.prog sp := allOk_cons g150.ok allOk_nil
noncomputable def g125.s2 (again : List Int → Int → Int → Option (Bool ⊕ Unit)) (a0 : List Int) (a1 : Int) (a2 : Int) : Option (Bool ⊕ Unit) :=
  if a2 < a1 then (if 0 ≤ a2 then if a2 < nz a0.length then (match a0[a2.toNat]? with
   | some x1 => (g150.f x1).bind fun (y2 : Bool) =>
    if (!y2) = true then some (.inl false)
    else again a0 a1 (wrap64 (a2 + 1))
   | none => none)
   else none
   else none)
  else some (.inr ())
noncomputable def g125.l2 : Nat → List Int → Int → Int → Option (Bool ⊕ Unit)
  | 0, _, _, _ => none
  | k + 1, a0, a1, a2 => g125.s2 (g125.l2 k) a0 a1 a2
def g125.n2 : Norm := ⟨[5, 6, 7], [(false, [.k (.list 3 (.int .i64))]), (false, [.k (.int .i64)]), (false, [.k (.int .i64)])], []⟩
def g125.x2 : List ExitS := [{ e := .ret, n := ⟨[2], [(false, [.k .bool])], []⟩, raw := Bool, ret := fun y => (((y, ()), ()), ()), un := fun z => z.1.1.1 },
  { e := .exit 0, n := ⟨[], [], []⟩, raw := Unit, ret := fun y => ((), ()), un := fun z => () }]
noncomputable def g125.m2 (k : Nat) (x : g125.n2.X) : Option (SumR g125.x2) := g125.l2 k x.1.1.1 x.1.2.1.1 x.1.2.2.1.1
noncomputable def g125.L2 : LSpec := { id := 2, n := g125.n2, exits := g125.x2, sem := g125.m2 9223372036854775808 }
theorem g125.e2 : ∀ k x, g125.m2 (k + 1) x = roundS Try.prog kap g125.G [] (loopAt Try.f125 2) 15 0 g125.n2 g125.x2 (g125.m2 k) x := fun k x => by kernel_rfl
theorem g125.k2 : LOk Try.prog 0 15 g125.L2 (loopAt Try.f125 2) := LOk.of (κ := kap) (l := g125.L2) g125.G_ok follows (L := []) (lam_by (fn := Try.f125) (by kernel_rfl) lamAll_nil) g125.m2 (unAll_cons (fun _ => rfl) (unAll_cons (fun _ => rfl) unAll_nil)) (fun _ => rfl) g125.e2 9223372036854775808 rfl
noncomputable def g125.f (b0 : List Int) : Option Bool :=
  (g125.l2 9223372036854775808 b0 (nz b0.length) 0).bind fun (y3 : Bool ⊕ Unit) =>
  (match y3 with
  | .inl y4 => some y4
  | .inr y5 => some true)
noncomputable def g125.sp : FSpec := { f := 125, ins := [(false, [.k (.list 3 (.int .i64))])], inE := [], outs := [(false, [.k .bool])], outE := [], raw := Bool, sem := fun x => g125.f x.1.1.1, ret := fun y => (((y, ()), ()), ()) }
theorem g125.ok : FOk Try.prog g125.sp := fn_ok (κ := kap) g125.G_ok follows (L := [g125.L2]) (fn := Try.f125) (c := bodyOf Try.f125) rfl (by decide) rfl (lam_by (fn := Try.f125) (by kernel_rfl) (lamAll_cons g125.k2 lamAll_nil)) (un := fun z => z.1.1.1) (fun _ => rfl) (by decide) (fun x => by kernel_rfl)
/-! ### beadroll/octets.piece -/
noncomputable def g156.G : List FSpec := []
theorem g156.G_ok : ∀ sp ∈ g156.G, FOk Try.prog sp := allOk_nil
noncomputable def g156.f (b0 : Int) : Option Bool :=
  if b0 = 1 then some true
  else if b0 = 2 then some true
  else some (decide (b0 = 4))
noncomputable def g156.sp : FSpec := { f := 156, ins := [(false, [.k (.int .i64)])], inE := [], outs := [(false, [.k .bool])], outE := [], raw := Bool, sem := fun x => g156.f x.1.1.1, ret := fun y => (((y, ()), ()), ()) }
theorem g156.ok : FOk Try.prog g156.sp := fn_ok (κ := kap) g156.G_ok follows (L := []) (fn := Try.f156) (c := bodyOf Try.f156) rfl (by decide) rfl (lam_by (fn := Try.f156) (by kernel_rfl) lamAll_nil) (un := fun z => z.1.1.1) (fun _ => rfl) (by decide) (fun x => by kernel_rfl)
end
end Go.Proofs.Ytofkjgialkdidaa.E
