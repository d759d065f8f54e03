/- PRINTED BY eng.py: functions, run by the engine. -/
import Derived.Test.YtofkjgialkdidaaEngR
import Derived.Test.YtofkjgialkdidaaEAw12
import Derived.Test.YtofkjgialkdidaaGvClQ
import Derived.Test.YtofkjgialkdidaaProg
set_option maxRecDepth 100000
set_option maxHeartbeats 0
namespace Go.Proofs.Ytofkjgialkdidaa.E
set_option linter.unusedVariables false
set_option linter.unusedSimpArgs false
open Go Go.Eng Go.RowKit Go.Lib Go.Proofs
noncomputable section
set_option warn.classDefReducibility false
attribute [local instance 2000] dLe dLt dEq dEqS dAnd
/-! ### beadroll/beadrollref12.Few -/
noncomputable def g42.G : List FSpec := []
theorem g42.G_ok : ∀ sp ∈ g42.G, FOk Try.prog sp := allOk_nil
noncomputable def g42.s3 (again : Int → Int × Bool × Int × Bool × Bool × Bool × Bool × Int × Int × List (ByteArray × Int × Int) × List (ByteArray × Int × Int × Int × ByteArray) × List (ByteArray × Int × Int × Int × ByteArray) × List (ByteArray × Int × Int × Int × ByteArray) → List (ByteArray × Int × Int × Int × ByteArray) → Option (Bool ⊕ ((Int × Bool × Int × Bool × Bool × Bool × Bool × Int × Int × List (ByteArray × Int × Int) × List (ByteArray × Int × Int × Int × ByteArray) × List (ByteArray × Int × Int × Int × ByteArray) × List (ByteArray × Int × Int × Int × ByteArray)) × (List (ByteArray × Int × Int × Int × ByteArray))))) (a0 : Int) (a1 : Int × Bool × Int × Bool × Bool × Bool × Bool × Int × Int × List (ByteArray × Int × Int) × List (ByteArray × Int × Int × Int × ByteArray) × List (ByteArray × Int × Int × Int × ByteArray) × List (ByteArray × Int × Int × Int × ByteArray)) (a2 : List (ByteArray × Int × Int × Int × ByteArray)) : Option (Bool ⊕ ((Int × Bool × Int × Bool × Bool × Bool × Bool × Int × Int × List (ByteArray × Int × Int) × List (ByteArray × Int × Int × Int × ByteArray) × List (ByteArray × Int × Int × Int × ByteArray) × List (ByteArray × Int × Int × Int × ByteArray)) × (List (ByteArray × Int × Int × Int × ByteArray)))) :=
  if a0 < (a2.length : Int) then (if 0 ≤ a0 then if a0 < a2.length then (match a2[a0.toNat]? with
   | some x1 => if (600 : Int) < (x1.1.size : Int) then some (.inl false)
    else if 0 ≤ a0 then if a0 < a2.length then (match a2[a0.toNat]? with
    | some x2 => if (2000 : Int) < (x2.2.2.2.2.size : Int) then some (.inl false)
     else again (wrap64 (a0 + 1)) a1 a2
    | none => none)
    else none
    else none
   | none => none)
   else none
   else none)
  else some (.inr (a1, a2))
noncomputable def g42.l3 : Nat → Int → Int × Bool × Int × Bool × Bool × Bool × Bool × Int × Int × List (ByteArray × Int × Int) × List (ByteArray × Int × Int × Int × ByteArray) × List (ByteArray × Int × Int × Int × ByteArray) × List (ByteArray × Int × Int × Int × ByteArray) → List (ByteArray × Int × Int × Int × ByteArray) → Option (Bool ⊕ ((Int × Bool × Int × Bool × Bool × Bool × Bool × Int × Int × List (ByteArray × Int × Int) × List (ByteArray × Int × Int × Int × ByteArray) × List (ByteArray × Int × Int × Int × ByteArray) × List (ByteArray × Int × Int × Int × ByteArray)) × (List (ByteArray × Int × Int × Int × ByteArray))))
  | 0, _, _, _ => none
  | k + 1, a0, a1, a2 => g42.s3 (g42.l3 k) a0 a1 a2
def g42.n3 : Norm := ⟨[1, 3, 4], [(false, [.ptr 0 0]), (false, [.sl 1]), (false, [.k (.int .i64)])], [some (.cells [.k (.pair (.int .i64) (.pair .bool (.pair (.int .i64) (.pair .bool (.pair .bool (.pair .bool (.pair .bool (.pair (.int .i64) (.pair (.int .i64) (.pair (.list 124 (.pair .str (.pair (.int .i64) (.int .i64)))) (.pair (.list 54 (.pair .str (.pair (.int .i64) (.pair (.int .i64) (.pair (.int .i64) .str))))) (.pair (.list 54 (.pair .str (.pair (.int .i64) (.pair (.int .i64) (.pair (.int .i64) .str))))) (.list 54 (.pair .str (.pair (.int .i64) (.pair (.int .i64) (.pair (.int .i64) .str)))))))))))))))))] 66), some (.lst 54 (.pair .str (.pair (.int .i64) (.pair (.int .i64) (.pair (.int .i64) .str)))))]⟩
def g42.x3 : List ExitS := [{ e := .ret, n := ⟨[2], [(false, [.k .bool])], []⟩, raw := Bool, ret := fun y => (((y, ()), ()), ()), un := fun z => z.1.1.1 },
  { e := .exit 0, n := ⟨[1, 3], [(false, [.ptr 0 0]), (false, [.sl 1])], [some (.cells [.k (.pair (.int .i64) (.pair .bool (.pair (.int .i64) (.pair .bool (.pair .bool (.pair .bool (.pair .bool (.pair (.int .i64) (.pair (.int .i64) (.pair (.list 124 (.pair .str (.pair (.int .i64) (.int .i64)))) (.pair (.list 54 (.pair .str (.pair (.int .i64) (.pair (.int .i64) (.pair (.int .i64) .str))))) (.pair (.list 54 (.pair .str (.pair (.int .i64) (.pair (.int .i64) (.pair (.int .i64) .str))))) (.list 54 (.pair .str (.pair (.int .i64) (.pair (.int .i64) (.pair (.int .i64) .str)))))))))))))))))] 66), some (.lst 54 (.pair .str (.pair (.int .i64) (.pair (.int .i64) (.pair (.int .i64) .str)))))]⟩, raw := (Int × Bool × Int × Bool × Bool × Bool × Bool × Int × Int × List (ByteArray × Int × Int) × List (ByteArray × Int × Int × Int × ByteArray) × List (ByteArray × Int × Int × Int × ByteArray) × List (ByteArray × Int × Int × Int × ByteArray)) × (List (ByteArray × Int × Int × Int × ByteArray)), ret := fun y => ((((), ()), ((), ()), ()), ((y.1, ()), y.2, ())), un := fun z => (z.2.1.1, z.2.2.1) }]
noncomputable def g42.m3 (k : Nat) (x : g42.n3.X) : Option (SumR g42.x3) := g42.l3 k x.1.2.2.1.1 x.2.1.1 x.2.2.1
noncomputable def g42.L3 : LSpec := { id := 3, n := g42.n3, exits := g42.x3, sem := g42.m3 9223372036854775808 }
theorem g42.e3 : ∀ k x, g42.m3 (k + 1) x = roundS Try.prog kap g42.G [] (loopAt Try.f42 3) 46 0 g42.n3 g42.x3 (g42.m3 k) x := fun k x => by kernel_rfl
theorem g42.k3 : LOk Try.prog 0 46 g42.L3 (loopAt Try.f42 3) := LOk.of (κ := kap) (l := g42.L3) g42.G_ok follows (L := []) (lam_by (fn := Try.f42) (by kernel_rfl) lamAll_nil) g42.m3 (unAll_cons (fun _ => rfl) (unAll_cons (fun _ => rfl) unAll_nil)) (fun _ => rfl) g42.e3 9223372036854775808 rfl
noncomputable def g42.f (b0 : Int × Bool × Int × Bool × Bool × Bool × Bool × Int × Int × List (ByteArray × Int × Int) × List (ByteArray × Int × Int × Int × ByteArray) × List (ByteArray × Int × Int × Int × ByteArray) × List (ByteArray × Int × Int × Int × ByteArray)) : Option Bool :=
  if (0 : Int) + b0.2.2.2.2.2.2.2.2.2.2.1.length ≤ room Try.prog 54 then if ((([] : List (ByteArray × Int × Int × Int × ByteArray)) ++ b0.2.2.2.2.2.2.2.2.2.2.1).length : Int) + b0.2.2.2.2.2.2.2.2.2.2.2.1.length ≤ room Try.prog 54 then if (((([] : List (ByteArray × Int × Int × Int × ByteArray)) ++ b0.2.2.2.2.2.2.2.2.2.2.1) ++ b0.2.2.2.2.2.2.2.2.2.2.2.1).length : Int) + b0.2.2.2.2.2.2.2.2.2.2.2.2.length ≤ room Try.prog 54 then (g42.l3 9223372036854775808 0 b0 (((([] : List (ByteArray × Int × Int × Int × ByteArray)) ++ b0.2.2.2.2.2.2.2.2.2.2.1) ++ b0.2.2.2.2.2.2.2.2.2.2.2.1) ++ b0.2.2.2.2.2.2.2.2.2.2.2.2)).bind fun (y3 : Bool ⊕ ((Int × Bool × Int × Bool × Bool × Bool × Bool × Int × Int × List (ByteArray × Int × Int) × List (ByteArray × Int × Int × Int × ByteArray) × List (ByteArray × Int × Int × Int × ByteArray) × List (ByteArray × Int × Int × Int × ByteArray)) × (List (ByteArray × Int × Int × Int × ByteArray)))) =>
  (match y3 with
  | .inl y4 => some y4
  | .inr y5 => if (y5.2.length : Int) ≤ 30 then some (decide ((y5.1.2.2.2.2.2.2.2.2.2.1.length : Int) ≤ 10))
   else some false)
  else none
  else none
  else none
noncomputable def g42.sp : FSpec := { f := 42, ins := [(true, [.k (.pair (.int .i64) (.pair .bool (.pair (.int .i64) (.pair .bool (.pair .bool (.pair .bool (.pair .bool (.pair (.int .i64) (.pair (.int .i64) (.pair (.list 124 (.pair .str (.pair (.int .i64) (.int .i64)))) (.pair (.list 54 (.pair .str (.pair (.int .i64) (.pair (.int .i64) (.pair (.int .i64) .str))))) (.pair (.list 54 (.pair .str (.pair (.int .i64) (.pair (.int .i64) (.pair (.int .i64) .str))))) (.list 54 (.pair .str (.pair (.int .i64) (.pair (.int .i64) (.pair (.int .i64) .str)))))))))))))))))])], inE := [], outs := [(false, [.k .bool])], outE := [], raw := Bool, sem := fun x => g42.f x.1.1.1, ret := fun y => (((y, ()), ()), ()) }
theorem g42.ok : FOk Try.prog g42.sp := fn_ok (κ := kap) g42.G_ok follows (L := [g42.L3]) (fn := Try.f42) (c := bodyOf Try.f42) rfl (by decide) rfl (lam_by (fn := Try.f42) (by kernel_rfl) (lamAll_cons g42.k3 lamAll_nil)) (un := fun z => z.1.1.1) (fun _ => rfl) (by decide) (fun x => by kernel_rfl)
/-! ### beadroll/message.Reply -/
noncomputable def g48.G : List FSpec := [g106.sp]
theorem g48.G_ok : ∀ sp ∈ g48.G, FOk Try.prog sp := allOk_cons g106.ok allOk_nil
noncomputable def g48.f (b0 : Int × Bool × Int × Bool × Bool × Bool × Bool × Int × Int × List (ByteArray × Int × Int) × List (ByteArray × Int × Int × Int × ByteArray) × List (ByteArray × Int × Int × Int × ByteArray) × List (ByteArray × Int × Int × Int × ByteArray)) (b1 : Int) : Option (Int × Bool × Int × Bool × Bool × Bool × Bool × Int × Int × List (ByteArray × Int × Int) × List (ByteArray × Int × Int × Int × ByteArray) × List (ByteArray × Int × Int × Int × ByteArray) × List (ByteArray × Int × Int × Int × ByteArray)) :=
  (g106.f b0.2.2.2.2.2.2.2.2.2.1).bind fun (y1 : (List (ByteArray × Int × Int))) =>
  some (b0.1, true, b0.2.2.1, false, false, b0.2.2.2.2.2.1, false, 0, b1, y1, ([] : List (ByteArray × Int × Int × Int × ByteArray)), ([] : List (ByteArray × Int × Int × Int × ByteArray)), ([] : List (ByteArray × Int × Int × Int × ByteArray)))
noncomputable def g48.sp : FSpec := { f := 48, ins := [(true, [.k (.pair (.int .i64) (.pair .bool (.pair (.int .i64) (.pair .bool (.pair .bool (.pair .bool (.pair .bool (.pair (.int .i64) (.pair (.int .i64) (.pair (.list 124 (.pair .str (.pair (.int .i64) (.int .i64)))) (.pair (.list 54 (.pair .str (.pair (.int .i64) (.pair (.int .i64) (.pair (.int .i64) .str))))) (.pair (.list 54 (.pair .str (.pair (.int .i64) (.pair (.int .i64) (.pair (.int .i64) .str))))) (.list 54 (.pair .str (.pair (.int .i64) (.pair (.int .i64) (.pair (.int .i64) .str)))))))))))))))))]), (false, [.k (.int .i64)])], inE := [], outs := [(true, [.k (.pair (.int .i64) (.pair .bool (.pair (.int .i64) (.pair .bool (.pair .bool (.pair .bool (.pair .bool (.pair (.int .i64) (.pair (.int .i64) (.pair (.list 124 (.pair .str (.pair (.int .i64) (.int .i64)))) (.pair (.list 54 (.pair .str (.pair (.int .i64) (.pair (.int .i64) (.pair (.int .i64) .str))))) (.pair (.list 54 (.pair .str (.pair (.int .i64) (.pair (.int .i64) (.pair (.int .i64) .str))))) (.list 54 (.pair .str (.pair (.int .i64) (.pair (.int .i64) (.pair (.int .i64) .str)))))))))))))))))])], outE := [], raw := (Int × Bool × Int × Bool × Bool × Bool × Bool × Int × Int × List (ByteArray × Int × Int) × List (ByteArray × Int × Int × Int × ByteArray) × List (ByteArray × Int × Int × Int × ByteArray) × List (ByteArray × Int × Int × Int × ByteArray)), sem := fun x => g48.f x.1.1.1 x.1.2.1.1, ret := fun y => (((y, ()), ()), ()) }
theorem g48.ok : FOk Try.prog g48.sp := fn_ok (κ := kap) g48.G_ok follows (L := []) (fn := Try.f48) (c := bodyOf Try.f48) rfl (by decide) rfl (lam_by (fn := Try.f48) (by kernel_rfl) lamAll_nil) (un := fun z => z.1.1.1) (fun _ => rfl) (by decide) (fun x => by kernel_rfl)
/-! ### beadroll/beadrollref11.Same -/
noncomputable def g105.G : List FSpec := []
theorem g105.G_ok : ∀ sp ∈ g105.G, FOk Try.prog sp := allOk_nil
noncomputable def g105.s4 (again : List (ByteArray × Int × Int × Int × ByteArray) → List (ByteArray × Int × Int × Int × ByteArray) → Int → Option (Bool ⊕ Unit)) (a0 : List (ByteArray × Int × Int × Int × ByteArray)) (a1 : List (ByteArray × Int × Int × Int × ByteArray)) (a2 : Int) : Option (Bool ⊕ Unit) :=
  if a2 < (a0.length : Int) then (if 0 ≤ a2 then if a2 < a0.length then (match a0[a2.toNat]? with
   | some x1 => if 0 ≤ a2 then if a2 < a1.length then (match a1[a2.toNat]? with
    | some x2 => if x1.1 = x2.1 ∧ x1.2.1 = x2.2.1 ∧ x1.2.2.1 = x2.2.2.1 ∧ x1.2.2.2.1 = x2.2.2.2.1 ∧ x1.2.2.2.2 = x2.2.2.2.2 ∧ True then again a0 a1 (wrap64 (a2 + 1))
     else some (.inl false)
    | none => none)
    else none
    else none
   | none => none)
   else none
   else none)
  else some (.inr ())
noncomputable def g105.l4 : Nat → List (ByteArray × Int × Int × Int × ByteArray) → List (ByteArray × Int × Int × Int × ByteArray) → Int → Option (Bool ⊕ Unit)
  | 0, _, _, _ => none
  | k + 1, a0, a1, a2 => g105.s4 (g105.l4 k) a0 a1 a2
def g105.n4 : Norm := ⟨[0, 1, 5], [(false, [.k (.list 54 (.pair .str (.pair (.int .i64) (.pair (.int .i64) (.pair (.int .i64) .str)))))]), (false, [.k (.list 54 (.pair .str (.pair (.int .i64) (.pair (.int .i64) (.pair (.int .i64) .str)))))]), (false, [.k (.int .i64)])], []⟩
def g105.x4 : List ExitS := [{ e := .ret, n := ⟨[4], [(false, [.k .bool])], []⟩, raw := Bool, ret := fun y => (((y, ()), ()), ()), un := fun z => z.1.1.1 },
  { e := .exit 0, n := ⟨[], [], []⟩, raw := Unit, ret := fun y => ((), ()), un := fun z => () }]
noncomputable def g105.m4 (k : Nat) (x : g105.n4.X) : Option (SumR g105.x4) := g105.l4 k x.1.1.1 x.1.2.1.1 x.1.2.2.1.1
noncomputable def g105.L4 : LSpec := { id := 4, n := g105.n4, exits := g105.x4, sem := g105.m4 9223372036854775808 }
theorem g105.e4 : ∀ k x, g105.m4 (k + 1) x = roundS Try.prog kap g105.G [] (loopAt Try.f105 4) 26 0 g105.n4 g105.x4 (g105.m4 k) x := fun k x => by kernel_rfl
theorem g105.k4 : LOk Try.prog 0 26 g105.L4 (loopAt Try.f105 4) := LOk.of (κ := kap) (l := g105.L4) g105.G_ok follows (L := []) (lam_by (fn := Try.f105) (by kernel_rfl) lamAll_nil) g105.m4 (unAll_cons (fun _ => rfl) (unAll_cons (fun _ => rfl) unAll_nil)) (fun _ => rfl) g105.e4 9223372036854775808 rfl
noncomputable def g105.f (b0 : List (ByteArray × Int × Int × Int × ByteArray)) (b1 : List (ByteArray × Int × Int × Int × ByteArray)) : Option Bool :=
  if (b0.length : Int) = (b1.length : Int) then ((g105.l4 9223372036854775808 b0 b1 0).bind fun (y3 : Bool ⊕ Unit) =>
   (match y3 with
   | .inl y4 => some y4
   | .inr y5 => some true))
  else some false
noncomputable def g105.sp : FSpec := { f := 105, ins := [(false, [.k (.list 54 (.pair .str (.pair (.int .i64) (.pair (.int .i64) (.pair (.int .i64) .str)))))]), (false, [.k (.list 54 (.pair .str (.pair (.int .i64) (.pair (.int .i64) (.pair (.int .i64) .str)))))])], inE := [], outs := [(false, [.k .bool])], outE := [], raw := Bool, sem := fun x => g105.f x.1.1.1 x.1.2.1.1, ret := fun y => (((y, ()), ()), ()) }
theorem g105.ok : FOk Try.prog g105.sp := fn_ok (κ := kap) g105.G_ok follows (L := [g105.L4]) (fn := Try.f105) (c := bodyOf Try.f105) rfl (by decide) rfl (lam_by (fn := Try.f105) (by kernel_rfl) (lamAll_cons g105.k4 lamAll_nil)) (un := fun z => z.1.1.1) (fun _ => rfl) (by decide) (fun x => by kernel_rfl)
/-! ### beadroll/beadrollref12.Same -/
noncomputable def g47.G : List FSpec := [g105.sp]
theorem g47.G_ok : ∀ sp ∈ g47.G, FOk Try.prog sp := allOk_cons g105.ok allOk_nil
noncomputable def g47.s4 (again : Int → Int × Bool × Int × Bool × Bool × Bool × Bool × Int × Int × List (ByteArray × Int × Int) × List (ByteArray × Int × Int × Int × ByteArray) × List (ByteArray × Int × Int × Int × ByteArray) × List (ByteArray × Int × Int × Int × ByteArray) → Int × Bool × Int × Bool × Bool × Bool × Bool × Int × Int × List (ByteArray × Int × Int) × List (ByteArray × Int × Int × Int × ByteArray) × List (ByteArray × Int × Int × Int × ByteArray) × List (ByteArray × Int × Int × Int × ByteArray) → Option (Bool ⊕ ((Int × Bool × Int × Bool × Bool × Bool × Bool × Int × Int × List (ByteArray × Int × Int) × List (ByteArray × Int × Int × Int × ByteArray) × List (ByteArray × Int × Int × Int × ByteArray) × List (ByteArray × Int × Int × Int × ByteArray)) × (Int × Bool × Int × Bool × Bool × Bool × Bool × Int × Int × List (ByteArray × Int × Int) × List (ByteArray × Int × Int × Int × ByteArray) × List (ByteArray × Int × Int × Int × ByteArray) × List (ByteArray × Int × Int × Int × ByteArray))))) (a0 : Int) (a1 : Int × Bool × Int × Bool × Bool × Bool × Bool × Int × Int × List (ByteArray × Int × Int) × List (ByteArray × Int × Int × Int × ByteArray) × List (ByteArray × Int × Int × Int × ByteArray) × List (ByteArray × Int × Int × Int × ByteArray)) (a2 : Int × Bool × Int × Bool × Bool × Bool × Bool × Int × Int × List (ByteArray × Int × Int) × List (ByteArray × Int × Int × Int × ByteArray) × List (ByteArray × Int × Int × Int × ByteArray) × List (ByteArray × Int × Int × Int × ByteArray)) : Option (Bool ⊕ ((Int × Bool × Int × Bool × Bool × Bool × Bool × Int × Int × List (ByteArray × Int × Int) × List (ByteArray × Int × Int × Int × ByteArray) × List (ByteArray × Int × Int × Int × ByteArray) × List (ByteArray × Int × Int × Int × ByteArray)) × (Int × Bool × Int × Bool × Bool × Bool × Bool × Int × Int × List (ByteArray × Int × Int) × List (ByteArray × Int × Int × Int × ByteArray) × List (ByteArray × Int × Int × Int × ByteArray) × List (ByteArray × Int × Int × Int × ByteArray)))) :=
  if a0 < (a1.2.2.2.2.2.2.2.2.2.1.length : Int) then (if 0 ≤ a0 then if a0 < a1.2.2.2.2.2.2.2.2.2.1.length then (match a1.2.2.2.2.2.2.2.2.2.1[a0.toNat]? with
   | some x1 => if 0 ≤ a0 then if a0 < a2.2.2.2.2.2.2.2.2.2.1.length then (match a2.2.2.2.2.2.2.2.2.2.1[a0.toNat]? with
    | some x2 => if x1.1 = x2.1 ∧ x1.2.1 = x2.2.1 ∧ x1.2.2 = x2.2.2 ∧ True then again (wrap64 (a0 + 1)) a1 a2
     else some (.inl false)
    | none => none)
    else none
    else none
   | none => none)
   else none
   else none)
  else some (.inr (a1, a2))
noncomputable def g47.l4 : Nat → Int → Int × Bool × Int × Bool × Bool × Bool × Bool × Int × Int × List (ByteArray × Int × Int) × List (ByteArray × Int × Int × Int × ByteArray) × List (ByteArray × Int × Int × Int × ByteArray) × List (ByteArray × Int × Int × Int × ByteArray) → Int × Bool × Int × Bool × Bool × Bool × Bool × Int × Int × List (ByteArray × Int × Int) × List (ByteArray × Int × Int × Int × ByteArray) × List (ByteArray × Int × Int × Int × ByteArray) × List (ByteArray × Int × Int × Int × ByteArray) → Option (Bool ⊕ ((Int × Bool × Int × Bool × Bool × Bool × Bool × Int × Int × List (ByteArray × Int × Int) × List (ByteArray × Int × Int × Int × ByteArray) × List (ByteArray × Int × Int × Int × ByteArray) × List (ByteArray × Int × Int × Int × ByteArray)) × (Int × Bool × Int × Bool × Bool × Bool × Bool × Int × Int × List (ByteArray × Int × Int) × List (ByteArray × Int × Int × Int × ByteArray) × List (ByteArray × Int × Int × Int × ByteArray) × List (ByteArray × Int × Int × Int × ByteArray))))
  | 0, _, _, _ => none
  | k + 1, a0, a1, a2 => g47.s4 (g47.l4 k) a0 a1 a2
def g47.n4 : Norm := ⟨[2, 3, 5], [(false, [.ptr 0 0]), (false, [.ptr 1 0]), (false, [.k (.int .i64)])], [some (.cells [.k (.pair (.int .i64) (.pair .bool (.pair (.int .i64) (.pair .bool (.pair .bool (.pair .bool (.pair .bool (.pair (.int .i64) (.pair (.int .i64) (.pair (.list 124 (.pair .str (.pair (.int .i64) (.int .i64)))) (.pair (.list 54 (.pair .str (.pair (.int .i64) (.pair (.int .i64) (.pair (.int .i64) .str))))) (.pair (.list 54 (.pair .str (.pair (.int .i64) (.pair (.int .i64) (.pair (.int .i64) .str))))) (.list 54 (.pair .str (.pair (.int .i64) (.pair (.int .i64) (.pair (.int .i64) .str)))))))))))))))))] 66), some (.cells [.k (.pair (.int .i64) (.pair .bool (.pair (.int .i64) (.pair .bool (.pair .bool (.pair .bool (.pair .bool (.pair (.int .i64) (.pair (.int .i64) (.pair (.list 124 (.pair .str (.pair (.int .i64) (.int .i64)))) (.pair (.list 54 (.pair .str (.pair (.int .i64) (.pair (.int .i64) (.pair (.int .i64) .str))))) (.pair (.list 54 (.pair .str (.pair (.int .i64) (.pair (.int .i64) (.pair (.int .i64) .str))))) (.list 54 (.pair .str (.pair (.int .i64) (.pair (.int .i64) (.pair (.int .i64) .str)))))))))))))))))] 66)]⟩
def g47.x4 : List ExitS := [{ e := .ret, n := ⟨[4], [(false, [.k .bool])], []⟩, raw := Bool, ret := fun y => (((y, ()), ()), ()), un := fun z => z.1.1.1 },
  { e := .exit 0, n := ⟨[2, 3], [(false, [.ptr 0 0]), (false, [.ptr 1 0])], [some (.cells [.k (.pair (.int .i64) (.pair .bool (.pair (.int .i64) (.pair .bool (.pair .bool (.pair .bool (.pair .bool (.pair (.int .i64) (.pair (.int .i64) (.pair (.list 124 (.pair .str (.pair (.int .i64) (.int .i64)))) (.pair (.list 54 (.pair .str (.pair (.int .i64) (.pair (.int .i64) (.pair (.int .i64) .str))))) (.pair (.list 54 (.pair .str (.pair (.int .i64) (.pair (.int .i64) (.pair (.int .i64) .str))))) (.list 54 (.pair .str (.pair (.int .i64) (.pair (.int .i64) (.pair (.int .i64) .str)))))))))))))))))] 66), some (.cells [.k (.pair (.int .i64) (.pair .bool (.pair (.int .i64) (.pair .bool (.pair .bool (.pair .bool (.pair .bool (.pair (.int .i64) (.pair (.int .i64) (.pair (.list 124 (.pair .str (.pair (.int .i64) (.int .i64)))) (.pair (.list 54 (.pair .str (.pair (.int .i64) (.pair (.int .i64) (.pair (.int .i64) .str))))) (.pair (.list 54 (.pair .str (.pair (.int .i64) (.pair (.int .i64) (.pair (.int .i64) .str))))) (.list 54 (.pair .str (.pair (.int .i64) (.pair (.int .i64) (.pair (.int .i64) .str)))))))))))))))))] 66)]⟩, raw := (Int × Bool × Int × Bool × Bool × Bool × Bool × Int × Int × List (ByteArray × Int × Int) × List (ByteArray × Int × Int × Int × ByteArray) × List (ByteArray × Int × Int × Int × ByteArray) × List (ByteArray × Int × Int × Int × ByteArray)) × (Int × Bool × Int × Bool × Bool × Bool × Bool × Int × Int × List (ByteArray × Int × Int) × List (ByteArray × Int × Int × Int × ByteArray) × List (ByteArray × Int × Int × Int × ByteArray) × List (ByteArray × Int × Int × Int × ByteArray)), ret := fun y => ((((), ()), ((), ()), ()), ((y.1, ()), (y.2, ()), ())), un := fun z => (z.2.1.1, z.2.2.1.1) }]
noncomputable def g47.m4 (k : Nat) (x : g47.n4.X) : Option (SumR g47.x4) := g47.l4 k x.1.2.2.1.1 x.2.1.1 x.2.2.1.1
noncomputable def g47.L4 : LSpec := { id := 4, n := g47.n4, exits := g47.x4, sem := g47.m4 9223372036854775808 }
theorem g47.e4 : ∀ k x, g47.m4 (k + 1) x = roundS Try.prog kap g47.G [] (loopAt Try.f47 4) 113 0 g47.n4 g47.x4 (g47.m4 k) x := fun k x => by kernel_rfl
theorem g47.k4 : LOk Try.prog 0 113 g47.L4 (loopAt Try.f47 4) := LOk.of (κ := kap) (l := g47.L4) g47.G_ok follows (L := []) (lam_by (fn := Try.f47) (by kernel_rfl) lamAll_nil) g47.m4 (unAll_cons (fun _ => rfl) (unAll_cons (fun _ => rfl) unAll_nil)) (fun _ => rfl) g47.e4 9223372036854775808 rfl
noncomputable def g47.f (b0 : Int × Bool × Int × Bool × Bool × Bool × Bool × Int × Int × List (ByteArray × Int × Int) × List (ByteArray × Int × Int × Int × ByteArray) × List (ByteArray × Int × Int × Int × ByteArray) × List (ByteArray × Int × Int × Int × ByteArray)) (b1 : Int × Bool × Int × Bool × Bool × Bool × Bool × Int × Int × List (ByteArray × Int × Int) × List (ByteArray × Int × Int × Int × ByteArray) × List (ByteArray × Int × Int × Int × ByteArray) × List (ByteArray × Int × Int × Int × ByteArray)) : Option Bool :=
  if b0.1 = b1.1 then (if b0.2.1 = b1.2.1 then (if b0.2.2.1 = b1.2.2.1 then (if b0.2.2.2.1 = b1.2.2.2.1 then (if b0.2.2.2.2.1 = b1.2.2.2.2.1 then (if b0.2.2.2.2.2.1 = b1.2.2.2.2.2.1 then (if b0.2.2.2.2.2.2.1 = b1.2.2.2.2.2.2.1 then (if b0.2.2.2.2.2.2.2.1 = b1.2.2.2.2.2.2.2.1 then (if b0.2.2.2.2.2.2.2.2.1 = b1.2.2.2.2.2.2.2.2.1 then (if (b0.2.2.2.2.2.2.2.2.2.1.length : Int) = (b1.2.2.2.2.2.2.2.2.2.1.length : Int) then ((g47.l4 9223372036854775808 0 b0 b1).bind fun (y3 : Bool ⊕ ((Int × Bool × Int × Bool × Bool × Bool × Bool × Int × Int × List (ByteArray × Int × Int) × List (ByteArray × Int × Int × Int × ByteArray) × List (ByteArray × Int × Int × Int × ByteArray) × List (ByteArray × Int × Int × Int × ByteArray)) × (Int × Bool × Int × Bool × Bool × Bool × Bool × Int × Int × List (ByteArray × Int × Int) × List (ByteArray × Int × Int × Int × ByteArray) × List (ByteArray × Int × Int × Int × ByteArray) × List (ByteArray × Int × Int × Int × ByteArray)))) =>
            (match y3 with
            | .inl y4 => some y4
            | .inr y5 => (g105.f y5.1.2.2.2.2.2.2.2.2.2.2.1 y5.2.2.2.2.2.2.2.2.2.2.2.1).bind fun (y6 : Bool) =>
             if y6 = true then ((g105.f y5.1.2.2.2.2.2.2.2.2.2.2.2.1 y5.2.2.2.2.2.2.2.2.2.2.2.2.1).bind fun (y7 : Bool) =>
              if y7 = true then ((g105.f y5.1.2.2.2.2.2.2.2.2.2.2.2.2 y5.2.2.2.2.2.2.2.2.2.2.2.2.2).bind fun (y8 : Bool) =>
               some y8)
              else some false)
             else some false))
           else some false)
          else some false)
         else some false)
        else some false)
       else some false)
      else some false)
     else some false)
    else some false)
   else some false)
  else some false
noncomputable def g47.sp : FSpec := { f := 47, ins := [(true, [.k (.pair (.int .i64) (.pair .bool (.pair (.int .i64) (.pair .bool (.pair .bool (.pair .bool (.pair .bool (.pair (.int .i64) (.pair (.int .i64) (.pair (.list 124 (.pair .str (.pair (.int .i64) (.int .i64)))) (.pair (.list 54 (.pair .str (.pair (.int .i64) (.pair (.int .i64) (.pair (.int .i64) .str))))) (.pair (.list 54 (.pair .str (.pair (.int .i64) (.pair (.int .i64) (.pair (.int .i64) .str))))) (.list 54 (.pair .str (.pair (.int .i64) (.pair (.int .i64) (.pair (.int .i64) .str)))))))))))))))))]), (true, [.k (.pair (.int .i64) (.pair .bool (.pair (.int .i64) (.pair .bool (.pair .bool (.pair .bool (.pair .bool (.pair (.int .i64) (.pair (.int .i64) (.pair (.list 124 (.pair .str (.pair (.int .i64) (.int .i64)))) (.pair (.list 54 (.pair .str (.pair (.int .i64) (.pair (.int .i64) (.pair (.int .i64) .str))))) (.pair (.list 54 (.pair .str (.pair (.int .i64) (.pair (.int .i64) (.pair (.int .i64) .str))))) (.list 54 (.pair .str (.pair (.int .i64) (.pair (.int .i64) (.pair (.int .i64) .str)))))))))))))))))])], inE := [], outs := [(false, [.k .bool])], outE := [], raw := Bool, sem := fun x => g47.f x.1.1.1 x.1.2.1.1, ret := fun y => (((y, ()), ()), ()) }
theorem g47.ok : FOk Try.prog g47.sp := fn_ok (κ := kap) g47.G_ok follows (L := [g47.L4]) (fn := Try.f47) (c := bodyOf Try.f47) rfl (by decide) rfl (lam_by (fn := Try.f47) (by kernel_rfl) (lamAll_cons g47.k4 lamAll_nil)) (un := fun z => z.1.1.1) (fun _ => rfl) (by decide) (fun x => by kernel_rfl)
/-! ### beadroll/beadrolllaw12.MessageReplies -/
noncomputable def g11.G : List FSpec := [g41.sp, g42.sp, g48.sp, g47.sp]
theorem g11.G_ok : ∀ sp ∈ g11.G, FOk Try.prog sp := allOk_cons g41.ok (allOk_cons g42.ok (allOk_cons g48.ok (allOk_cons g47.ok allOk_nil)))
noncomputable def g11.f (b0 : Int × Bool × Int × Bool × Bool × Bool × Bool × Int × Int × List (ByteArray × Int × Int) × List (ByteArray × Int × Int × Int × ByteArray) × List (ByteArray × Int × Int × Int × ByteArray) × List (ByteArray × Int × Int × Int × ByteArray)) (b1 : Int) : Option Bool :=
  (g41.f).bind fun (y1 : Bool) =>
  if (!y1) = true then ((g41.f).bind fun (y2 : Bool) =>
   some y2)
  else (g42.f b0).bind fun (y3 : Bool) =>
  if (!y3) = true then ((g41.f).bind fun (y4 : Bool) =>
   some y4)
  else (g48.f b0 b1).bind fun (y5 : (Int × Bool × Int × Bool × Bool × Bool × Bool × Int × Int × List (ByteArray × Int × Int) × List (ByteArray × Int × Int × Int × ByteArray) × List (ByteArray × Int × Int × Int × ByteArray) × List (ByteArray × Int × Int × Int × ByteArray))) =>
  (g47.f y5 (b0.1, true, b0.2.2.1, false, false, b0.2.2.2.2.2.1, false, 0, b1, b0.2.2.2.2.2.2.2.2.2.1, ([] : List (ByteArray × Int × Int × Int × ByteArray)), ([] : List (ByteArray × Int × Int × Int × ByteArray)), ([] : List (ByteArray × Int × Int × Int × ByteArray)))).bind fun (y6 : Bool) =>
  some y6
noncomputable def g11.sp : FSpec := { f := 11, ins := [(true, [.k (.pair (.int .i64) (.pair .bool (.pair (.int .i64) (.pair .bool (.pair .bool (.pair .bool (.pair .bool (.pair (.int .i64) (.pair (.int .i64) (.pair (.list 124 (.pair .str (.pair (.int .i64) (.int .i64)))) (.pair (.list 54 (.pair .str (.pair (.int .i64) (.pair (.int .i64) (.pair (.int .i64) .str))))) (.pair (.list 54 (.pair .str (.pair (.int .i64) (.pair (.int .i64) (.pair (.int .i64) .str))))) (.list 54 (.pair .str (.pair (.int .i64) (.pair (.int .i64) (.pair (.int .i64) .str)))))))))))))))))]), (false, [.k (.int .i64)])], inE := [], outs := [(false, [.k .bool])], outE := [], raw := Bool, sem := fun x => g11.f x.1.1.1 x.1.2.1.1, ret := fun y => (((y, ()), ()), ()) }
theorem g11.ok : FOk Try.prog g11.sp := fn_ok (κ := kap) g11.G_ok follows (L := []) (fn := Try.f11) (c := bodyOf Try.f11) rfl (by decide) rfl (lam_by (fn := Try.f11) (by kernel_rfl) lamAll_nil) (un := fun z => z.1.1.1) (fun _ => rfl) (by decide) (fun x => by kernel_rfl)
end
end Go.Proofs.Ytofkjgialkdidaa.E
