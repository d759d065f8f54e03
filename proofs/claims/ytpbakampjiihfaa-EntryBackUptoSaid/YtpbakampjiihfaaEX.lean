/- PRINTED BY eng.py: functions, run by the engine. -/
import Derived.Test.YtpbakampjiihfaaEB
import Derived.Test.YtpbakampjiihfaaGvB2
import Derived.Test.YtpbakampjiihfaaGX
import Derived.Test.YtpbakampjiihfaaEO
import Derived.Test.YtpbakampjiihfaaProg
set_option maxRecDepth 100000
set_option maxHeartbeats 0
namespace Go.Proofs.Ytpbakampjiihfaa.E
set_option linter.unusedVariables false
set_option linter.unusedSimpArgs false
open Go Go.Eng Go.RowKit Go.Lib Go.Proofs
noncomputable section
set_option warn.classDefReducibility false
attribute [local instance 2000] dLe dLt dEq dEqS dAnd
/-! ### beadroll/pack.at -/
noncomputable def g90.G : List FSpec := [g102.sp, g24.sp]
theorem g90.G_ok : ∀ sp ∈ g90.G, FOk Try.prog sp := allOk_cons g102.ok (allOk_cons g24.ok allOk_nil)
noncomputable def g90.f (b0 : ByteArray) (b1 : Int) : Option ((ByteArray × Int × Int) × Bool) :=
  if (0 : Int) ≤ b1 then if b1 ≤ (nz b0.size) then (g102.f (b0.extract b1.toNat b0.size) 1).bind fun (y1 : ByteArray × ByteArray × Int) =>
  if y1.2.2 = 0 then (if (nz y1.1.size) ≤ 63 then (if (0 : Int) ≤ (wrap64 ((nz b0.size) - (nz y1.2.1.size))) then if (wrap64 ((nz b0.size) - (nz y1.2.1.size))) ≤ (nz b0.size) then if (0 : Int) ≤ b1 then if b1 ≤ (wrap64 ((nz b0.size) - (nz y1.2.1.size))) then some ((b0.extract b1.toNat ((wrap64 ((nz b0.size) - (nz y1.2.1.size))).toNat), (-1), wrap64 ((nz b0.size) - (nz y1.2.1.size))), true) else none
    else none
    else none
    else none)
   else if (0 : Int) ≤ b1 then if b1 ≤ (nz b0.size) then (g24.f (b0.extract b1.toNat b0.size) ([2] : List Int)).bind fun (y2 : List Int × ByteArray × Int) =>
   if y2.2.2 = 0 then (if (0 : Int) < nz y2.1.length then (match y2.1[0]? with
    | some x3 => if x3 < 49152 then some (((⟨#[]⟩ : ByteArray), 0, 0), false)
     else if (0 : Int) < nz y2.1.length then (match y2.1[0]? with
     | some x4 => some (((⟨#[]⟩ : ByteArray), wrap64 (IntKind.wrap .u64 (x4 - 49152)), wrap64 (b1 + 2)), true)
     | none => none)
     else none
    | none => none)
    else none)
   else some (((⟨#[]⟩ : ByteArray), 0, 0), false)
   else none
   else none)
  else if (0 : Int) ≤ b1 then if b1 ≤ (nz b0.size) then (g24.f (b0.extract b1.toNat b0.size) ([2] : List Int)).bind fun (y5 : List Int × ByteArray × Int) =>
  if y5.2.2 = 0 then (if (0 : Int) < nz y5.1.length then (match y5.1[0]? with
   | some x6 => if x6 < 49152 then some (((⟨#[]⟩ : ByteArray), 0, 0), false)
    else if (0 : Int) < nz y5.1.length then (match y5.1[0]? with
    | some x7 => some (((⟨#[]⟩ : ByteArray), wrap64 (IntKind.wrap .u64 (x7 - 49152)), wrap64 (b1 + 2)), true)
    | none => none)
    else none
   | none => none)
   else none)
  else some (((⟨#[]⟩ : ByteArray), 0, 0), false)
  else none
  else none
  else none
  else none
noncomputable def g90.sp : FSpec := { f := 90, ins := [(false, [.k .str]), (false, [.k (.int .i64)])], inE := [], outs := [(true, [.k (.pair .str (.pair (.int .i64) (.int .i64)))]), (false, [.k .bool])], outE := [], raw := (ByteArray × Int × Int) × Bool, sem := fun x => g90.f x.1.1.1 x.1.2.1.1, ret := fun y => (((y.1, ()), (y.2, ()), ()), ()) }
theorem g90.ok : FOk Try.prog g90.sp := fn_ok (κ := kap) g90.G_ok follows (L := []) (fn := Try.f90) (c := bodyOf Try.f90) rfl (by decide) rfl (lam_by (fn := Try.f90) (by kernel_rfl) lamAll_nil) (un := fun z => (z.1.1.1, z.1.2.1.1)) (fun _ => rfl) (by decide) (fun x => by kernel_rfl)
/-! ### beadroll/pack.Read -/
noncomputable def g61.G : List FSpec := [g90.sp, g79.sp]
theorem g61.G_ok : ∀ sp ∈ g61.G, FOk Try.prog sp := allOk_cons g90.ok (allOk_cons g79.ok allOk_nil)
noncomputable def g61.s4 (again : ByteArray → Int → ByteArray → Int → Int → Option ((ByteArray × Int × Int) ⊕ (Int × ByteArray × Int))) (a0 : ByteArray) (a1 : Int) (a2 : ByteArray) (a3 : Int) (a4 : Int) : Option ((ByteArray × Int × Int) ⊕ (Int × ByteArray × Int)) :=
  if (nz a2.size) ≤ 255 then ((g90.f a0 a1).bind fun (y1 : (ByteArray × Int × Int) × Bool) =>
   if (!y1.2) = true then some (.inl ((⟨#[]⟩ : ByteArray), 0, 2))
   else if a4 ≤ y1.1.2.1 then some (.inl ((⟨#[]⟩ : ByteArray), 0, 2))
   else if (0 : Int) ≤ y1.1.2.1 then (if a3 < 0 then again a0 y1.1.2.1 a2 y1.1.2.2 y1.1.2.1
    else again a0 y1.1.2.1 a2 a3 y1.1.2.1)
   else if (nz a2.size) + (nz y1.1.1.size) ≤ 9223372036854775807 then if y1.1.1 = (⟨#[0]⟩ : ByteArray) then some (.inr (y1.1.2.2, a2 ++ y1.1.1, a3))
   else again a0 y1.1.2.2 (a2 ++ y1.1.1) a3 a4
   else none)
  else some (.inr (a1, a2, a3))
noncomputable def g61.l4 : Nat → ByteArray → Int → ByteArray → Int → Int → Option ((ByteArray × Int × Int) ⊕ (Int × ByteArray × Int))
  | 0, _, _, _, _, _ => none
  | k + 1, a0, a1, a2, a3, a4 => g61.s4 (g61.l4 k) a0 a1 a2 a3 a4
def g61.n4 : Norm := ⟨[0, 1, 7, 8, 9], [(false, [.k .str]), (false, [.k (.int .i64)]), (false, [.k .str]), (false, [.k (.int .i64)]), (false, [.k (.int .i64)])], []⟩
def g61.x4 : List ExitS := [{ e := .ret, n := ⟨[4, 5, 6], [(false, [.k .str]), (false, [.k (.int .i64)]), (false, [.k (.int .i64)])], []⟩, raw := ByteArray × Int × Int, ret := fun y => (((y.1, ()), (y.2.1, ()), (y.2.2, ()), ()), ()), un := fun z => (z.1.1.1, z.1.2.1.1, z.1.2.2.1.1) },
  { e := .exit 0, n := ⟨[1, 7, 8], [(false, [.k (.int .i64)]), (false, [.k .str]), (false, [.k (.int .i64)])], []⟩, raw := Int × ByteArray × Int, ret := fun y => (((y.1, ()), (y.2.1, ()), (y.2.2, ()), ()), ()), un := fun z => (z.1.1.1, z.1.2.1.1, z.1.2.2.1.1) }]
noncomputable def g61.m4 (k : Nat) (x : g61.n4.X) : Option (SumR g61.x4) := g61.l4 k x.1.1.1 x.1.2.1.1 x.1.2.2.1.1 x.1.2.2.2.1.1 x.1.2.2.2.2.1.1
noncomputable def g61.L4 : LSpec := { id := 4, n := g61.n4, exits := g61.x4, sem := g61.m4 9223372036854775808 }
theorem g61.e4 : ∀ k x, g61.m4 (k + 1) x = roundS Try.prog kap g61.G [] (loopAt Try.f61 4) 68 0 g61.n4 g61.x4 (g61.m4 k) x := fun k x => by kernel_rfl
theorem g61.k4 : LOk Try.prog 0 68 g61.L4 (loopAt Try.f61 4) := LOk.of (κ := kap) (l := g61.L4) g61.G_ok follows (L := []) (lam_by (fn := Try.f61) (by kernel_rfl) lamAll_nil) g61.m4 (unAll_cons (fun _ => rfl) (unAll_cons (fun _ => rfl) unAll_nil)) (fun _ => rfl) g61.e4 9223372036854775808 rfl
noncomputable def g61.f (b0 : ByteArray) (b1 : Int) : Option (ByteArray × Int × Int) :=
  if b1 < 0 then some ((⟨#[]⟩ : ByteArray), 0, 1)
  else if (nz b0.size) < b1 then some ((⟨#[]⟩ : ByteArray), 0, 1)
  else (g61.l4 9223372036854775808 b0 b1 (⟨#[]⟩ : ByteArray) (-1) b1).bind fun (y2 : (ByteArray × Int × Int) ⊕ (Int × ByteArray × Int)) =>
  (match y2 with
  | .inl y3 => some y3
  | .inr y4 => (g79.f y4.2.1).bind fun (y5 : Bool) =>
   if (!y5) = true then some ((⟨#[]⟩ : ByteArray), 0, 2)
   else if y4.2.2 < 0 then some (y4.2.1, y4.1, 0)
   else some (y4.2.1, y4.2.2, 0))
noncomputable def g61.sp : FSpec := { f := 61, ins := [(false, [.k .str]), (false, [.k (.int .i64)])], inE := [], outs := [(false, [.k .str]), (false, [.k (.int .i64)]), (false, [.k (.int .i64)])], outE := [], raw := ByteArray × Int × Int, sem := fun x => g61.f x.1.1.1 x.1.2.1.1, ret := fun y => (((y.1, ()), (y.2.1, ()), (y.2.2, ()), ()), ()) }
theorem g61.ok : FOk Try.prog g61.sp := fn_ok (κ := kap) g61.G_ok follows (L := [g61.L4]) (fn := Try.f61) (c := bodyOf Try.f61) rfl (by decide) rfl (lam_by (fn := Try.f61) (by kernel_rfl) (lamAll_cons g61.k4 lamAll_nil)) (un := fun z => (z.1.1.1, z.1.2.1.1, z.1.2.2.1.1)) (fun _ => rfl) (by decide) (fun x => by kernel_rfl)
/-! ### beadroll/beadrollref07.Labels -/
noncomputable def g77.G : List FSpec := []
theorem g77.G_ok : ∀ sp ∈ g77.G, FOk Try.prog sp := allOk_nil
noncomputable def g77.s5 (again : ByteArray → Int → List ByteArray → Option ((List ByteArray × Bool) ⊕ (ByteArray × Int × List ByteArray))) (a0 : ByteArray) (a1 : Int) (a2 : List ByteArray) : Option ((List ByteArray × Bool) ⊕ (ByteArray × Int × List ByteArray)) :=
  if a1 < (nz a0.size) then (if 0 ≤ a1 then if a1 < nz a0.size then if (0 : Int) < (bt a0 a1) then (if 0 ≤ a1 then if a1 < nz a0.size then if (63 : Int) < (wrap64 (bt a0 a1)) then some (.inl (([] : List ByteArray), false))
    else if (nz a0.size) < (wrap64 ((wrap64 (a1 + 1)) + (wrap64 (bt a0 a1)))) then some (.inl (([] : List ByteArray), false))
    else if (0 : Int) ≤ (wrap64 ((wrap64 (a1 + 1)) + (wrap64 (bt a0 a1)))) then if (wrap64 ((wrap64 (a1 + 1)) + (wrap64 (bt a0 a1)))) ≤ (nz a0.size) then if (0 : Int) ≤ (wrap64 (a1 + 1)) then if (wrap64 (a1 + 1)) ≤ (wrap64 ((wrap64 (a1 + 1)) + (wrap64 (bt a0 a1)))) then if nz a2.length + nz (([a0.extract ((wrap64 (a1 + 1)).toNat) ((wrap64 ((wrap64 (a1 + 1)) + (wrap64 (bt a0 a1)))).toNat)] : List ByteArray).length) ≤ room Try.prog 9 then again a0 (wrap64 (a1 + (wrap64 ((1 : Int) + (wrap64 (bt a0 a1)))))) (a2 ++ ([a0.extract ((wrap64 (a1 + 1)).toNat) ((wrap64 ((wrap64 (a1 + 1)) + (wrap64 (bt a0 a1)))).toNat)] : List ByteArray)) else none
    else none
    else none
    else none
    else none
    else none
    else none)
   else some (.inr (a0, a1, a2))
   else none
   else none)
  else some (.inr (a0, a1, a2))
noncomputable def g77.l5 : Nat → ByteArray → Int → List ByteArray → Option ((List ByteArray × Bool) ⊕ (ByteArray × Int × List ByteArray))
  | 0, _, _, _ => none
  | k + 1, a0, a1, a2 => g77.s5 (g77.l5 k) a0 a1 a2
def g77.n5 : Norm := ⟨[0, 4, 5], [(false, [.k .str]), (false, [.sl 0]), (false, [.k (.int .i64)])], [some (.lst 9 .str)]⟩
def g77.x5 : List ExitS := [{ e := .ret, n := ⟨[2, 3], [(false, [.k (.list 9 .str)]), (false, [.k .bool])], []⟩, raw := List ByteArray × Bool, ret := fun y => (((y.1, ()), (y.2, ()), ()), ()), un := fun z => (z.1.1.1, z.1.2.1.1) },
  { e := .exit 0, n := ⟨[0, 4, 5], [(false, [.k .str]), (false, [.sl 0]), (false, [.k (.int .i64)])], [some (.lst 9 .str)]⟩, raw := ByteArray × Int × List ByteArray, ret := fun y => (((y.1, ()), ((), ()), (y.2.1, ()), ()), (y.2.2, ())), un := fun z => (z.1.1.1, z.1.2.2.1.1, z.2.1) }]
noncomputable def g77.m5 (k : Nat) (x : g77.n5.X) : Option (SumR g77.x5) := g77.l5 k x.1.1.1 x.1.2.2.1.1 x.2.1
noncomputable def g77.L5 : LSpec := { id := 5, n := g77.n5, exits := g77.x5, sem := g77.m5 9223372036854775808 }
theorem g77.e5 : ∀ k x, g77.m5 (k + 1) x = roundS Try.prog kap g77.G [] (loopAt Try.f77 5) 62 0 g77.n5 g77.x5 (g77.m5 k) x := fun k x => by kernel_rfl
theorem g77.k5 : LOk Try.prog 0 62 g77.L5 (loopAt Try.f77 5) := LOk.of (κ := kap) (l := g77.L5) g77.G_ok follows (L := []) (lam_by (fn := Try.f77) (by kernel_rfl) lamAll_nil) g77.m5 (unAll_cons (fun _ => rfl) (unAll_cons (fun _ => rfl) unAll_nil)) (fun _ => rfl) g77.e5 9223372036854775808 rfl
noncomputable def g77.f (b0 : ByteArray) : Option (List ByteArray × Bool) :=
  if (255 : Int) < (nz b0.size) then some (([] : List ByteArray), false)
  else (g77.l5 9223372036854775808 b0 0 ([] : List ByteArray)).bind fun (y1 : (List ByteArray × Bool) ⊕ (ByteArray × Int × List ByteArray)) =>
  (match y1 with
  | .inl y2 => some y2
  | .inr y3 => if y3.2.1 = (wrap64 ((nz y3.1.size) - 1)) then (if 0 ≤ y3.2.1 then if y3.2.1 < nz y3.1.size then some (y3.2.2, decide ((bt y3.1 y3.2.1) = 0)) else none
    else none)
   else some (y3.2.2, false))
noncomputable def g77.sp : FSpec := { f := 77, ins := [(false, [.k .str])], inE := [], outs := [(false, [.k (.list 9 .str)]), (false, [.k .bool])], outE := [], raw := List ByteArray × Bool, sem := fun x => g77.f x.1.1.1, ret := fun y => (((y.1, ()), (y.2, ()), ()), ()) }
theorem g77.ok : FOk Try.prog g77.sp := fn_ok (κ := kap) g77.G_ok follows (L := [g77.L5]) (fn := Try.f77) (c := bodyOf Try.f77) rfl (by decide) rfl (lam_by (fn := Try.f77) (by kernel_rfl) (lamAll_cons g77.k5 lamAll_nil)) (un := fun z => (z.1.1.1, z.1.2.1.1)) (fun _ => rfl) (by decide) (fun x => by kernel_rfl)
/-! ### beadroll/beadrollref07.Right -/
noncomputable def g34.G : List FSpec := [g77.sp]
theorem g34.G_ok : ∀ sp ∈ g34.G, FOk Try.prog sp := allOk_cons g77.ok allOk_nil
noncomputable def g34.f (b0 : ByteArray) : Option Bool :=
  (g77.f b0).bind fun (y1 : List ByteArray × Bool) =>
  some y1.2
noncomputable def g34.sp : FSpec := { f := 34, ins := [(false, [.k .str])], inE := [], outs := [(false, [.k .bool])], outE := [], raw := Bool, sem := fun x => g34.f x.1.1.1, ret := fun y => (((y, ()), ()), ()) }
theorem g34.ok : FOk Try.prog g34.sp := fn_ok (κ := kap) g34.G_ok follows (L := []) (fn := Try.f34) (c := bodyOf Try.f34) rfl (by decide) rfl (lam_by (fn := Try.f34) (by kernel_rfl) lamAll_nil) (un := fun z => z.1.1.1) (fun _ => rfl) (by decide) (fun x => by kernel_rfl)
/-! ### beadroll/beadrollref09.Read -/
noncomputable def g66.G : List FSpec := [g34.sp]
theorem g66.G_ok : ∀ sp ∈ g66.G, FOk Try.prog sp := allOk_cons g34.ok allOk_nil
noncomputable def g66.s6 (again : ByteArray → Int → ByteArray → Int → Int → Option ((ByteArray × Int × Int) ⊕ Unit)) (a0 : ByteArray) (a1 : Int) (a2 : ByteArray) (a3 : Int) (a4 : Int) : Option ((ByteArray × Int × Int) ⊕ Unit) :=
  if a1 < (nz a0.size) then (if (nz a2.size) < 300 then (if 0 ≤ a1 then if a1 < nz a0.size then if (wrap64 (bt a0 a1)) = 0 then (if (nz a2.size) + 1 ≤ 9223372036854775807 then if a3 < 0 then ((g34.f (a2 ++ (⟨#[0]⟩ : ByteArray))).bind fun (y1 : Bool) =>
      if (!y1) = true then some (.inl ((⟨#[]⟩ : ByteArray), 0, 2))
      else some (.inl (a2 ++ (⟨#[0]⟩ : ByteArray), wrap64 (a1 + 1), 0)))
     else (g34.f (a2 ++ (⟨#[0]⟩ : ByteArray))).bind fun (y2 : Bool) =>
     if (!y2) = true then some (.inl ((⟨#[]⟩ : ByteArray), 0, 2))
     else some (.inl (a2 ++ (⟨#[0]⟩ : ByteArray), a3, 0))
     else none)
    else if (192 : Int) ≤ (wrap64 (bt a0 a1)) then (if (nz a0.size) ≤ (wrap64 (a1 + 1)) then some (.inl ((⟨#[]⟩ : ByteArray), 0, 2))
     else if 0 ≤ (wrap64 (a1 + 1)) then if (wrap64 (a1 + 1)) < nz a0.size then if a4 ≤ (wrap64 ((wrap64 ((wrap64 ((wrap64 (bt a0 a1)) - 192)) * 256)) + (wrap64 (bt a0 (wrap64 (a1 + 1)))))) then some (.inl ((⟨#[]⟩ : ByteArray), 0, 2))
     else if a3 < 0 then again a0 (wrap64 ((wrap64 ((wrap64 ((wrap64 (bt a0 a1)) - 192)) * 256)) + (wrap64 (bt a0 (wrap64 (a1 + 1)))))) a2 (wrap64 (a1 + 2)) (wrap64 ((wrap64 ((wrap64 ((wrap64 (bt a0 a1)) - 192)) * 256)) + (wrap64 (bt a0 (wrap64 (a1 + 1))))))
     else again a0 (wrap64 ((wrap64 ((wrap64 ((wrap64 (bt a0 a1)) - 192)) * 256)) + (wrap64 (bt a0 (wrap64 (a1 + 1)))))) a2 a3 (wrap64 ((wrap64 ((wrap64 ((wrap64 (bt a0 a1)) - 192)) * 256)) + (wrap64 (bt a0 (wrap64 (a1 + 1))))))
     else none
     else none)
    else if (64 : Int) ≤ (wrap64 (bt a0 a1)) then some (.inl ((⟨#[]⟩ : ByteArray), 0, 2))
    else if (nz a0.size) < (wrap64 ((wrap64 (a1 + 1)) + (wrap64 (bt a0 a1)))) then some (.inl ((⟨#[]⟩ : ByteArray), 0, 2))
    else if (0 : Int) ≤ (wrap64 ((wrap64 (a1 + 1)) + (wrap64 (bt a0 a1)))) then if (wrap64 ((wrap64 (a1 + 1)) + (wrap64 (bt a0 a1)))) ≤ (nz a0.size) then if (0 : Int) ≤ a1 then if a1 ≤ (wrap64 ((wrap64 (a1 + 1)) + (wrap64 (bt a0 a1)))) then if (nz a2.size) + (nz ((a0.extract a1.toNat ((wrap64 ((wrap64 (a1 + 1)) + (wrap64 (bt a0 a1)))).toNat)).size)) ≤ 9223372036854775807 then again a0 (wrap64 (a1 + (wrap64 ((1 : Int) + (wrap64 (bt a0 a1)))))) (a2 ++ (a0.extract a1.toNat ((wrap64 ((wrap64 (a1 + 1)) + (wrap64 (bt a0 a1)))).toNat))) a3 a4 else none
    else none
    else none
    else none
    else none
    else none
    else none)
   else some (.inr ()))
  else some (.inr ())
noncomputable def g66.l6 : Nat → ByteArray → Int → ByteArray → Int → Int → Option ((ByteArray × Int × Int) ⊕ Unit)
  | 0, _, _, _, _, _ => none
  | k + 1, a0, a1, a2, a3, a4 => g66.s6 (g66.l6 k) a0 a1 a2 a3 a4
def g66.n6 : Norm := ⟨[0, 1, 7, 8, 9], [(false, [.k .str]), (false, [.k (.int .i64)]), (false, [.k .str]), (false, [.k (.int .i64)]), (false, [.k (.int .i64)])], []⟩
def g66.x6 : List ExitS := [{ e := .ret, n := ⟨[4, 5, 6], [(false, [.k .str]), (false, [.k (.int .i64)]), (false, [.k (.int .i64)])], []⟩, raw := ByteArray × Int × Int, ret := fun y => (((y.1, ()), (y.2.1, ()), (y.2.2, ()), ()), ()), un := fun z => (z.1.1.1, z.1.2.1.1, z.1.2.2.1.1) },
  { e := .exit 0, n := ⟨[], [], []⟩, raw := Unit, ret := fun y => ((), ()), un := fun z => () }]
noncomputable def g66.m6 (k : Nat) (x : g66.n6.X) : Option (SumR g66.x6) := g66.l6 k x.1.1.1 x.1.2.1.1 x.1.2.2.1.1 x.1.2.2.2.1.1 x.1.2.2.2.2.1.1
noncomputable def g66.L6 : LSpec := { id := 6, n := g66.n6, exits := g66.x6, sem := g66.m6 9223372036854775808 }
theorem g66.e6 : ∀ k x, g66.m6 (k + 1) x = roundS Try.prog kap g66.G [] (loopAt Try.f66 6) 96 0 g66.n6 g66.x6 (g66.m6 k) x := fun k x => by kernel_rfl
theorem g66.k6 : LOk Try.prog 0 96 g66.L6 (loopAt Try.f66 6) := LOk.of (κ := kap) (l := g66.L6) g66.G_ok follows (L := []) (lam_by (fn := Try.f66) (by kernel_rfl) lamAll_nil) g66.m6 (unAll_cons (fun _ => rfl) (unAll_cons (fun _ => rfl) unAll_nil)) (fun _ => rfl) g66.e6 9223372036854775808 rfl
noncomputable def g66.f (b0 : ByteArray) (b1 : Int) : Option (ByteArray × Int × Int) :=
  if b1 < 0 then some ((⟨#[]⟩ : ByteArray), 0, 1)
  else if (nz b0.size) < b1 then some ((⟨#[]⟩ : ByteArray), 0, 1)
  else (g66.l6 9223372036854775808 b0 b1 (⟨#[]⟩ : ByteArray) (-1) b1).bind fun (y3 : (ByteArray × Int × Int) ⊕ Unit) =>
  (match y3 with
  | .inl y4 => some y4
  | .inr y5 => some ((⟨#[]⟩ : ByteArray), 0, 2))
noncomputable def g66.sp : FSpec := { f := 66, ins := [(false, [.k .str]), (false, [.k (.int .i64)])], inE := [], outs := [(false, [.k .str]), (false, [.k (.int .i64)]), (false, [.k (.int .i64)])], outE := [], raw := ByteArray × Int × Int, sem := fun x => g66.f x.1.1.1 x.1.2.1.1, ret := fun y => (((y.1, ()), (y.2.1, ()), (y.2.2, ()), ()), ()) }
theorem g66.ok : FOk Try.prog g66.sp := fn_ok (κ := kap) g66.G_ok follows (L := [g66.L6]) (fn := Try.f66) (c := bodyOf Try.f66) rfl (by decide) rfl (lam_by (fn := Try.f66) (by kernel_rfl) (lamAll_cons g66.k6 lamAll_nil)) (un := fun z => (z.1.1.1, z.1.2.1.1, z.1.2.2.1.1)) (fun _ => rfl) (by decide) (fun x => by kernel_rfl)
/-! ### beadroll/beadrollref10.Parts -/
noncomputable def g105.G : List FSpec := []
theorem g105.G_ok : ∀ sp ∈ g105.G, FOk Try.prog sp := allOk_nil
noncomputable def g105.f (b0 : Int) : Option ByteArray :=
  if b0 = 1 then some (⟨#[52]⟩ : ByteArray)
  else if b0 = 28 then some (⟨#[104]⟩ : ByteArray)
  else if b0 = 2 then (if b0 = 2 then some (⟨#[110]⟩ : ByteArray)
   else if b0 = 15 then some (⟨#[50, 110]⟩ : ByteArray)
   else if b0 = 6 then some (⟨#[110, 110, 52, 52, 52, 52, 52]⟩ : ByteArray)
   else if b0 = 16 then some (⟨#[116]⟩ : ByteArray)
   else if b0 = 33 then some (⟨#[50, 50, 50, 117]⟩ : ByteArray)
   else some (⟨#[111]⟩ : ByteArray))
  else if b0 = 5 then (if b0 = 5 then some (⟨#[110]⟩ : ByteArray)
   else if b0 = 15 then some (⟨#[50, 110]⟩ : ByteArray)
   else if b0 = 6 then some (⟨#[110, 110, 52, 52, 52, 52, 52]⟩ : ByteArray)
   else if b0 = 16 then some (⟨#[116]⟩ : ByteArray)
   else if b0 = 33 then some (⟨#[50, 50, 50, 117]⟩ : ByteArray)
   else some (⟨#[111]⟩ : ByteArray))
  else if b0 = 12 then some (⟨#[110]⟩ : ByteArray)
  else if b0 = 15 then some (⟨#[50, 110]⟩ : ByteArray)
  else if b0 = 6 then some (⟨#[110, 110, 52, 52, 52, 52, 52]⟩ : ByteArray)
  else if b0 = 16 then some (⟨#[116]⟩ : ByteArray)
  else if b0 = 33 then some (⟨#[50, 50, 50, 117]⟩ : ByteArray)
  else some (⟨#[111]⟩ : ByteArray)
noncomputable def g105.sp : FSpec := { f := 105, ins := [(false, [.k (.int .i64)])], inE := [], outs := [(false, [.k .str])], outE := [], raw := ByteArray, sem := fun x => g105.f x.1.1.1, ret := fun y => (((y, ()), ()), ()) }
theorem g105.ok : FOk Try.prog g105.sp := fn_ok (κ := kap) g105.G_ok follows (L := []) (fn := Try.f105) (c := bodyOf Try.f105) rfl (by decide) rfl (lam_by (fn := Try.f105) (by kernel_rfl) lamAll_nil) (un := fun z => z.1.1.1) (fun _ => rfl) (by decide) (fun x => by kernel_rfl)
/-! ### beadroll/beadrollref01.Width -/
noncomputable def g64.G : List FSpec := []
theorem g64.G_ok : ∀ sp ∈ g64.G, FOk Try.prog sp := allOk_nil
noncomputable def g64.f (b0 : Int) : Option Bool :=
  if b0 = 1 then some true
  else if b0 = 2 then some true
  else if b0 = 4 then some true
  else some (decide (b0 = 8))
noncomputable def g64.sp : FSpec := { f := 64, ins := [(false, [.k (.int .i64)])], inE := [], outs := [(false, [.k .bool])], outE := [], raw := Bool, sem := fun x => g64.f x.1.1.1, ret := fun y => (((y, ()), ()), ()) }
theorem g64.ok : FOk Try.prog g64.sp := fn_ok (κ := kap) g64.G_ok follows (L := []) (fn := Try.f64) (c := bodyOf Try.f64) rfl (by decide) rfl (lam_by (fn := Try.f64) (by kernel_rfl) lamAll_nil) (un := fun z => z.1.1.1) (fun _ => rfl) (by decide) (fun x => by kernel_rfl)
/-! ### beadroll/beadrollref01.Number -/
noncomputable def g25.G : List FSpec := []
theorem g25.G_ok : ∀ sp ∈ g25.G, FOk Try.prog sp := allOk_nil
noncomputable def g25.s3 (again : ByteArray → Int → Int → Option Int) (a0 : ByteArray) (a1 : Int) (a2 : Int) : Option Int :=
  if a2 < (nz a0.size) then (if 0 ≤ a2 then if a2 < nz a0.size then again a0 (IntKind.wrap .u64 ((IntKind.wrap .u64 (a1 * 256)) + (IntKind.wrap .u64 (bt a0 a2)))) (wrap64 (a2 + 1)) else none
   else none)
  else some a1
noncomputable def g25.l3 : Nat → ByteArray → Int → Int → Option Int
  | 0, _, _, _ => none
  | k + 1, a0, a1, a2 => g25.s3 (g25.l3 k) a0 a1 a2
def g25.n3 : Norm := ⟨[0, 3, 4], [(false, [.k .str]), (false, [.k (.int .u64)]), (false, [.k (.int .i64)])], []⟩
def g25.x3 : List ExitS := [{ e := .exit 0, n := ⟨[3], [(false, [.k (.int .u64)])], []⟩, raw := Int, ret := fun y => (((y, ()), ()), ()), un := fun z => z.1.1.1 }]
noncomputable def g25.m3 (k : Nat) (x : g25.n3.X) : Option (SumR g25.x3) := g25.l3 k x.1.1.1 x.1.2.1.1 x.1.2.2.1.1
noncomputable def g25.L3 : LSpec := { id := 3, n := g25.n3, exits := g25.x3, sem := g25.m3 9223372036854775808 }
theorem g25.e3 : ∀ k x, g25.m3 (k + 1) x = roundS Try.prog kap g25.G [] (loopAt Try.f25 3) 19 0 g25.n3 g25.x3 (g25.m3 k) x := fun k x => by kernel_rfl
theorem g25.k3 : LOk Try.prog 0 19 g25.L3 (loopAt Try.f25 3) := LOk.of (κ := kap) (l := g25.L3) g25.G_ok follows (L := []) (lam_by (fn := Try.f25) (by kernel_rfl) lamAll_nil) g25.m3 (unAll_cons (fun _ => rfl) unAll_nil) (fun _ => rfl) g25.e3 9223372036854775808 rfl
noncomputable def g25.f (b0 : ByteArray) : Option Int :=
  (g25.l3 9223372036854775808 b0 0 0).bind fun (y1 : Int) =>
  some y1
noncomputable def g25.sp : FSpec := { f := 25, ins := [(false, [.k .str])], inE := [], outs := [(false, [.k (.int .u64)])], outE := [], raw := Int, sem := fun x => g25.f x.1.1.1, ret := fun y => (((y, ()), ()), ()) }
theorem g25.ok : FOk Try.prog g25.sp := fn_ok (κ := kap) g25.G_ok follows (L := [g25.L3]) (fn := Try.f25) (c := bodyOf Try.f25) rfl (by decide) rfl (lam_by (fn := Try.f25) (by kernel_rfl) (lamAll_cons g25.k3 lamAll_nil)) (un := fun z => z.1.1.1) (fun _ => rfl) (by decide) (fun x => by kernel_rfl)
/-! ### beadroll/beadrollref01.Cut -/
noncomputable def g65.G : List FSpec := [g64.sp, g25.sp]
theorem g65.G_ok : ∀ sp ∈ g65.G, FOk Try.prog sp := allOk_cons g64.ok (allOk_cons g25.ok allOk_nil)
noncomputable def g65.f (b0 : ByteArray) (b1 : Int) : Option (ByteArray × ByteArray × Int) :=
  (g64.f b1).bind fun (y1 : Bool) =>
  if (!y1) = true then some ((⟨#[]⟩ : ByteArray), (⟨#[]⟩ : ByteArray), 1)
  else if b1 = 8 then some ((⟨#[]⟩ : ByteArray), (⟨#[]⟩ : ByteArray), 1)
  else if (nz b0.size) < b1 then some ((⟨#[]⟩ : ByteArray), (⟨#[]⟩ : ByteArray), 2)
  else if (0 : Int) ≤ b1 then if b1 ≤ (nz b0.size) then (g25.f (b0.extract 0 b1.toNat)).bind fun (y2 : Int) =>
  if (IntKind.wrap .u64 (wrap64 ((nz b0.size) - b1))) < y2 then some ((⟨#[]⟩ : ByteArray), (⟨#[]⟩ : ByteArray), 2)
  else if (0 : Int) ≤ (wrap64 (b1 + (wrap64 y2))) then if (wrap64 (b1 + (wrap64 y2))) ≤ (nz b0.size) then if (0 : Int) ≤ b1 then if b1 ≤ (wrap64 (b1 + (wrap64 y2))) then if (0 : Int) ≤ (wrap64 (b1 + (wrap64 y2))) then if (wrap64 (b1 + (wrap64 y2))) ≤ (nz b0.size) then some (b0.extract b1.toNat ((wrap64 (b1 + (wrap64 y2))).toNat), b0.extract ((wrap64 (b1 + (wrap64 y2))).toNat) b0.size, 0) else none
  else none
  else none
  else none
  else none
  else none
  else none
  else none
noncomputable def g65.sp : FSpec := { f := 65, ins := [(false, [.k .str]), (false, [.k (.int .i64)])], inE := [], outs := [(false, [.k .str]), (false, [.k .str]), (false, [.k (.int .i64)])], outE := [], raw := ByteArray × ByteArray × Int, sem := fun x => g65.f x.1.1.1 x.1.2.1.1, ret := fun y => (((y.1, ()), (y.2.1, ()), (y.2.2, ()), ()), ()) }
theorem g65.ok : FOk Try.prog g65.sp := fn_ok (κ := kap) g65.G_ok follows (L := []) (fn := Try.f65) (c := bodyOf Try.f65) rfl (by decide) rfl (lam_by (fn := Try.f65) (by kernel_rfl) lamAll_nil) (un := fun z => (z.1.1.1, z.1.2.1.1, z.1.2.2.1.1)) (fun _ => rfl) (by decide) (fun x => by kernel_rfl)
/-! ### beadroll/beadrollref01.Pieces -/
noncomputable def g28.G : List FSpec := [g64.sp, g65.sp]
theorem g28.G_ok : ∀ sp ∈ g28.G, FOk Try.prog sp := allOk_cons g64.ok (allOk_cons g65.ok allOk_nil)
noncomputable def g28.s4 (again : ByteArray → Int → List ByteArray → Option ((List ByteArray × Int) ⊕ List ByteArray)) (a0 : ByteArray) (a1 : Int) (a2 : List ByteArray) : Option ((List ByteArray × Int) ⊕ List ByteArray) :=
  if (0 : Int) < (nz a0.size) then ((g65.f a0 a1).bind fun (y2 : ByteArray × ByteArray × Int) =>
   if y2.2.2 = 0 then (if nz a2.length + nz (([y2.1] : List ByteArray).length) ≤ room Try.prog 9 then again y2.2.1 a1 (a2 ++ ([y2.1] : List ByteArray)) else none)
   else some (.inl (([] : List ByteArray), y2.2.2)))
  else some (.inr a2)
noncomputable def g28.l4 : Nat → ByteArray → Int → List ByteArray → Option ((List ByteArray × Int) ⊕ List ByteArray)
  | 0, _, _, _ => none
  | k + 1, a0, a1, a2 => g28.s4 (g28.l4 k) a0 a1 a2
def g28.n4 : Norm := ⟨[0, 1, 6], [(false, [.k .str]), (false, [.k (.int .i64)]), (false, [.sl 0])], [some (.lst 9 .str)]⟩
def g28.x4 : List ExitS := [{ e := .ret, n := ⟨[4, 5], [(false, [.k (.list 9 .str)]), (false, [.k (.int .i64)])], []⟩, raw := List ByteArray × Int, ret := fun y => (((y.1, ()), (y.2, ()), ()), ()), un := fun z => (z.1.1.1, z.1.2.1.1) },
  { e := .exit 0, n := ⟨[6], [(false, [.sl 0])], [some (.lst 9 .str)]⟩, raw := List ByteArray, ret := fun y => ((((), ()), ()), (y, ())), un := fun z => z.2.1 }]
noncomputable def g28.m4 (k : Nat) (x : g28.n4.X) : Option (SumR g28.x4) := g28.l4 k x.1.1.1 x.1.2.1.1 x.2.1
noncomputable def g28.L4 : LSpec := { id := 4, n := g28.n4, exits := g28.x4, sem := g28.m4 9223372036854775808 }
theorem g28.e4 : ∀ k x, g28.m4 (k + 1) x = roundS Try.prog kap g28.G [] (loopAt Try.f28 4) 36 0 g28.n4 g28.x4 (g28.m4 k) x := fun k x => by kernel_rfl
theorem g28.k4 : LOk Try.prog 0 36 g28.L4 (loopAt Try.f28 4) := LOk.of (κ := kap) (l := g28.L4) g28.G_ok follows (L := []) (lam_by (fn := Try.f28) (by kernel_rfl) lamAll_nil) g28.m4 (unAll_cons (fun _ => rfl) (unAll_cons (fun _ => rfl) unAll_nil)) (fun _ => rfl) g28.e4 9223372036854775808 rfl
noncomputable def g28.f (b0 : ByteArray) (b1 : Int) : Option (List ByteArray × Int) :=
  (g64.f b1).bind fun (y1 : Bool) =>
  if (!y1) = true then some (([] : List ByteArray), 1)
  else if b1 = 8 then some (([] : List ByteArray), 1)
  else (g28.l4 9223372036854775808 b0 b1 ([] : List ByteArray)).bind fun (y3 : (List ByteArray × Int) ⊕ List ByteArray) =>
  (match y3 with
  | .inl y4 => some y4
  | .inr y5 => some (y5, 0))
noncomputable def g28.sp : FSpec := { f := 28, ins := [(false, [.k .str]), (false, [.k (.int .i64)])], inE := [], outs := [(false, [.k (.list 9 .str)]), (false, [.k (.int .i64)])], outE := [], raw := List ByteArray × Int, sem := fun x => g28.f x.1.1.1 x.1.2.1.1, ret := fun y => (((y.1, ()), (y.2, ()), ()), ()) }
theorem g28.ok : FOk Try.prog g28.sp := fn_ok (κ := kap) g28.G_ok follows (L := [g28.L4]) (fn := Try.f28) (c := bodyOf Try.f28) rfl (by decide) rfl (lam_by (fn := Try.f28) (by kernel_rfl) (lamAll_cons g28.k4 lamAll_nil)) (un := fun z => (z.1.1.1, z.1.2.1.1)) (fun _ => rfl) (by decide) (fun x => by kernel_rfl)
/-! ### beadroll/beadrollref10.Read -/
noncomputable def g94.G : List FSpec := [g105.sp, g66.sp, g28.sp]
theorem g94.G_ok : ∀ sp ∈ g94.G, FOk Try.prog sp := allOk_cons g105.ok (allOk_cons g66.ok (allOk_cons g28.ok allOk_nil))
noncomputable def g94.s5 (again : ByteArray → Int → Int → ByteArray → Int → List ByteArray → Option ((List ByteArray × Bool) ⊕ (Int × Int × List ByteArray))) (a0 : ByteArray) (a1 : Int) (a2 : Int) (a3 : ByteArray) (a4 : Int) (a5 : List ByteArray) : Option ((List ByteArray × Bool) ⊕ (Int × Int × List ByteArray)) :=
  if a4 < (nz a3.size) then (if 0 ≤ a4 then if a4 < nz a3.size then if (bt a3 a4) = 110 then (if (bt a3 a4) = 110 then ((g66.f a0 a1).bind fun (y2 : ByteArray × Int × Int) =>
     if y2.2.2 = 0 then (if 0 ≤ a4 then if a4 < nz a3.size then if (bt a3 a4) = 117 then (if (0 : Int) ≤ y2.2.1 then if y2.2.1 ≤ (nz a0.size) then if (0 : Int) ≤ a1 then if a1 ≤ y2.2.1 then if y2.1 = (a0.extract a1.toNat y2.2.1.toNat) then (if nz a5.length + nz (([y2.1] : List ByteArray).length) ≤ room Try.prog 9 then again a0 y2.2.1 a2 a3 (wrap64 (a4 + 1)) (a5 ++ ([y2.1] : List ByteArray)) else none)
       else some (.inl (([] : List ByteArray), false))
       else none
       else none
       else none
       else none)
      else if nz a5.length + nz (([y2.1] : List ByteArray).length) ≤ room Try.prog 9 then again a0 y2.2.1 a2 a3 (wrap64 (a4 + 1)) (a5 ++ ([y2.1] : List ByteArray)) else none
      else none
      else none)
     else some (.inl (([] : List ByteArray), false)))
    else if (bt a3 a4) = 116 then (if (0 : Int) ≤ a1 then if a1 ≤ (nz a0.size) then (g28.f (a0.extract a1.toNat a0.size) 1).bind fun (y3 : List ByteArray × Int) =>
     if y3.2 = 0 then (if (nz y3.1.length) = 0 then some (.inl (([] : List ByteArray), false))
      else if a2 < (wrap64 (a1 + (wrap64 (a2 - a1)))) then some (.inl (([] : List ByteArray), false))
      else if (0 : Int) ≤ (wrap64 (a1 + (wrap64 (a2 - a1)))) then if (wrap64 (a1 + (wrap64 (a2 - a1)))) ≤ (nz a0.size) then if (0 : Int) ≤ a1 then if a1 ≤ (wrap64 (a1 + (wrap64 (a2 - a1)))) then if nz a5.length + nz (([a0.extract a1.toNat ((wrap64 (a1 + (wrap64 (a2 - a1)))).toNat)] : List ByteArray).length) ≤ room Try.prog 9 then again a0 (wrap64 (a1 + (wrap64 (a2 - a1)))) a2 a3 (wrap64 (a4 + 1)) (a5 ++ ([a0.extract a1.toNat ((wrap64 (a1 + (wrap64 (a2 - a1)))).toNat)] : List ByteArray)) else none
      else none
      else none
      else none
      else none)
     else some (.inl (([] : List ByteArray), false))
     else none
     else none)
    else if (bt a3 a4) = 111 then (if a2 < (wrap64 (a1 + (wrap64 (a2 - a1)))) then some (.inl (([] : List ByteArray), false))
     else if (0 : Int) ≤ (wrap64 (a1 + (wrap64 (a2 - a1)))) then if (wrap64 (a1 + (wrap64 (a2 - a1)))) ≤ (nz a0.size) then if (0 : Int) ≤ a1 then if a1 ≤ (wrap64 (a1 + (wrap64 (a2 - a1)))) then if nz a5.length + nz (([a0.extract a1.toNat ((wrap64 (a1 + (wrap64 (a2 - a1)))).toNat)] : List ByteArray).length) ≤ room Try.prog 9 then again a0 (wrap64 (a1 + (wrap64 (a2 - a1)))) a2 a3 (wrap64 (a4 + 1)) (a5 ++ ([a0.extract a1.toNat ((wrap64 (a1 + (wrap64 (a2 - a1)))).toNat)] : List ByteArray)) else none
     else none
     else none
     else none
     else none)
    else if (bt a3 a4) = 104 then (if a2 < (wrap64 (a1 + 16)) then some (.inl (([] : List ByteArray), false))
     else if (0 : Int) ≤ (wrap64 (a1 + 16)) then if (wrap64 (a1 + 16)) ≤ (nz a0.size) then if (0 : Int) ≤ a1 then if a1 ≤ (wrap64 (a1 + 16)) then if nz a5.length + nz (([a0.extract a1.toNat ((wrap64 (a1 + 16)).toNat)] : List ByteArray).length) ≤ room Try.prog 9 then again a0 (wrap64 (a1 + 16)) a2 a3 (wrap64 (a4 + 1)) (a5 ++ ([a0.extract a1.toNat ((wrap64 (a1 + 16)).toNat)] : List ByteArray)) else none
     else none
     else none
     else none
     else none)
    else if 0 ≤ a4 then if a4 < nz a3.size then if a2 < (wrap64 (a1 + (wrap64 ((wrap64 (bt a3 a4)) - 48)))) then some (.inl (([] : List ByteArray), false))
    else if (0 : Int) ≤ (wrap64 (a1 + (wrap64 ((wrap64 (bt a3 a4)) - 48)))) then if (wrap64 (a1 + (wrap64 ((wrap64 (bt a3 a4)) - 48)))) ≤ (nz a0.size) then if (0 : Int) ≤ a1 then if a1 ≤ (wrap64 (a1 + (wrap64 ((wrap64 (bt a3 a4)) - 48)))) then if nz a5.length + nz (([a0.extract a1.toNat ((wrap64 (a1 + (wrap64 ((wrap64 (bt a3 a4)) - 48)))).toNat)] : List ByteArray).length) ≤ room Try.prog 9 then again a0 (wrap64 (a1 + (wrap64 ((wrap64 (bt a3 a4)) - 48)))) a2 a3 (wrap64 (a4 + 1)) (a5 ++ ([a0.extract a1.toNat ((wrap64 (a1 + (wrap64 ((wrap64 (bt a3 a4)) - 48)))).toNat)] : List ByteArray)) else none
    else none
    else none
    else none
    else none
    else none
    else none)
   else if (bt a3 a4) = 117 then ((g66.f a0 a1).bind fun (y4 : ByteArray × Int × Int) =>
    if y4.2.2 = 0 then (if 0 ≤ a4 then if a4 < nz a3.size then if (bt a3 a4) = 117 then (if (0 : Int) ≤ y4.2.1 then if y4.2.1 ≤ (nz a0.size) then if (0 : Int) ≤ a1 then if a1 ≤ y4.2.1 then if y4.1 = (a0.extract a1.toNat y4.2.1.toNat) then (if nz a5.length + nz (([y4.1] : List ByteArray).length) ≤ room Try.prog 9 then again a0 y4.2.1 a2 a3 (wrap64 (a4 + 1)) (a5 ++ ([y4.1] : List ByteArray)) else none)
      else some (.inl (([] : List ByteArray), false))
      else none
      else none
      else none
      else none)
     else if nz a5.length + nz (([y4.1] : List ByteArray).length) ≤ room Try.prog 9 then again a0 y4.2.1 a2 a3 (wrap64 (a4 + 1)) (a5 ++ ([y4.1] : List ByteArray)) else none
     else none
     else none)
    else some (.inl (([] : List ByteArray), false)))
   else if (bt a3 a4) = 116 then (if (0 : Int) ≤ a1 then if a1 ≤ (nz a0.size) then (g28.f (a0.extract a1.toNat a0.size) 1).bind fun (y5 : List ByteArray × Int) =>
    if y5.2 = 0 then (if (nz y5.1.length) = 0 then some (.inl (([] : List ByteArray), false))
     else if a2 < (wrap64 (a1 + (wrap64 (a2 - a1)))) then some (.inl (([] : List ByteArray), false))
     else if (0 : Int) ≤ (wrap64 (a1 + (wrap64 (a2 - a1)))) then if (wrap64 (a1 + (wrap64 (a2 - a1)))) ≤ (nz a0.size) then if (0 : Int) ≤ a1 then if a1 ≤ (wrap64 (a1 + (wrap64 (a2 - a1)))) then if nz a5.length + nz (([a0.extract a1.toNat ((wrap64 (a1 + (wrap64 (a2 - a1)))).toNat)] : List ByteArray).length) ≤ room Try.prog 9 then again a0 (wrap64 (a1 + (wrap64 (a2 - a1)))) a2 a3 (wrap64 (a4 + 1)) (a5 ++ ([a0.extract a1.toNat ((wrap64 (a1 + (wrap64 (a2 - a1)))).toNat)] : List ByteArray)) else none
     else none
     else none
     else none
     else none)
    else some (.inl (([] : List ByteArray), false))
    else none
    else none)
   else if (bt a3 a4) = 111 then (if a2 < (wrap64 (a1 + (wrap64 (a2 - a1)))) then some (.inl (([] : List ByteArray), false))
    else if (0 : Int) ≤ (wrap64 (a1 + (wrap64 (a2 - a1)))) then if (wrap64 (a1 + (wrap64 (a2 - a1)))) ≤ (nz a0.size) then if (0 : Int) ≤ a1 then if a1 ≤ (wrap64 (a1 + (wrap64 (a2 - a1)))) then if nz a5.length + nz (([a0.extract a1.toNat ((wrap64 (a1 + (wrap64 (a2 - a1)))).toNat)] : List ByteArray).length) ≤ room Try.prog 9 then again a0 (wrap64 (a1 + (wrap64 (a2 - a1)))) a2 a3 (wrap64 (a4 + 1)) (a5 ++ ([a0.extract a1.toNat ((wrap64 (a1 + (wrap64 (a2 - a1)))).toNat)] : List ByteArray)) else none
    else none
    else none
    else none
    else none)
   else if (bt a3 a4) = 104 then (if a2 < (wrap64 (a1 + 16)) then some (.inl (([] : List ByteArray), false))
    else if (0 : Int) ≤ (wrap64 (a1 + 16)) then if (wrap64 (a1 + 16)) ≤ (nz a0.size) then if (0 : Int) ≤ a1 then if a1 ≤ (wrap64 (a1 + 16)) then if nz a5.length + nz (([a0.extract a1.toNat ((wrap64 (a1 + 16)).toNat)] : List ByteArray).length) ≤ room Try.prog 9 then again a0 (wrap64 (a1 + 16)) a2 a3 (wrap64 (a4 + 1)) (a5 ++ ([a0.extract a1.toNat ((wrap64 (a1 + 16)).toNat)] : List ByteArray)) else none
    else none
    else none
    else none
    else none)
   else if 0 ≤ a4 then if a4 < nz a3.size then if a2 < (wrap64 (a1 + (wrap64 ((wrap64 (bt a3 a4)) - 48)))) then some (.inl (([] : List ByteArray), false))
   else if (0 : Int) ≤ (wrap64 (a1 + (wrap64 ((wrap64 (bt a3 a4)) - 48)))) then if (wrap64 (a1 + (wrap64 ((wrap64 (bt a3 a4)) - 48)))) ≤ (nz a0.size) then if (0 : Int) ≤ a1 then if a1 ≤ (wrap64 (a1 + (wrap64 ((wrap64 (bt a3 a4)) - 48)))) then if nz a5.length + nz (([a0.extract a1.toNat ((wrap64 (a1 + (wrap64 ((wrap64 (bt a3 a4)) - 48)))).toNat)] : List ByteArray).length) ≤ room Try.prog 9 then again a0 (wrap64 (a1 + (wrap64 ((wrap64 (bt a3 a4)) - 48)))) a2 a3 (wrap64 (a4 + 1)) (a5 ++ ([a0.extract a1.toNat ((wrap64 (a1 + (wrap64 ((wrap64 (bt a3 a4)) - 48)))).toNat)] : List ByteArray)) else none
   else none
   else none
   else none
   else none
   else none
   else none
   else none
   else none)
  else some (.inr (a1, a2, a5))
noncomputable def g94.l5 : Nat → ByteArray → Int → Int → ByteArray → Int → List ByteArray → Option ((List ByteArray × Bool) ⊕ (Int × Int × List ByteArray))
  | 0, _, _, _, _, _, _ => none
  | k + 1, a0, a1, a2, a3, a4, a5 => g94.s5 (g94.l5 k) a0 a1 a2 a3 a4 a5
def g94.n5 : Norm := ⟨[0, 1, 2, 10, 11, 12], [(false, [.k .str]), (false, [.k (.int .i64)]), (false, [.k (.int .i64)]), (false, [.sl 0]), (false, [.k .str]), (false, [.k (.int .i64)])], [some (.lst 9 .str)]⟩
def g94.x5 : List ExitS := [{ e := .ret, n := ⟨[8, 9], [(false, [.k (.list 9 .str)]), (false, [.k .bool])], []⟩, raw := List ByteArray × Bool, ret := fun y => (((y.1, ()), (y.2, ()), ()), ()), un := fun z => (z.1.1.1, z.1.2.1.1) },
  { e := .exit 0, n := ⟨[1, 2, 10], [(false, [.k (.int .i64)]), (false, [.k (.int .i64)]), (false, [.sl 0])], [some (.lst 9 .str)]⟩, raw := Int × Int × List ByteArray, ret := fun y => (((y.1, ()), (y.2.1, ()), ((), ()), ()), (y.2.2, ())), un := fun z => (z.1.1.1, z.1.2.1.1, z.2.1) }]
noncomputable def g94.m5 (k : Nat) (x : g94.n5.X) : Option (SumR g94.x5) := g94.l5 k x.1.1.1 x.1.2.1.1 x.1.2.2.1.1 x.1.2.2.2.2.1.1 x.1.2.2.2.2.2.1.1 x.2.1
noncomputable def g94.L5 : LSpec := { id := 5, n := g94.n5, exits := g94.x5, sem := g94.m5 9223372036854775808 }
theorem g94.e5 : ∀ k x, g94.m5 (k + 1) x = roundS Try.prog kap g94.G [] (loopAt Try.f94 5) 116 0 g94.n5 g94.x5 (g94.m5 k) x := fun k x => by kernel_rfl
theorem g94.k5 : LOk Try.prog 0 116 g94.L5 (loopAt Try.f94 5) := LOk.of (κ := kap) (l := g94.L5) g94.G_ok follows (L := []) (lam_by (fn := Try.f94) (by kernel_rfl) lamAll_nil) g94.m5 (unAll_cons (fun _ => rfl) (unAll_cons (fun _ => rfl) unAll_nil)) (fun _ => rfl) g94.e5 9223372036854775808 rfl
noncomputable def g94.f (b0 : ByteArray) (b1 : Int) (b2 : Int) (b3 : Int) : Option (List ByteArray × Bool) :=
  (g105.f b3).bind fun (y1 : ByteArray) =>
  if (0 : Int) ≤ b2 then if b2 ≤ (nz b0.size) then (g94.l5 9223372036854775808 (b0.extract 0 b2.toNat) b1 b2 y1 0 ([] : List ByteArray)).bind fun (y6 : (List ByteArray × Bool) ⊕ (Int × Int × List ByteArray)) =>
  (match y6 with
  | .inl y7 => some y7
  | .inr y8 => some (y8.2.2, decide (y8.1 = y8.2.1)))
  else none
  else none
noncomputable def g94.sp : FSpec := { f := 94, ins := [(false, [.k .str]), (false, [.k (.int .i64)]), (false, [.k (.int .i64)]), (false, [.k (.int .i64)])], inE := [], outs := [(false, [.k (.list 9 .str)]), (false, [.k .bool])], outE := [], raw := List ByteArray × Bool, sem := fun x => g94.f x.1.1.1 x.1.2.1.1 x.1.2.2.1.1 x.1.2.2.2.1.1, ret := fun y => (((y.1, ()), (y.2, ()), ()), ()) }
theorem g94.ok : FOk Try.prog g94.sp := fn_ok (κ := kap) g94.G_ok follows (L := [g94.L5]) (fn := Try.f94) (c := bodyOf Try.f94) rfl (by decide) rfl (lam_by (fn := Try.f94) (by kernel_rfl) (lamAll_cons g94.k5 lamAll_nil)) (un := fun z => (z.1.1.1, z.1.2.1.1)) (fun _ => rfl) (by decide) (fun x => by kernel_rfl)
/-! ### beadroll/beadrollref10.join -/
noncomputable def g95.G : List FSpec := []
theorem g95.G_ok : ∀ sp ∈ g95.G, FOk Try.prog sp := allOk_nil
noncomputable def g95.s3 (again : List ByteArray → ByteArray → Int → Option ByteArray) (a0 : List ByteArray) (a1 : ByteArray) (a2 : Int) : Option ByteArray :=
  if a2 < (nz a0.length) then (if 0 ≤ a2 then if a2 < nz a0.length then (match a0[a2.toNat]? with
   | some x1 => if (nz a1.size) + (nz x1.size) ≤ 9223372036854775807 then again a0 (a1 ++ x1) (wrap64 (a2 + 1)) else none
   | none => none)
   else none
   else none)
  else some a1
noncomputable def g95.l3 : Nat → List ByteArray → ByteArray → Int → Option ByteArray
  | 0, _, _, _ => none
  | k + 1, a0, a1, a2 => g95.s3 (g95.l3 k) a0 a1 a2
def g95.n3 : Norm := ⟨[0, 3, 4], [(false, [.k (.list 9 .str)]), (false, [.k .str]), (false, [.k (.int .i64)])], []⟩
def g95.x3 : List ExitS := [{ e := .exit 0, n := ⟨[3], [(false, [.k .str])], []⟩, raw := ByteArray, ret := fun y => (((y, ()), ()), ()), un := fun z => z.1.1.1 }]
noncomputable def g95.m3 (k : Nat) (x : g95.n3.X) : Option (SumR g95.x3) := g95.l3 k x.1.1.1 x.1.2.1.1 x.1.2.2.1.1
noncomputable def g95.L3 : LSpec := { id := 3, n := g95.n3, exits := g95.x3, sem := g95.m3 9223372036854775808 }
theorem g95.e3 : ∀ k x, g95.m3 (k + 1) x = roundS Try.prog kap g95.G [] (loopAt Try.f95 3) 18 0 g95.n3 g95.x3 (g95.m3 k) x := fun k x => by kernel_rfl
theorem g95.k3 : LOk Try.prog 0 18 g95.L3 (loopAt Try.f95 3) := LOk.of (κ := kap) (l := g95.L3) g95.G_ok follows (L := []) (lam_by (fn := Try.f95) (by kernel_rfl) lamAll_nil) g95.m3 (unAll_cons (fun _ => rfl) unAll_nil) (fun _ => rfl) g95.e3 9223372036854775808 rfl
noncomputable def g95.f (b0 : List ByteArray) : Option ByteArray :=
  (g95.l3 9223372036854775808 b0 (⟨#[]⟩ : ByteArray) 0).bind fun (y2 : ByteArray) =>
  some y2
noncomputable def g95.sp : FSpec := { f := 95, ins := [(false, [.k (.list 9 .str)])], inE := [], outs := [(false, [.k .str])], outE := [], raw := ByteArray, sem := fun x => g95.f x.1.1.1, ret := fun y => (((y, ()), ()), ()) }
theorem g95.ok : FOk Try.prog g95.sp := fn_ok (κ := kap) g95.G_ok follows (L := [g95.L3]) (fn := Try.f95) (c := bodyOf Try.f95) rfl (by decide) rfl (lam_by (fn := Try.f95) (by kernel_rfl) (lamAll_cons g95.k3 lamAll_nil)) (un := fun z => z.1.1.1) (fun _ => rfl) (by decide) (fun x => by kernel_rfl)
/-! ### beadroll/beadrollref10.Whole -/
noncomputable def g68.G : List FSpec := [g94.sp, g95.sp]
theorem g68.G_ok : ∀ sp ∈ g68.G, FOk Try.prog sp := allOk_cons g94.ok (allOk_cons g95.ok allOk_nil)
noncomputable def g68.f (b0 : ByteArray) (b1 : Int) (b2 : Int) (b3 : Int) : Option (ByteArray × Bool) :=
  (g94.f b0 b1 b2 b3).bind fun (y1 : List ByteArray × Bool) =>
  (g95.f y1.1).bind fun (y2 : ByteArray) =>
  if y1.2 = true then some (y2, decide ((nz y2.size) ≤ 65535))
  else some (y2, false)
noncomputable def g68.sp : FSpec := { f := 68, ins := [(false, [.k .str]), (false, [.k (.int .i64)]), (false, [.k (.int .i64)]), (false, [.k (.int .i64)])], inE := [], outs := [(false, [.k .str]), (false, [.k .bool])], outE := [], raw := ByteArray × Bool, sem := fun x => g68.f x.1.1.1 x.1.2.1.1 x.1.2.2.1.1 x.1.2.2.2.1.1, ret := fun y => (((y.1, ()), (y.2, ()), ()), ()) }
theorem g68.ok : FOk Try.prog g68.sp := fn_ok (κ := kap) g68.G_ok follows (L := []) (fn := Try.f68) (c := bodyOf Try.f68) rfl (by decide) rfl (lam_by (fn := Try.f68) (by kernel_rfl) lamAll_nil) (un := fun z => (z.1.1.1, z.1.2.1.1)) (fun _ => rfl) (by decide) (fun x => by kernel_rfl)
/-! ### beadroll/beadrollref10.Right -/
noncomputable def g69.G : List FSpec := [g68.sp]
theorem g69.G_ok : ∀ sp ∈ g69.G, FOk Try.prog sp := allOk_cons g68.ok allOk_nil
noncomputable def g69.f (b0 : Int) (b1 : ByteArray) : Option Bool :=
  (g68.f b1 0 (nz b1.size) b0).bind fun (y1 : ByteArray × Bool) =>
  if y1.2 = true then some (decide (y1.1 = b1))
  else some false
noncomputable def g69.sp : FSpec := { f := 69, ins := [(false, [.k (.int .i64)]), (false, [.k .str])], inE := [], outs := [(false, [.k .bool])], outE := [], raw := Bool, sem := fun x => g69.f x.1.1.1 x.1.2.1.1, ret := fun y => (((y, ()), ()), ()) }
theorem g69.ok : FOk Try.prog g69.sp := fn_ok (κ := kap) g69.G_ok follows (L := []) (fn := Try.f69) (c := bodyOf Try.f69) rfl (by decide) rfl (lam_by (fn := Try.f69) (by kernel_rfl) lamAll_nil) (un := fun z => z.1.1.1) (fun _ => rfl) (by decide) (fun x => by kernel_rfl)
/-! ### beadroll/beadrollref11.typed -/
noncomputable def g67.G : List FSpec := []
theorem g67.G_ok : ∀ sp ∈ g67.G, FOk Try.prog sp := allOk_nil
noncomputable def g67.f (b0 : Int) (b1 : Bool) : Option Bool :=
  if b0 = 1 then some true
  else if b0 = 254 then some (!b1)
  else some false
noncomputable def g67.sp : FSpec := { f := 67, ins := [(false, [.k (.int .i64)]), (false, [.k .bool])], inE := [], outs := [(false, [.k .bool])], outE := [], raw := Bool, sem := fun x => g67.f x.1.1.1 x.1.2.1.1, ret := fun y => (((y, ()), ()), ()) }
theorem g67.ok : FOk Try.prog g67.sp := fn_ok (κ := kap) g67.G_ok follows (L := []) (fn := Try.f67) (c := bodyOf Try.f67) rfl (by decide) rfl (lam_by (fn := Try.f67) (by kernel_rfl) lamAll_nil) (un := fun z => z.1.1.1) (fun _ => rfl) (by decide) (fun x => by kernel_rfl)
/-! ### beadroll/beadrollref11.Right -/
noncomputable def g30.G : List FSpec := [g34.sp, g67.sp, g69.sp]
theorem g30.G_ok : ∀ sp ∈ g30.G, FOk Try.prog sp := allOk_cons g34.ok (allOk_cons g67.ok (allOk_cons g69.ok allOk_nil))
noncomputable def g30.f (b0 : ByteArray × Int × Int × Int × ByteArray) : Option Bool :=
  (g34.f b0.1).bind fun (y1 : Bool) =>
  if (!y1) = true then some false
  else if b0.2.1 < 0 then some false
  else if (65535 : Int) < b0.2.1 then some false
  else if b0.2.2.1 < 0 then some false
  else if (65535 : Int) < b0.2.2.1 then some false
  else if b0.2.2.2.1 < 0 then some false
  else if (2147483647 : Int) < b0.2.2.2.1 then some false
  else if (65535 : Int) < (nz b0.2.2.2.2.size) then some false
  else (g67.f b0.2.2.1 (decide (b0.2.2.2.2 = (⟨#[]⟩ : ByteArray)))).bind fun (y2 : Bool) =>
  if (!y2) = true then some true
  else (g69.f b0.2.1 b0.2.2.2.2).bind fun (y3 : Bool) =>
  some y3
noncomputable def g30.sp : FSpec := { f := 30, ins := [(true, [.k (.pair .str (.pair (.int .i64) (.pair (.int .i64) (.pair (.int .i64) .str))))])], inE := [], outs := [(false, [.k .bool])], outE := [], raw := Bool, sem := fun x => g30.f x.1.1.1, ret := fun y => (((y, ()), ()), ()) }
theorem g30.ok : FOk Try.prog g30.sp := fn_ok (κ := kap) g30.G_ok follows (L := []) (fn := Try.f30) (c := bodyOf Try.f30) rfl (by decide) rfl (lam_by (fn := Try.f30) (by kernel_rfl) lamAll_nil) (un := fun z => z.1.1.1) (fun _ => rfl) (by decide) (fun x => by kernel_rfl)
/-! ### beadroll/rdata.parts -/
noncomputable def g103.G : List FSpec := []
theorem g103.G_ok : ∀ sp ∈ g103.G, FOk Try.prog sp := allOk_nil
noncomputable def g103.f (b0 : Int) : Option (List Int) :=
  if b0 = 1 then some ([4] : List Int)
  else if b0 = 28 then some ([16] : List Int)
  else if b0 = 2 then (if b0 = 2 then some ([(-1)] : List Int)
   else if b0 = 15 then some ([2, (-1)] : List Int)
   else if b0 = 6 then some ([(-1), (-1), 4, 4, 4, 4, 4] : List Int)
   else if b0 = 16 then some ([(-3)] : List Int)
   else if b0 = 33 then some ([2, 2, 2, (-2)] : List Int)
   else some ([(-4)] : List Int))
  else if b0 = 5 then (if b0 = 5 then some ([(-1)] : List Int)
   else if b0 = 15 then some ([2, (-1)] : List Int)
   else if b0 = 6 then some ([(-1), (-1), 4, 4, 4, 4, 4] : List Int)
   else if b0 = 16 then some ([(-3)] : List Int)
   else if b0 = 33 then some ([2, 2, 2, (-2)] : List Int)
   else some ([(-4)] : List Int))
  else if b0 = 12 then some ([(-1)] : List Int)
  else if b0 = 15 then some ([2, (-1)] : List Int)
  else if b0 = 6 then some ([(-1), (-1), 4, 4, 4, 4, 4] : List Int)
  else if b0 = 16 then some ([(-3)] : List Int)
  else if b0 = 33 then some ([2, 2, 2, (-2)] : List Int)
  else some ([(-4)] : List Int)
noncomputable def g103.sp : FSpec := { f := 103, ins := [(false, [.k (.int .i64)])], inE := [], outs := [(false, [.k (.list 3 (.int .i64))])], outE := [], raw := List Int, sem := fun x => g103.f x.1.1.1, ret := fun y => (((y, ()), ()), ()) }
theorem g103.ok : FOk Try.prog g103.sp := fn_ok (κ := kap) g103.G_ok follows (L := []) (fn := Try.f103) (c := bodyOf Try.f103) rfl (by decide) rfl (lam_by (fn := Try.f103) (by kernel_rfl) lamAll_nil) (un := fun z => z.1.1.1) (fun _ => rfl) (by decide) (fun x => by kernel_rfl)
/-! ### beadroll/rdata.part -/
noncomputable def g104.G : List FSpec := [g61.sp, g26.sp]
theorem g104.G_ok : ∀ sp ∈ g104.G, FOk Try.prog sp := allOk_cons g61.ok (allOk_cons g26.ok allOk_nil)
noncomputable def g104.f (b0 : ByteArray) (b1 : Int) (b2 : Int) (b3 : Int) : Option (ByteArray × Int × Bool) :=
  if b3 = (-1) then (if b3 = (-1) then (if (0 : Int) ≤ b2 then if b2 ≤ (nz b0.size) then (g61.f (b0.extract 0 b2.toNat) b1).bind fun (y1 : ByteArray × Int × Int) =>
    if y1.2.2 = 0 then (if b3 = (-1) then some (y1.1, y1.2.1, true)
     else if (0 : Int) ≤ y1.2.1 then if y1.2.1 ≤ (nz b0.size) then if (0 : Int) ≤ b1 then if b1 ≤ y1.2.1 then some (y1.1, y1.2.1, decide (y1.1 = (b0.extract b1.toNat y1.2.1.toNat))) else none
     else none
     else none
     else none)
    else some (y1.1, y1.2.1, false)
    else none
    else none)
   else if b3 = (-3) then (if (0 : Int) ≤ b2 then if b2 ≤ (nz b0.size) then if (0 : Int) ≤ b1 then if b1 ≤ b2 then (g26.f (b0.extract b1.toNat b2.toNat) 1).bind fun (y2 : List ByteArray × Int) =>
    if (0 : Int) ≤ b2 then if b2 ≤ (nz b0.size) then if (0 : Int) ≤ b1 then if b1 ≤ b2 then if y2.2 = 0 then some (b0.extract b1.toNat b2.toNat, b2, decide ((0 : Int) < (nz y2.1.length)))
    else some (b0.extract b1.toNat b2.toNat, b2, false)
    else none
    else none
    else none
    else none
    else none
    else none
    else none
    else none)
   else if b3 = (-4) then (if (0 : Int) ≤ b2 then if b2 ≤ (nz b0.size) then if (0 : Int) ≤ b1 then if b1 ≤ b2 then some (b0.extract b1.toNat b2.toNat, b2, true) else none
    else none
    else none
    else none)
   else if (wrap64 (b2 - b1)) < b3 then some ((⟨#[]⟩ : ByteArray), 0, false)
   else if (0 : Int) ≤ (wrap64 (b1 + b3)) then if (wrap64 (b1 + b3)) ≤ (nz b0.size) then if (0 : Int) ≤ b1 then if b1 ≤ (wrap64 (b1 + b3)) then some (b0.extract b1.toNat ((wrap64 (b1 + b3)).toNat), wrap64 (b1 + b3), true) else none
   else none
   else none
   else none)
  else if b3 = (-2) then (if (0 : Int) ≤ b2 then if b2 ≤ (nz b0.size) then (g61.f (b0.extract 0 b2.toNat) b1).bind fun (y3 : ByteArray × Int × Int) =>
   if y3.2.2 = 0 then (if b3 = (-1) then some (y3.1, y3.2.1, true)
    else if (0 : Int) ≤ y3.2.1 then if y3.2.1 ≤ (nz b0.size) then if (0 : Int) ≤ b1 then if b1 ≤ y3.2.1 then some (y3.1, y3.2.1, decide (y3.1 = (b0.extract b1.toNat y3.2.1.toNat))) else none
    else none
    else none
    else none)
   else some (y3.1, y3.2.1, false)
   else none
   else none)
  else if b3 = (-3) then (if (0 : Int) ≤ b2 then if b2 ≤ (nz b0.size) then if (0 : Int) ≤ b1 then if b1 ≤ b2 then (g26.f (b0.extract b1.toNat b2.toNat) 1).bind fun (y4 : List ByteArray × Int) =>
   if (0 : Int) ≤ b2 then if b2 ≤ (nz b0.size) then if (0 : Int) ≤ b1 then if b1 ≤ b2 then if y4.2 = 0 then some (b0.extract b1.toNat b2.toNat, b2, decide ((0 : Int) < (nz y4.1.length)))
   else some (b0.extract b1.toNat b2.toNat, b2, false)
   else none
   else none
   else none
   else none
   else none
   else none
   else none
   else none)
  else if b3 = (-4) then (if (0 : Int) ≤ b2 then if b2 ≤ (nz b0.size) then if (0 : Int) ≤ b1 then if b1 ≤ b2 then some (b0.extract b1.toNat b2.toNat, b2, true) else none
   else none
   else none
   else none)
  else if (wrap64 (b2 - b1)) < b3 then some ((⟨#[]⟩ : ByteArray), 0, false)
  else if (0 : Int) ≤ (wrap64 (b1 + b3)) then if (wrap64 (b1 + b3)) ≤ (nz b0.size) then if (0 : Int) ≤ b1 then if b1 ≤ (wrap64 (b1 + b3)) then some (b0.extract b1.toNat ((wrap64 (b1 + b3)).toNat), wrap64 (b1 + b3), true) else none
  else none
  else none
  else none
noncomputable def g104.sp : FSpec := { f := 104, ins := [(false, [.k .str]), (false, [.k (.int .i64)]), (false, [.k (.int .i64)]), (false, [.k (.int .i64)])], inE := [], outs := [(false, [.k .str]), (false, [.k (.int .i64)]), (false, [.k .bool])], outE := [], raw := ByteArray × Int × Bool, sem := fun x => g104.f x.1.1.1 x.1.2.1.1 x.1.2.2.1.1 x.1.2.2.2.1.1, ret := fun y => (((y.1, ()), (y.2.1, ()), (y.2.2, ()), ()), ()) }
theorem g104.ok : FOk Try.prog g104.sp := fn_ok (κ := kap) g104.G_ok follows (L := []) (fn := Try.f104) (c := bodyOf Try.f104) rfl (by decide) rfl (lam_by (fn := Try.f104) (by kernel_rfl) lamAll_nil) (un := fun z => (z.1.1.1, z.1.2.1.1, z.1.2.2.1.1)) (fun _ => rfl) (by decide) (fun x => by kernel_rfl)
/-! ### beadroll/rdata.Right$1 -/
noncomputable def g101.G : List FSpec := []
theorem g101.G_ok : ∀ sp ∈ g101.G, FOk Try.prog sp := allOk_nil
noncomputable def g101.f (b0 : Int) (b1 : ByteArray) (b2 : Int) : Option Int :=
  some (wrap64 (b2 + (nz b1.size)))
noncomputable def g101.sp : FSpec := { f := 101, ins := [(false, [.k (.int .i64)]), (false, [.k .str]), (false, [.ptr 0 0])], inE := [some (.cells [.k (.int .i64)] 3)], outs := [], outE := [some (.cells [.k (.int .i64)] 3)], raw := Int, sem := fun x => g101.f x.1.1.1 x.1.2.1.1 x.2.1.1, ret := fun y => ((), ((y, ()), ())) }
theorem g101.ok : FOk Try.prog g101.sp := fn_ok (κ := kap) g101.G_ok follows (L := []) (fn := Try.f101) (c := bodyOf Try.f101) rfl (by decide) rfl (lam_by (fn := Try.f101) (by kernel_rfl) lamAll_nil) (un := fun z => z.2.1.1) (fun _ => rfl) (by decide) (fun x => by kernel_rfl)
/-! ### beadroll/rdata.walk -/
noncomputable def g91.G : List FSpec := [g103.sp, g104.sp, g101.sp]
theorem g91.G_ok : ∀ sp ∈ g91.G, FOk Try.prog sp := allOk_cons g103.ok (allOk_cons g104.ok (allOk_cons g101.ok allOk_nil))
noncomputable def g91.s2 (again : ByteArray → Int → Int → List Int → Int → Int → Int → Option ((Bool × Int) ⊕ (Int × Int × Int))) (a0 : ByteArray) (a1 : Int) (a2 : Int) (a3 : List Int) (a4 : Int) (a5 : Int) (a6 : Int) : Option ((Bool × Int) ⊕ (Int × Int × Int)) :=
  if a5 < a4 then (if 0 ≤ a5 then if a5 < nz a3.length then (match a3[a5.toNat]? with
   | some x2 => (g104.f a0 a1 a2 x2).bind fun (y3 : ByteArray × Int × Bool) =>
    if (!y3.2.2) = true then some (.inl (false, a6))
    else (g101.f x2 y3.1 a6).bind fun (y4 : Int) =>
    again a0 y3.2.1 a2 a3 a4 (wrap64 (a5 + 1)) y4
   | none => none)
   else none
   else none)
  else some (.inr (a1, a2, a6))
noncomputable def g91.l2 : Nat → ByteArray → Int → Int → List Int → Int → Int → Int → Option ((Bool × Int) ⊕ (Int × Int × Int))
  | 0, _, _, _, _, _, _, _ => none
  | k + 1, a0, a1, a2, a3, a4, a5, a6 => g91.s2 (g91.l2 k) a0 a1 a2 a3 a4 a5 a6
def g91.n2 : Norm := ⟨[0, 1, 2, 4, 17, 18, 19], [(false, [.k .str]), (false, [.k (.int .i64)]), (false, [.k (.int .i64)]), (false, [.clo 101 [0]]), (false, [.k (.list 3 (.int .i64))]), (false, [.k (.int .i64)]), (false, [.k (.int .i64)])], [some (.cells [.k (.int .i64)] 3)]⟩
def g91.x2 : List ExitS := [{ e := .ret, n := ⟨[10], [(false, [.k .bool])], [some (.cells [.k (.int .i64)] 3)]⟩, raw := Bool × Int, ret := fun y => (((y.1, ()), ()), ((y.2, ()), ())), un := fun z => (z.1.1.1, z.2.1.1) },
  { e := .exit 0, n := ⟨[1, 2], [(false, [.k (.int .i64)]), (false, [.k (.int .i64)])], [some (.cells [.k (.int .i64)] 3)]⟩, raw := Int × Int × Int, ret := fun y => (((y.1, ()), (y.2.1, ()), ()), ((y.2.2, ()), ())), un := fun z => (z.1.1.1, z.1.2.1.1, z.2.1.1) }]
noncomputable def g91.m2 (k : Nat) (x : g91.n2.X) : Option (SumR g91.x2) := g91.l2 k x.1.1.1 x.1.2.1.1 x.1.2.2.1.1 x.1.2.2.2.2.1.1 x.1.2.2.2.2.2.1.1 x.1.2.2.2.2.2.2.1.1 x.2.1.1
noncomputable def g91.L2 : LSpec := { id := 2, n := g91.n2, exits := g91.x2, sem := g91.m2 9223372036854775808 }
theorem g91.e2 : ∀ k x, g91.m2 (k + 1) x = roundS Try.prog kap g91.G [] (loopAt Try.f91 2) 43 1 g91.n2 g91.x2 (g91.m2 k) x := fun k x => by kernel_rfl
theorem g91.k2 : LOk Try.prog 1 43 g91.L2 (loopAt Try.f91 2) := LOk.of (κ := kap) (l := g91.L2) g91.G_ok follows (L := []) (lam_by (fn := Try.f91) (by kernel_rfl) lamAll_nil) g91.m2 (unAll_cons (fun _ => rfl) (unAll_cons (fun _ => rfl) unAll_nil)) (fun _ => rfl) g91.e2 9223372036854775808 rfl
noncomputable def g91.f (b0 : ByteArray) (b1 : Int) (b2 : Int) (b3 : Int) (b4 : Int) : Option (Bool × Int) :=
  (g103.f b3).bind fun (y1 : List Int) =>
  (g91.l2 9223372036854775808 b0 b1 b2 y1 (nz y1.length) 0 b4).bind fun (y5 : (Bool × Int) ⊕ (Int × Int × Int)) =>
  (match y5 with
  | .inl y6 => some y6
  | .inr y7 => some (decide (y7.1 = y7.2.1), y7.2.2))
noncomputable def g91.sp : FSpec := { f := 91, ins := [(false, [.k .str]), (false, [.k (.int .i64)]), (false, [.k (.int .i64)]), (false, [.k (.int .i64)]), (false, [.clo 101 [0]])], inE := [some (.cells [.k (.int .i64)] 3)], outs := [(false, [.k .bool])], outE := [some (.cells [.k (.int .i64)] 3)], raw := Bool × Int, sem := fun x => g91.f x.1.1.1 x.1.2.1.1 x.1.2.2.1.1 x.1.2.2.2.1.1 x.2.1.1, ret := fun y => (((y.1, ()), ()), ((y.2, ()), ())) }
theorem g91.ok : FOk Try.prog g91.sp := fn_ok (κ := kap) g91.G_ok follows (L := [g91.L2]) (fn := Try.f91) (c := bodyOf Try.f91) rfl (by decide) rfl (lam_by (fn := Try.f91) (by kernel_rfl) (lamAll_cons g91.k2 lamAll_nil)) (un := fun z => (z.1.1.1, z.2.1.1)) (fun _ => rfl) (by decide) (fun x => by kernel_rfl)
/-! ### beadroll/rdata.Right -/
noncomputable def g85.G : List FSpec := [g91.sp]
theorem g85.G_ok : ∀ sp ∈ g85.G, FOk Try.prog sp := allOk_cons g91.ok allOk_nil
noncomputable def g85.f (b0 : Int) (b1 : ByteArray) : Option Bool :=
  if (65535 : Int) < (nz b1.size) then some false
  else (g91.f b1 0 (nz b1.size) b0 0).bind fun (y1 : Bool × Int) =>
  if y1.1 = true then some (decide (y1.2 = (nz b1.size)))
  else some false
noncomputable def g85.sp : FSpec := { f := 85, ins := [(false, [.k (.int .i64)]), (false, [.k .str])], inE := [], outs := [(false, [.k .bool])], outE := [], raw := Bool, sem := fun x => g85.f x.1.1.1 x.1.2.1.1, ret := fun y => (((y, ()), ()), ()) }
theorem g85.ok : FOk Try.prog g85.sp := fn_ok (κ := kap) g85.G_ok follows (L := []) (fn := Try.f85) (c := bodyOf Try.f85) rfl (by decide) rfl (lam_by (fn := Try.f85) (by kernel_rfl) lamAll_nil) (un := fun z => z.1.1.1) (fun _ => rfl) (by decide) (fun x => by kernel_rfl)
/-! ### (*strings.Builder).WriteString -/
noncomputable def g72.G : List FSpec := [g96.sp]
theorem g72.G_ok : ∀ sp ∈ g72.G, FOk Try.prog sp := allOk_cons g96.ok allOk_nil
noncomputable def g72.f (b0 : ByteArray) (b1 : List Int) : Option (Int × List Int) :=
  (g96.f b1).bind fun (y1 : List Int) =>
  if nz y1.length + nz ((strBytes b0).length) ≤ room Try.prog 5 then some (nz b0.size, y1 ++ (strBytes b0)) else none
noncomputable def g72.sp : FSpec := { f := 72, ins := [(false, [.ptr 0 0]), (false, [.k .str])], inE := [some (.cells [.np 0, .sl 1] 112), some (.lst 5 (.int .u8))], outs := [(false, [.k (.int .i64)]), (false, [.ci])], outE := [some (.cells [.np 0, .sl 2] 112), none, some (.lst 5 (.int .u8))], raw := Int × List Int, sem := fun x => g72.f x.1.2.1.1 x.2.2.1, ret := fun y => (((y.1, ()), ((), ()), ()), (((), (), ()), y.2, ())) }
theorem g72.ok : FOk Try.prog g72.sp := fn_ok (κ := kap) g72.G_ok follows (L := []) (fn := Try.f72) (c := bodyOf Try.f72) rfl (by decide) rfl (lam_by (fn := Try.f72) (by kernel_rfl) lamAll_nil) (un := fun z => (z.1.1.1, z.2.2.1)) (fun _ => rfl) (by decide) (fun x => by kernel_rfl)
/-! ### beadroll/rdata.Read$1 -/
noncomputable def g92.G : List FSpec := [g72.sp]
theorem g92.G_ok : ∀ sp ∈ g92.G, FOk Try.prog sp := allOk_cons g72.ok allOk_nil
noncomputable def g92.f (b0 : Int) (b1 : ByteArray) (b2 : List Int) : Option (List Int) :=
  (g72.f b1 b2).bind fun (y1 : Int × List Int) =>
  some y1.2
noncomputable def g92.sp : FSpec := { f := 92, ins := [(false, [.k (.int .i64)]), (false, [.k .str]), (false, [.ptr 0 0])], inE := [some (.cells [.np 0, .sl 1] 112), some (.lst 5 (.int .u8))], outs := [], outE := [some (.cells [.np 0, .sl 2] 112), none, some (.lst 5 (.int .u8))], raw := List Int, sem := fun x => g92.f x.1.1.1 x.1.2.1.1 x.2.2.1, ret := fun y => ((), (((), (), ()), y, ())) }
theorem g92.ok : FOk Try.prog g92.sp := fn_ok (κ := kap) g92.G_ok follows (L := []) (fn := Try.f92) (c := bodyOf Try.f92) rfl (by decide) rfl (lam_by (fn := Try.f92) (by kernel_rfl) lamAll_nil) (un := fun z => z.2.2.1) (fun _ => rfl) (by decide) (fun x => by kernel_rfl)
/-! ### beadroll/rdata.walk -/
noncomputable def g91v1.G : List FSpec := [g103.sp, g104.sp, g92.sp]
theorem g91v1.G_ok : ∀ sp ∈ g91v1.G, FOk Try.prog sp := allOk_cons g103.ok (allOk_cons g104.ok (allOk_cons g92.ok allOk_nil))
noncomputable def g91v1.s2 (again : ByteArray → Int → Int → List Int → Int → Int → List Int → Option ((Bool × List Int) ⊕ (Int × Int × List Int))) (a0 : ByteArray) (a1 : Int) (a2 : Int) (a3 : List Int) (a4 : Int) (a5 : Int) (a6 : List Int) : Option ((Bool × List Int) ⊕ (Int × Int × List Int)) :=
  if a5 < a4 then (if 0 ≤ a5 then if a5 < nz a3.length then (match a3[a5.toNat]? with
   | some x2 => (g104.f a0 a1 a2 x2).bind fun (y3 : ByteArray × Int × Bool) =>
    if (!y3.2.2) = true then some (.inl (false, a6))
    else (g92.f x2 y3.1 a6).bind fun (y4 : List Int) =>
    again a0 y3.2.1 a2 a3 a4 (wrap64 (a5 + 1)) y4
   | none => none)
   else none
   else none)
  else some (.inr (a1, a2, a6))
noncomputable def g91v1.l2 : Nat → ByteArray → Int → Int → List Int → Int → Int → List Int → Option ((Bool × List Int) ⊕ (Int × Int × List Int))
  | 0, _, _, _, _, _, _, _ => none
  | k + 1, a0, a1, a2, a3, a4, a5, a6 => g91v1.s2 (g91v1.l2 k) a0 a1 a2 a3 a4 a5 a6
def g91v1.n2 : Norm := ⟨[0, 1, 2, 4, 17, 18, 19], [(false, [.k .str]), (false, [.k (.int .i64)]), (false, [.k (.int .i64)]), (false, [.clo 92 [0]]), (false, [.k (.list 3 (.int .i64))]), (false, [.k (.int .i64)]), (false, [.k (.int .i64)])], [some (.cells [.np 0, .sl 1] 112), some (.lst 5 (.int .u8))]⟩
def g91v1.x2 : List ExitS := [{ e := .ret, n := ⟨[10], [(false, [.k .bool])], [some (.cells [.np 0, .sl 1] 112), some (.lst 5 (.int .u8))]⟩, raw := Bool × List Int, ret := fun y => (((y.1, ()), ()), (((), (), ()), y.2, ())), un := fun z => (z.1.1.1, z.2.2.1) },
  { e := .exit 0, n := ⟨[1, 2], [(false, [.k (.int .i64)]), (false, [.k (.int .i64)])], [some (.cells [.np 0, .sl 1] 112), some (.lst 5 (.int .u8))]⟩, raw := Int × Int × List Int, ret := fun y => (((y.1, ()), (y.2.1, ()), ()), (((), (), ()), y.2.2, ())), un := fun z => (z.1.1.1, z.1.2.1.1, z.2.2.1) }]
noncomputable def g91v1.m2 (k : Nat) (x : g91v1.n2.X) : Option (SumR g91v1.x2) := g91v1.l2 k x.1.1.1 x.1.2.1.1 x.1.2.2.1.1 x.1.2.2.2.2.1.1 x.1.2.2.2.2.2.1.1 x.1.2.2.2.2.2.2.1.1 x.2.2.1
noncomputable def g91v1.L2 : LSpec := { id := 2, n := g91v1.n2, exits := g91v1.x2, sem := g91v1.m2 9223372036854775808 }
theorem g91v1.e2 : ∀ k x, g91v1.m2 (k + 1) x = roundS Try.prog kap g91v1.G [] (loopAt Try.f91 2) 43 1 g91v1.n2 g91v1.x2 (g91v1.m2 k) x := fun k x => by kernel_rfl
theorem g91v1.k2 : LOk Try.prog 1 43 g91v1.L2 (loopAt Try.f91 2) := LOk.of (κ := kap) (l := g91v1.L2) g91v1.G_ok follows (L := []) (lam_by (fn := Try.f91) (by kernel_rfl) lamAll_nil) g91v1.m2 (unAll_cons (fun _ => rfl) (unAll_cons (fun _ => rfl) unAll_nil)) (fun _ => rfl) g91v1.e2 9223372036854775808 rfl
noncomputable def g91v1.f (b0 : ByteArray) (b1 : Int) (b2 : Int) (b3 : Int) : Option (Bool × List Int) :=
  (g103.f b3).bind fun (y1 : List Int) =>
  (g91v1.l2 9223372036854775808 b0 b1 b2 y1 (nz y1.length) 0 ([] : List Int)).bind fun (y5 : (Bool × List Int) ⊕ (Int × Int × List Int)) =>
  (match y5 with
  | .inl y6 => some y6
  | .inr y7 => some (decide (y7.1 = y7.2.1), y7.2.2))
noncomputable def g91v1.sp : FSpec := { f := 91, ins := [(false, [.k .str]), (false, [.k (.int .i64)]), (false, [.k (.int .i64)]), (false, [.k (.int .i64)]), (false, [.clo 92 [0]])], inE := [some (.cells [.np 0, .cn] 112)], outs := [(false, [.k .bool])], outE := [some (.cells [.np 0, .sl 1] 112), some (.lst 5 (.int .u8))], raw := Bool × List Int, sem := fun x => g91v1.f x.1.1.1 x.1.2.1.1 x.1.2.2.1.1 x.1.2.2.2.1.1, ret := fun y => (((y.1, ()), ()), (((), (), ()), y.2, ())) }
theorem g91v1.ok : FOk Try.prog g91v1.sp := fn_ok (κ := kap) g91v1.G_ok follows (L := [g91v1.L2]) (fn := Try.f91) (c := bodyOf Try.f91) rfl (by decide) rfl (lam_by (fn := Try.f91) (by kernel_rfl) (lamAll_cons g91v1.k2 lamAll_nil)) (un := fun z => (z.1.1.1, z.2.2.1)) (fun _ => rfl) (by decide) (fun x => by kernel_rfl)
/-! ### (*strings.Builder).Len -/
noncomputable def g93.G : List FSpec := []
theorem g93.G_ok : ∀ sp ∈ g93.G, FOk Try.prog sp := allOk_nil
noncomputable def g93.f (b0 : List Int) : Option (Int × List Int) :=
  some (nz b0.length, b0)
noncomputable def g93.sp : FSpec := { f := 93, ins := [(false, [.ptr 0 0])], inE := [some (.cells [.np 0, .sl 1] 112), some (.lst 5 (.int .u8))], outs := [(false, [.k (.int .i64)])], outE := [some (.cells [.np 0, .sl 2] 112), none, some (.lst 5 (.int .u8))], raw := Int × List Int, sem := fun x => g93.f x.2.2.1, ret := fun y => (((y.1, ()), ()), (((), (), ()), y.2, ())) }
theorem g93.ok : FOk Try.prog g93.sp := fn_ok (κ := kap) g93.G_ok follows (L := []) (fn := Try.f93) (c := bodyOf Try.f93) rfl (by decide) rfl (lam_by (fn := Try.f93) (by kernel_rfl) lamAll_nil) (un := fun z => (z.1.1.1, z.2.2.1)) (fun _ => rfl) (by decide) (fun x => by kernel_rfl)
/-! ### beadroll/rdata.Read -/
noncomputable def g63.G : List FSpec := [g91v1.sp, g93.sp, g73.sp]
theorem g63.G_ok : ∀ sp ∈ g63.G, FOk Try.prog sp := allOk_cons g91v1.ok (allOk_cons g93.ok (allOk_cons g73.ok allOk_nil))
noncomputable def g63.f (b0 : ByteArray) (b1 : Int) (b2 : Int) (b3 : Int) : Option (ByteArray × Int) :=
  if b1 < 0 then some ((⟨#[]⟩ : ByteArray), 1)
  else if b2 < 0 then some ((⟨#[]⟩ : ByteArray), 1)
  else if (nz b0.size) < b1 then some ((⟨#[]⟩ : ByteArray), 1)
  else if (wrap64 ((nz b0.size) - b1)) < b2 then some ((⟨#[]⟩ : ByteArray), 1)
  else (g91v1.f b0 b1 (wrap64 (b1 + b2)) b3).bind fun (y1 : Bool × List Int) =>
  if (!y1.1) = true then some ((⟨#[]⟩ : ByteArray), 2)
  else (g93.f y1.2).bind fun (y2 : Int × List Int) =>
  if (65535 : Int) < y2.1 then some ((⟨#[]⟩ : ByteArray), 2)
  else (g73.f y2.2).bind fun (y3 : ByteArray) =>
  some (y3, 0)
noncomputable def g63.sp : FSpec := { f := 63, ins := [(false, [.k .str]), (false, [.k (.int .i64)]), (false, [.k (.int .i64)]), (false, [.k (.int .i64)])], inE := [], outs := [(false, [.k .str]), (false, [.k (.int .i64)])], outE := [], raw := ByteArray × Int, sem := fun x => g63.f x.1.1.1 x.1.2.1.1 x.1.2.2.1.1 x.1.2.2.2.1.1, ret := fun y => (((y.1, ()), (y.2, ()), ()), ()) }
theorem g63.ok : FOk Try.prog g63.sp := fn_ok (κ := kap) g63.G_ok follows (L := []) (fn := Try.f63) (c := bodyOf Try.f63) rfl (by decide) rfl (lam_by (fn := Try.f63) (by kernel_rfl) lamAll_nil) (un := fun z => (z.1.1.1, z.1.2.1.1)) (fun _ => rfl) (by decide) (fun x => by kernel_rfl)
/-! ### beadroll/record.typed -/
noncomputable def g62.G : List FSpec := []
theorem g62.G_ok : ∀ sp ∈ g62.G, FOk Try.prog sp := allOk_nil
noncomputable def g62.f (b0 : ByteArray × Int × Int × Int × ByteArray) : Option Bool :=
  if b0.2.2.1 = 1 then some true
  else if b0.2.2.1 = 254 then some (!decide (b0.2.2.2.2 = (⟨#[]⟩ : ByteArray)))
  else some false
noncomputable def g62.sp : FSpec := { f := 62, ins := [(true, [.k (.pair .str (.pair (.int .i64) (.pair (.int .i64) (.pair (.int .i64) .str))))])], inE := [], outs := [(false, [.k .bool])], outE := [], raw := Bool, sem := fun x => g62.f x.1.1.1, ret := fun y => (((y, ()), ()), ()) }
theorem g62.ok : FOk Try.prog g62.sp := fn_ok (κ := kap) g62.G_ok follows (L := []) (fn := Try.f62) (c := bodyOf Try.f62) rfl (by decide) rfl (lam_by (fn := Try.f62) (by kernel_rfl) lamAll_nil) (un := fun z => z.1.1.1) (fun _ => rfl) (by decide) (fun x => by kernel_rfl)
/-! ### beadroll/record.Right -/
noncomputable def g50.G : List FSpec := [g79.sp, g62.sp, g85.sp]
theorem g50.G_ok : ∀ sp ∈ g50.G, FOk Try.prog sp := allOk_cons g79.ok (allOk_cons g62.ok (allOk_cons g85.ok allOk_nil))
noncomputable def g50.f (b0 : ByteArray × Int × Int × Int × ByteArray) : Option Bool :=
  (g79.f b0.1).bind fun (y1 : Bool) =>
  if (!y1) = true then some false
  else if b0.2.1 < 0 then some false
  else if (65535 : Int) < b0.2.1 then some false
  else if b0.2.2.1 < 0 then some false
  else if (65535 : Int) < b0.2.2.1 then some false
  else if b0.2.2.2.1 < 0 then some false
  else if (2147483647 : Int) < b0.2.2.2.1 then some false
  else if (65535 : Int) < (nz b0.2.2.2.2.size) then some false
  else (g62.f b0).bind fun (y2 : Bool) =>
  if (!y2) = true then some true
  else (g85.f b0.2.1 b0.2.2.2.2).bind fun (y3 : Bool) =>
  some y3
noncomputable def g50.sp : FSpec := { f := 50, ins := [(true, [.k (.pair .str (.pair (.int .i64) (.pair (.int .i64) (.pair (.int .i64) .str))))])], inE := [], outs := [(false, [.k .bool])], outE := [], raw := Bool, sem := fun x => g50.f x.1.1.1, ret := fun y => (((y, ()), ()), ()) }
theorem g50.ok : FOk Try.prog g50.sp := fn_ok (κ := kap) g50.G_ok follows (L := []) (fn := Try.f50) (c := bodyOf Try.f50) rfl (by decide) rfl (lam_by (fn := Try.f50) (by kernel_rfl) lamAll_nil) (un := fun z => z.1.1.1) (fun _ => rfl) (by decide) (fun x => by kernel_rfl)
/-! ### beadroll/pack.New -/
noncomputable def g37.G : List FSpec := []
theorem g37.G_ok : ∀ sp ∈ g37.G, FOk Try.prog sp := allOk_nil
noncomputable def g37.f : Option (List Int × (List (ByteArray × Int))) :=
  some (([] : List Int), ([] : List (ByteArray × Int)))
noncomputable def g37.sp : FSpec := { f := 37, ins := [], inE := [], outs := [(false, [.ptr 0 0])], outE := [some (.cells [.sl 1, .mp 2] 126), some (.lst 5 (.int .u8)), some (.map 124 .str (.int .i64))], raw := List Int × (List (ByteArray × Int)), sem := fun x => g37.f, ret := fun y => ((((), ()), ()), (((), (), ()), y.1, y.2, ())) }
theorem g37.ok : FOk Try.prog g37.sp := fn_ok (κ := kap) g37.G_ok follows (L := []) (fn := Try.f37) (c := bodyOf Try.f37) rfl (by decide) rfl (lam_by (fn := Try.f37) (by kernel_rfl) lamAll_nil) (un := fun z => (z.2.2.1, z.2.2.2.1)) (fun _ => rfl) (by decide) (fun x => by kernel_rfl)
/-! ### beadroll/octets.most -/
noncomputable def g75.G : List FSpec := []
theorem g75.G_ok : ∀ sp ∈ g75.G, FOk Try.prog sp := allOk_nil
noncomputable def g75.f (b0 : Int) : Option Int :=
  if (wrap64 ((64 : Int) - (wrap64 ((8 : Int) * b0)))) < 0 then none
  else some ((18446744073709551615 : Int).fdiv (2 ^ min (wrap64 ((64 : Int) - (wrap64 ((8 : Int) * b0)))).toNat 64))
noncomputable def g75.sp : FSpec := { f := 75, ins := [(false, [.k (.int .i64)])], inE := [], outs := [(false, [.k (.int .u64)])], outE := [], raw := Int, sem := fun x => g75.f x.1.1.1, ret := fun y => (((y, ()), ()), ()) }
theorem g75.ok : FOk Try.prog g75.sp := fn_ok (κ := kap) g75.G_ok follows (L := []) (fn := Try.f75) (c := bodyOf Try.f75) rfl (by decide) rfl (lam_by (fn := Try.f75) (by kernel_rfl) lamAll_nil) (un := fun z => z.1.1.1) (fun _ => rfl) (by decide) (fun x => by kernel_rfl)
/-! ### beadroll/octets.bytes -/
noncomputable def g76.G : List FSpec := []
theorem g76.G_ok : ∀ sp ∈ g76.G, FOk Try.prog sp := allOk_nil
noncomputable def g76.s3 (again : Int → Int → List Int → Option (List Int)) (a0 : Int) (a1 : Int) (a2 : List Int) : Option (List Int) :=
  if (0 : Int) ≤ a1 then (if (wrap64 ((8 : Int) * a1)) < 0 then none
   else if nz a2.length + nz (([IntKind.wrap .u8 (a0.fdiv (2 ^ min (wrap64 ((8 : Int) * a1)).toNat 64))] : List Int).length) ≤ room Try.prog 5 then again a0 (wrap64 (a1 - 1)) (a2 ++ ([IntKind.wrap .u8 (a0.fdiv (2 ^ min (wrap64 ((8 : Int) * a1)).toNat 64))] : List Int)) else none)
  else some a2
noncomputable def g76.l3 : Nat → Int → Int → List Int → Option (List Int)
  | 0, _, _, _ => none
  | k + 1, a0, a1, a2 => g76.s3 (g76.l3 k) a0 a1 a2
def g76.n3 : Norm := ⟨[0, 5, 6], [(false, [.k (.int .u64)]), (false, [.sl 0]), (false, [.k (.int .i64)])], [some (.lst 5 (.int .u8))]⟩
def g76.x3 : List ExitS := [{ e := .exit 0, n := ⟨[5], [(false, [.sl 0])], [some (.lst 5 (.int .u8))]⟩, raw := List Int, ret := fun y => ((((), ()), ()), (y, ())), un := fun z => z.2.1 }]
noncomputable def g76.m3 (k : Nat) (x : g76.n3.X) : Option (SumR g76.x3) := g76.l3 k x.1.1.1 x.1.2.2.1.1 x.2.1
noncomputable def g76.L3 : LSpec := { id := 3, n := g76.n3, exits := g76.x3, sem := g76.m3 9223372036854775808 }
theorem g76.e3 : ∀ k x, g76.m3 (k + 1) x = roundS Try.prog kap g76.G [] (loopAt Try.f76 3) 22 0 g76.n3 g76.x3 (g76.m3 k) x := fun k x => by kernel_rfl
theorem g76.k3 : LOk Try.prog 0 22 g76.L3 (loopAt Try.f76 3) := LOk.of (κ := kap) (l := g76.L3) g76.G_ok follows (L := []) (lam_by (fn := Try.f76) (by kernel_rfl) lamAll_nil) g76.m3 (unAll_cons (fun _ => rfl) unAll_nil) (fun _ => rfl) g76.e3 9223372036854775808 rfl
noncomputable def g76.f (b0 : Int) (b1 : Int) : Option (List Int) :=
  (g76.l3 9223372036854775808 b0 (wrap64 (b1 - 1)) ([] : List Int)).bind fun (y1 : List Int) =>
  some y1
noncomputable def g76.sp : FSpec := { f := 76, ins := [(false, [.k (.int .u64)]), (false, [.k (.int .i64)])], inE := [], outs := [(false, [.k (.list 5 (.int .u8))])], outE := [], raw := List Int, sem := fun x => g76.f x.1.1.1 x.1.2.1.1, ret := fun y => (((y, ()), ()), ()) }
theorem g76.ok : FOk Try.prog g76.sp := fn_ok (κ := kap) g76.G_ok follows (L := [g76.L3]) (fn := Try.f76) (c := bodyOf Try.f76) rfl (by decide) rfl (lam_by (fn := Try.f76) (by kernel_rfl) (lamAll_cons g76.k3 lamAll_nil)) (un := fun z => z.1.1.1) (fun _ => rfl) (by decide) (fun x => by kernel_rfl)
/-! ### beadroll/octets.Join -/
noncomputable def g33.G : List FSpec := [g54.sp, g75.sp, g76.sp]
theorem g33.G_ok : ∀ sp ∈ g33.G, FOk Try.prog sp := allOk_cons g54.ok (allOk_cons g75.ok (allOk_cons g76.ok allOk_nil))
noncomputable def g33.s5 (again : List Int → List Int → Int → Int → List Int → Option ((ByteArray × Int) ⊕ List Int)) (a0 : List Int) (a1 : List Int) (a2 : Int) (a3 : Int) (a4 : List Int) : Option ((ByteArray × Int) ⊕ List Int) :=
  if a3 < a2 then (if 0 ≤ a3 then if a3 < nz a1.length then (match a1[a3.toNat]? with
   | some x2 => if 0 ≤ a3 then if a3 < nz a0.length then (match a0[a3.toNat]? with
    | some x3 => (g75.f x2).bind fun (y4 : Int) =>
     if y4 < x3 then some (.inl ((⟨#[]⟩ : ByteArray), 1))
     else if 0 ≤ a3 then if a3 < nz a0.length then (match a0[a3.toNat]? with
     | some x5 => (g76.f x5 x2).bind fun (y6 : List Int) =>
      if nz a4.length + nz y6.length ≤ room Try.prog 5 then again a0 a1 a2 (wrap64 (a3 + 1)) (a4 ++ y6) else none
     | none => none)
     else none
     else none
    | none => none)
    else none
    else none
   | none => none)
   else none
   else none)
  else some (.inr a4)
noncomputable def g33.l5 : Nat → List Int → List Int → Int → Int → List Int → Option ((ByteArray × Int) ⊕ List Int)
  | 0, _, _, _, _, _ => none
  | k + 1, a0, a1, a2, a3, a4 => g33.s5 (g33.l5 k) a0 a1 a2 a3 a4
def g33.n5 : Norm := ⟨[0, 6, 19, 20, 21], [(false, [.k (.list 57 (.int .u64))]), (false, [.sl 0]), (false, [.k (.list 3 (.int .i64))]), (false, [.k (.int .i64)]), (false, [.k (.int .i64)])], [some (.lst 5 (.int .u8))]⟩
def g33.x5 : List ExitS := [{ e := .ret, n := ⟨[4, 5], [(false, [.k .str]), (false, [.k (.int .i64)])], []⟩, raw := ByteArray × Int, ret := fun y => (((y.1, ()), (y.2, ()), ()), ()), un := fun z => (z.1.1.1, z.1.2.1.1) },
  { e := .exit 0, n := ⟨[6], [(false, [.sl 0])], [some (.lst 5 (.int .u8))]⟩, raw := List Int, ret := fun y => ((((), ()), ()), (y, ())), un := fun z => z.2.1 }]
noncomputable def g33.m5 (k : Nat) (x : g33.n5.X) : Option (SumR g33.x5) := g33.l5 k x.1.1.1 x.1.2.2.1.1 x.1.2.2.2.1.1 x.1.2.2.2.2.1.1 x.2.1
noncomputable def g33.L5 : LSpec := { id := 5, n := g33.n5, exits := g33.x5, sem := g33.m5 9223372036854775808 }
theorem g33.e5 : ∀ k x, g33.m5 (k + 1) x = roundS Try.prog kap g33.G [] (loopAt Try.f33 5) 44 0 g33.n5 g33.x5 (g33.m5 k) x := fun k x => by kernel_rfl
theorem g33.k5 : LOk Try.prog 0 44 g33.L5 (loopAt Try.f33 5) := LOk.of (κ := kap) (l := g33.L5) g33.G_ok follows (L := []) (lam_by (fn := Try.f33) (by kernel_rfl) lamAll_nil) g33.m5 (unAll_cons (fun _ => rfl) (unAll_cons (fun _ => rfl) unAll_nil)) (fun _ => rfl) g33.e5 9223372036854775808 rfl
noncomputable def g33.f (b0 : List Int) (b1 : List Int) : Option (ByteArray × Int) :=
  (g54.f b1).bind fun (y1 : Bool) =>
  if (!y1) = true then some ((⟨#[]⟩ : ByteArray), 1)
  else if (nz b0.length) = (nz b1.length) then ((g33.l5 9223372036854775808 b0 b1 (nz b1.length) 0 ([] : List Int)).bind fun (y7 : (ByteArray × Int) ⊕ List Int) =>
   (match y7 with
   | .inl y8 => some y8
   | .inr y9 => some (bytesStr y9, 0)))
  else some ((⟨#[]⟩ : ByteArray), 1)
noncomputable def g33.sp : FSpec := { f := 33, ins := [(false, [.k (.list 57 (.int .u64))]), (false, [.k (.list 3 (.int .i64))])], inE := [], outs := [(false, [.k .str]), (false, [.k (.int .i64)])], outE := [], raw := ByteArray × Int, sem := fun x => g33.f x.1.1.1 x.1.2.1.1, ret := fun y => (((y.1, ()), (y.2, ()), ()), ()) }
theorem g33.ok : FOk Try.prog g33.sp := fn_ok (κ := kap) g33.G_ok follows (L := [g33.L5]) (fn := Try.f33) (c := bodyOf Try.f33) rfl (by decide) rfl (lam_by (fn := Try.f33) (by kernel_rfl) (lamAll_cons g33.k5 lamAll_nil)) (un := fun z => (z.1.1.1, z.1.2.1.1)) (fun _ => rfl) (by decide) (fun x => by kernel_rfl)
/-! ### (*beadroll/pack.Packer).Raw -/
noncomputable def g39.G : List FSpec := []
theorem g39.G_ok : ∀ sp ∈ g39.G, FOk Try.prog sp := allOk_nil
noncomputable def g39.f (b0 : ByteArray) (b1 : List Int) (b2 : List (ByteArray × Int)) : Option ((List (ByteArray × Int)) × List Int) :=
  if nz b1.length + nz ((strBytes b0).length) ≤ room Try.prog 5 then some (b2, b1 ++ (strBytes b0)) else none
noncomputable def g39.sp : FSpec := { f := 39, ins := [(false, [.ptr 0 0]), (false, [.k .str])], inE := [some (.cells [.sl 1, .mp 2] 126), some (.lst 5 (.int .u8)), some (.map 124 .str (.int .i64))], outs := [], outE := [some (.cells [.sl 3, .mp 2] 126), none, some (.map 124 .str (.int .i64)), some (.lst 5 (.int .u8))], raw := (List (ByteArray × Int)) × List Int, sem := fun x => g39.f x.1.2.1.1 x.2.2.1 x.2.2.2.1, ret := fun y => ((), (((), (), ()), y.1, y.2, ())) }
theorem g39.ok : FOk Try.prog g39.sp := fn_ok (κ := kap) g39.G_ok follows (L := []) (fn := Try.f39) (c := bodyOf Try.f39) rfl (by decide) rfl (lam_by (fn := Try.f39) (by kernel_rfl) lamAll_nil) (un := fun z => (z.2.2.1, z.2.2.2.1)) (fun _ => rfl) (by decide) (fun x => by kernel_rfl)
/-! ### (*beadroll/pack.Packer).Name -/
noncomputable def g40.G : List FSpec := [g79.sp, g33.sp, g39.sp, g80.sp]
theorem g40.G_ok : ∀ sp ∈ g40.G, FOk Try.prog sp := allOk_cons g79.ok (allOk_cons g33.ok (allOk_cons g39.ok (allOk_cons g80.ok allOk_nil)))
noncomputable def g40.s3 (again : ByteArray → Bool → List (ByteArray × Int) → List Int → Option (((List (ByteArray × Int)) × List Int) ⊕ (Int × (List (ByteArray × Int)) × List Int))) (a0 : ByteArray) (a1 : Bool) (a2 : List (ByteArray × Int)) (a3 : List Int) : Option (((List (ByteArray × Int)) × List Int) ⊕ (Int × (List (ByteArray × Int)) × List Int)) :=
  if a0 = (⟨#[0]⟩ : ByteArray) then some (.inl (a2, a3))
  else (match assocS a0 a2 with
  | some x2 => if a1 = true then ((g33.f ([IntKind.wrap .u64 (wrap64 ((49152 : Int) + x2))] : List Int) ([2] : List Int)).bind fun (y3 : ByteArray × Int) =>
    (g39.f y3.1 a3 a2).bind fun (y4 : (List (ByteArray × Int)) × List Int) =>
    some (.inr (0, y4)))
   else (g80.f a0).bind fun (y5 : ByteArray × Bool) =>
   if (0 : Int) ≤ (wrap64 ((nz a0.size) - (nz y5.1.size))) then if (wrap64 ((nz a0.size) - (nz y5.1.size))) ≤ (nz a0.size) then (g39.f (a0.extract 0 ((wrap64 ((nz a0.size) - (nz y5.1.size))).toNat)) a3 a2).bind fun (y6 : (List (ByteArray × Int)) × List Int) =>
   again y5.1 a1 y6.1 y6.2
   else none
   else none
  | none => if (nz a3.length) < 16384 then ((g80.f a0).bind fun (y7 : ByteArray × Bool) =>
    if (0 : Int) ≤ (wrap64 ((nz a0.size) - (nz y7.1.size))) then if (wrap64 ((nz a0.size) - (nz y7.1.size))) ≤ (nz a0.size) then (g39.f (a0.extract 0 ((wrap64 ((nz a0.size) - (nz y7.1.size))).toNat)) a3 (assocSetS a0 (nz a3.length) a2)).bind fun (y8 : (List (ByteArray × Int)) × List Int) =>
    again y7.1 a1 y8.1 y8.2
    else none
    else none)
   else (g80.f a0).bind fun (y9 : ByteArray × Bool) =>
   if (0 : Int) ≤ (wrap64 ((nz a0.size) - (nz y9.1.size))) then if (wrap64 ((nz a0.size) - (nz y9.1.size))) ≤ (nz a0.size) then (g39.f (a0.extract 0 ((wrap64 ((nz a0.size) - (nz y9.1.size))).toNat)) a3 a2).bind fun (y10 : (List (ByteArray × Int)) × List Int) =>
   again y9.1 a1 y10.1 y10.2
   else none
   else none)
noncomputable def g40.l3 : Nat → ByteArray → Bool → List (ByteArray × Int) → List Int → Option (((List (ByteArray × Int)) × List Int) ⊕ (Int × (List (ByteArray × Int)) × List Int))
  | 0, _, _, _, _ => none
  | k + 1, a0, a1, a2, a3 => g40.s3 (g40.l3 k) a0 a1 a2 a3
def g40.n3 : Norm := ⟨[0, 1, 2], [(false, [.ptr 0 0]), (false, [.k .str]), (false, [.k .bool])], [some (.cells [.sl 3, .mp 2] 126), none, some (.map 124 .str (.int .i64)), some (.lst 5 (.int .u8))]⟩
def g40.x3 : List ExitS := [{ e := .exit 0, n := ⟨[0], [(false, [.ptr 0 0])], [some (.cells [.sl 3, .mp 2] 126), none, some (.map 124 .str (.int .i64)), some (.lst 5 (.int .u8))]⟩, raw := (List (ByteArray × Int)) × List Int, ret := fun y => ((((), ()), ()), (((), (), ()), y.1, y.2, ())), un := fun z => (z.2.2.1, z.2.2.2.1) },
  { e := .ret, n := ⟨[6], [(false, [.k (.int .i64)])], [some (.cells [.sl 3, .mp 2] 126), none, some (.map 124 .str (.int .i64)), some (.lst 5 (.int .u8))]⟩, raw := Int × (List (ByteArray × Int)) × List Int, ret := fun y => (((y.1, ()), ()), (((), (), ()), y.2.1, y.2.2, ())), un := fun z => (z.1.1.1, z.2.2.1, z.2.2.2.1) }]
noncomputable def g40.m3 (k : Nat) (x : g40.n3.X) : Option (SumR g40.x3) := g40.l3 k x.1.2.1.1 x.1.2.2.1.1 x.2.2.1 x.2.2.2.1
noncomputable def g40.L3 : LSpec := { id := 3, n := g40.n3, exits := g40.x3, sem := g40.m3 9223372036854775808 }
theorem g40.e3 : ∀ k x, g40.m3 (k + 1) x = roundS Try.prog kap g40.G [] (loopAt Try.f40 3) 80 3 g40.n3 g40.x3 (g40.m3 k) x := fun k x => by kernel_rfl
theorem g40.k3 : LOk Try.prog 3 80 g40.L3 (loopAt Try.f40 3) := LOk.of (κ := kap) (l := g40.L3) g40.G_ok follows (L := []) (lam_by (fn := Try.f40) (by kernel_rfl) lamAll_nil) g40.m3 (unAll_cons (fun _ => rfl) (unAll_cons (fun _ => rfl) unAll_nil)) (fun _ => rfl) g40.e3 9223372036854775808 rfl
noncomputable def g40.f (b0 : ByteArray) (b1 : Bool) (b2 : List Int) (b3 : List (ByteArray × Int)) : Option (Int × (List (ByteArray × Int)) × List Int) :=
  (g79.f b0).bind fun (y1 : Bool) =>
  if (!y1) = true then some (2, b3, b2)
  else (g40.l3 9223372036854775808 b0 b1 b3 b2).bind fun (y11 : ((List (ByteArray × Int)) × List Int) ⊕ (Int × (List (ByteArray × Int)) × List Int)) =>
  (match y11 with
  | .inl y12 => (g39.f (⟨#[0]⟩ : ByteArray) y12.2 y12.1).bind fun (y14 : (List (ByteArray × Int)) × List Int) =>
   some (0, y14)
  | .inr y13 => some y13)
noncomputable def g40.sp : FSpec := { f := 40, ins := [(false, [.ptr 0 0]), (false, [.k .str]), (false, [.k .bool])], inE := [some (.cells [.sl 1, .mp 2] 126), some (.lst 5 (.int .u8)), some (.map 124 .str (.int .i64))], outs := [(false, [.k (.int .i64)])], outE := [some (.cells [.sl 3, .mp 2] 126), none, some (.map 124 .str (.int .i64)), some (.lst 5 (.int .u8))], raw := Int × (List (ByteArray × Int)) × List Int, sem := fun x => g40.f x.1.2.1.1 x.1.2.2.1.1 x.2.2.1 x.2.2.2.1, ret := fun y => (((y.1, ()), ()), (((), (), ()), y.2.1, y.2.2, ())) }
theorem g40.ok : FOk Try.prog g40.sp := fn_ok (κ := kap) g40.G_ok follows (L := [g40.L3]) (fn := Try.f40) (c := bodyOf Try.f40) rfl (by decide) rfl (lam_by (fn := Try.f40) (by kernel_rfl) (lamAll_cons g40.k3 lamAll_nil)) (un := fun z => (z.1.1.1, z.2.2.1, z.2.2.2.1)) (fun _ => rfl) (by decide) (fun x => by kernel_rfl)
/-! ### (*beadroll/pack.Packer).Clone -/
noncomputable def g81.G : List FSpec := [g98.sp, g99.sp]
theorem g81.G_ok : ∀ sp ∈ g81.G, FOk Try.prog sp := allOk_cons g98.ok (allOk_cons g99.ok allOk_nil)
noncomputable def g81.f (b0 : List Int) (b1 : List (ByteArray × Int)) : Option (List Int × (List (ByteArray × Int)) × List Int × (List (ByteArray × Int))) :=
  (g98.f b0).bind fun (y1 : List Int) =>
  (g99.f b1).bind fun (y2 : (List (ByteArray × Int)) × (List (ByteArray × Int))) =>
  some (b0, y2.1, y1, y2.2)
noncomputable def g81.sp : FSpec := { f := 81, ins := [(false, [.ptr 0 0])], inE := [some (.cells [.sl 1, .mp 2] 126), some (.lst 5 (.int .u8)), some (.map 124 .str (.int .i64))], outs := [(false, [.ptr 3 0])], outE := [some (.cells [.sl 1, .mp 2] 126), some (.lst 5 (.int .u8)), some (.map 124 .str (.int .i64)), some (.cells [.sl 4, .mp 5] 126), some (.lst 5 (.int .u8)), some (.map 124 .str (.int .i64))], raw := List Int × (List (ByteArray × Int)) × List Int × (List (ByteArray × Int)), sem := fun x => g81.f x.2.2.1 x.2.2.2.1, ret := fun y => ((((), ()), ()), (((), (), ()), y.1, y.2.1, ((), (), ()), y.2.2.1, y.2.2.2, ())) }
theorem g81.ok : FOk Try.prog g81.sp := fn_ok (κ := kap) g81.G_ok follows (L := []) (fn := Try.f81) (c := bodyOf Try.f81) rfl (by decide) rfl (lam_by (fn := Try.f81) (by kernel_rfl) lamAll_nil) (un := fun z => (z.2.2.1, z.2.2.2.1, z.2.2.2.2.2.1, z.2.2.2.2.2.2.1)) (fun _ => rfl) (by decide) (fun x => by kernel_rfl)
/-! ### (*beadroll/pack.Packer).Len -/
noncomputable def g42.G : List FSpec := []
theorem g42.G_ok : ∀ sp ∈ g42.G, FOk Try.prog sp := allOk_nil
noncomputable def g42.f (b0 : List Int) (b1 : List (ByteArray × Int)) : Option (Int × (List (ByteArray × Int)) × List Int) :=
  some (nz b0.length, b1, b0)
noncomputable def g42.sp : FSpec := { f := 42, ins := [(false, [.ptr 0 0])], inE := [some (.cells [.sl 1, .mp 2] 126), some (.lst 5 (.int .u8)), some (.map 124 .str (.int .i64))], outs := [(false, [.k (.int .i64)])], outE := [some (.cells [.sl 3, .mp 2] 126), none, some (.map 124 .str (.int .i64)), some (.lst 5 (.int .u8))], raw := Int × (List (ByteArray × Int)) × List Int, sem := fun x => g42.f x.2.2.1 x.2.2.2.1, ret := fun y => (((y.1, ()), ()), (((), (), ()), y.2.1, y.2.2, ())) }
theorem g42.ok : FOk Try.prog g42.sp := fn_ok (κ := kap) g42.G_ok follows (L := []) (fn := Try.f42) (c := bodyOf Try.f42) rfl (by decide) rfl (lam_by (fn := Try.f42) (by kernel_rfl) lamAll_nil) (un := fun z => (z.1.1.1, z.2.2.1, z.2.2.2.1)) (fun _ => rfl) (by decide) (fun x => by kernel_rfl)
/-! ### beadroll/rdata.Write$1 -/
noncomputable def g109.G : List FSpec := [g40.sp, g39.sp]
theorem g109.G_ok : ∀ sp ∈ g109.G, FOk Try.prog sp := allOk_cons g40.ok (allOk_cons g39.ok allOk_nil)
noncomputable def g109.f (b0 : Int) (b1 : ByteArray) (b2 : List Int) (b3 : List (ByteArray × Int)) : Option ((List (ByteArray × Int)) × List Int) :=
  if b0 = (-1) then ((g40.f b1 (decide (b0 = (-1))) b2 b3).bind fun (y1 : Int × (List (ByteArray × Int)) × List Int) =>
   some y1.2)
  else if b0 = (-2) then ((g40.f b1 (decide (b0 = (-1))) b2 b3).bind fun (y2 : Int × (List (ByteArray × Int)) × List Int) =>
   some y2.2)
  else (g39.f b1 b2 b3).bind fun (y3 : (List (ByteArray × Int)) × List Int) =>
  some y3
noncomputable def g109.sp : FSpec := { f := 109, ins := [(false, [.k (.int .i64)]), (false, [.k .str]), (false, [.ptr 0 0])], inE := [some (.cells [.ptr 1 0] 74), some (.cells [.sl 2, .mp 3] 126), some (.lst 5 (.int .u8)), some (.map 124 .str (.int .i64))], outs := [], outE := [some (.cells [.ptr 1 0] 74), some (.cells [.sl 4, .mp 3] 126), none, some (.map 124 .str (.int .i64)), some (.lst 5 (.int .u8))], raw := (List (ByteArray × Int)) × List Int, sem := fun x => g109.f x.1.1.1 x.1.2.1.1 x.2.2.2.1 x.2.2.2.2.1, ret := fun y => ((), (((), ()), ((), (), ()), y.1, y.2, ())) }
theorem g109.ok : FOk Try.prog g109.sp := fn_ok (κ := kap) g109.G_ok follows (L := []) (fn := Try.f109) (c := bodyOf Try.f109) rfl (by decide) rfl (lam_by (fn := Try.f109) (by kernel_rfl) lamAll_nil) (un := fun z => (z.2.2.2.1, z.2.2.2.2.1)) (fun _ => rfl) (by decide) (fun x => by kernel_rfl)
/-! ### beadroll/rdata.walk -/
noncomputable def g91v2.G : List FSpec := [g103.sp, g104.sp, g109.sp]
theorem g91v2.G_ok : ∀ sp ∈ g91v2.G, FOk Try.prog sp := allOk_cons g103.ok (allOk_cons g104.ok (allOk_cons g109.ok allOk_nil))
noncomputable def g91v2.s2 (again : ByteArray → Int → Int → List Int → Int → Int → List (ByteArray × Int) → List Int → Option ((Bool × (List (ByteArray × Int)) × List Int) ⊕ (Int × Int × (List (ByteArray × Int)) × List Int))) (a0 : ByteArray) (a1 : Int) (a2 : Int) (a3 : List Int) (a4 : Int) (a5 : Int) (a6 : List (ByteArray × Int)) (a7 : List Int) : Option ((Bool × (List (ByteArray × Int)) × List Int) ⊕ (Int × Int × (List (ByteArray × Int)) × List Int)) :=
  if a5 < a4 then (if 0 ≤ a5 then if a5 < nz a3.length then (match a3[a5.toNat]? with
   | some x2 => (g104.f a0 a1 a2 x2).bind fun (y3 : ByteArray × Int × Bool) =>
    if (!y3.2.2) = true then some (.inl (false, a6, a7))
    else (g109.f x2 y3.1 a7 a6).bind fun (y4 : (List (ByteArray × Int)) × List Int) =>
    again a0 y3.2.1 a2 a3 a4 (wrap64 (a5 + 1)) y4.1 y4.2
   | none => none)
   else none
   else none)
  else some (.inr (a1, a2, a6, a7))
noncomputable def g91v2.l2 : Nat → ByteArray → Int → Int → List Int → Int → Int → List (ByteArray × Int) → List Int → Option ((Bool × (List (ByteArray × Int)) × List Int) ⊕ (Int × Int × (List (ByteArray × Int)) × List Int))
  | 0, _, _, _, _, _, _, _, _ => none
  | k + 1, a0, a1, a2, a3, a4, a5, a6, a7 => g91v2.s2 (g91v2.l2 k) a0 a1 a2 a3 a4 a5 a6 a7
def g91v2.n2 : Norm := ⟨[0, 1, 2, 4, 17, 18, 19], [(false, [.k .str]), (false, [.k (.int .i64)]), (false, [.k (.int .i64)]), (false, [.clo 109 [0]]), (false, [.k (.list 3 (.int .i64))]), (false, [.k (.int .i64)]), (false, [.k (.int .i64)])], [some (.cells [.ptr 1 0] 74), some (.cells [.sl 4, .mp 3] 126), none, some (.map 124 .str (.int .i64)), some (.lst 5 (.int .u8))]⟩
def g91v2.x2 : List ExitS := [{ e := .ret, n := ⟨[10], [(false, [.k .bool])], [some (.cells [.ptr 1 0] 74), some (.cells [.sl 4, .mp 3] 126), none, some (.map 124 .str (.int .i64)), some (.lst 5 (.int .u8))]⟩, raw := Bool × (List (ByteArray × Int)) × List Int, ret := fun y => (((y.1, ()), ()), (((), ()), ((), (), ()), y.2.1, y.2.2, ())), un := fun z => (z.1.1.1, z.2.2.2.1, z.2.2.2.2.1) },
  { e := .exit 0, n := ⟨[1, 2], [(false, [.k (.int .i64)]), (false, [.k (.int .i64)])], [some (.cells [.ptr 1 0] 74), some (.cells [.sl 4, .mp 3] 126), none, some (.map 124 .str (.int .i64)), some (.lst 5 (.int .u8))]⟩, raw := Int × Int × (List (ByteArray × Int)) × List Int, ret := fun y => (((y.1, ()), (y.2.1, ()), ()), (((), ()), ((), (), ()), y.2.2.1, y.2.2.2, ())), un := fun z => (z.1.1.1, z.1.2.1.1, z.2.2.2.1, z.2.2.2.2.1) }]
noncomputable def g91v2.m2 (k : Nat) (x : g91v2.n2.X) : Option (SumR g91v2.x2) := g91v2.l2 k x.1.1.1 x.1.2.1.1 x.1.2.2.1.1 x.1.2.2.2.2.1.1 x.1.2.2.2.2.2.1.1 x.1.2.2.2.2.2.2.1.1 x.2.2.2.1 x.2.2.2.2.1
noncomputable def g91v2.L2 : LSpec := { id := 2, n := g91v2.n2, exits := g91v2.x2, sem := g91v2.m2 9223372036854775808 }
theorem g91v2.e2 : ∀ k x, g91v2.m2 (k + 1) x = roundS Try.prog kap g91v2.G [] (loopAt Try.f91 2) 43 4 g91v2.n2 g91v2.x2 (g91v2.m2 k) x := fun k x => by kernel_rfl
theorem g91v2.k2 : LOk Try.prog 4 43 g91v2.L2 (loopAt Try.f91 2) := LOk.of (κ := kap) (l := g91v2.L2) g91v2.G_ok follows (L := []) (lam_by (fn := Try.f91) (by kernel_rfl) lamAll_nil) g91v2.m2 (unAll_cons (fun _ => rfl) (unAll_cons (fun _ => rfl) unAll_nil)) (fun _ => rfl) g91v2.e2 9223372036854775808 rfl
noncomputable def g91v2.f (b0 : ByteArray) (b1 : Int) (b2 : Int) (b3 : Int) (b4 : List Int) (b5 : List (ByteArray × Int)) : Option (Bool × (List (ByteArray × Int)) × List Int) :=
  (g103.f b3).bind fun (y1 : List Int) =>
  (g91v2.l2 9223372036854775808 b0 b1 b2 y1 (nz y1.length) 0 b5 b4).bind fun (y5 : (Bool × (List (ByteArray × Int)) × List Int) ⊕ (Int × Int × (List (ByteArray × Int)) × List Int)) =>
  (match y5 with
  | .inl y6 => some y6
  | .inr y7 => some (decide (y7.1 = y7.2.1), y7.2.2))
noncomputable def g91v2.sp : FSpec := { f := 91, ins := [(false, [.k .str]), (false, [.k (.int .i64)]), (false, [.k (.int .i64)]), (false, [.k (.int .i64)]), (false, [.clo 109 [0]])], inE := [some (.cells [.ptr 1 0] 74), some (.cells [.sl 2, .mp 3] 126), some (.lst 5 (.int .u8)), some (.map 124 .str (.int .i64))], outs := [(false, [.k .bool])], outE := [some (.cells [.ptr 1 0] 74), some (.cells [.sl 4, .mp 3] 126), none, some (.map 124 .str (.int .i64)), some (.lst 5 (.int .u8))], raw := Bool × (List (ByteArray × Int)) × List Int, sem := fun x => g91v2.f x.1.1.1 x.1.2.1.1 x.1.2.2.1.1 x.1.2.2.2.1.1 x.2.2.2.1 x.2.2.2.2.1, ret := fun y => (((y.1, ()), ()), (((), ()), ((), (), ()), y.2.1, y.2.2, ())) }
theorem g91v2.ok : FOk Try.prog g91v2.sp := fn_ok (κ := kap) g91v2.G_ok follows (L := [g91v2.L2]) (fn := Try.f91) (c := bodyOf Try.f91) rfl (by decide) rfl (lam_by (fn := Try.f91) (by kernel_rfl) (lamAll_cons g91v2.k2 lamAll_nil)) (un := fun z => (z.1.1.1, z.2.2.2.1, z.2.2.2.2.1)) (fun _ => rfl) (by decide) (fun x => by kernel_rfl)
/-! ### beadroll/rdata.Write -/
noncomputable def g100.G : List FSpec := [g85.sp, g91v2.sp]
theorem g100.G_ok : ∀ sp ∈ g100.G, FOk Try.prog sp := allOk_cons g85.ok (allOk_cons g91v2.ok allOk_nil)
noncomputable def g100.f (b0 : Int) (b1 : ByteArray) (b2 : List Int) (b3 : List (ByteArray × Int)) : Option (Int × (List (ByteArray × Int)) × List Int) :=
  (g85.f b0 b1).bind fun (y1 : Bool) =>
  if (!y1) = true then some (2, b3, b2)
  else (g91v2.f b1 0 (nz b1.size) b0 b2 b3).bind fun (y2 : Bool × (List (ByteArray × Int)) × List Int) =>
  some (0, y2.2)
noncomputable def g100.sp : FSpec := { f := 100, ins := [(false, [.ptr 0 0]), (false, [.k (.int .i64)]), (false, [.k .str])], inE := [some (.cells [.sl 1, .mp 2] 126), some (.lst 5 (.int .u8)), some (.map 124 .str (.int .i64))], outs := [(false, [.k (.int .i64)])], outE := [some (.cells [.sl 3, .mp 2] 126), none, some (.map 124 .str (.int .i64)), some (.lst 5 (.int .u8))], raw := Int × (List (ByteArray × Int)) × List Int, sem := fun x => g100.f x.1.2.1.1 x.1.2.2.1.1 x.2.2.1 x.2.2.2.1, ret := fun y => (((y.1, ()), ()), (((), (), ()), y.2.1, y.2.2, ())) }
theorem g100.ok : FOk Try.prog g100.sp := fn_ok (κ := kap) g100.G_ok follows (L := []) (fn := Try.f100) (c := bodyOf Try.f100) rfl (by decide) rfl (lam_by (fn := Try.f100) (by kernel_rfl) lamAll_nil) (un := fun z => (z.1.1.1, z.2.2.1, z.2.2.2.1)) (fun _ => rfl) (by decide) (fun x => by kernel_rfl)
/-! ### beadroll/record.data -/
noncomputable def g82.G : List FSpec := [g62.sp, g100.sp, g39.sp]
theorem g82.G_ok : ∀ sp ∈ g82.G, FOk Try.prog sp := allOk_cons g62.ok (allOk_cons g100.ok (allOk_cons g39.ok allOk_nil))
noncomputable def g82.f (b0 : ByteArray × Int × Int × Int × ByteArray) (b1 : List Int) (b2 : List (ByteArray × Int)) : Option ((List (ByteArray × Int)) × List Int) :=
  (g62.f b0).bind fun (y1 : Bool) =>
  if y1 = true then ((g100.f b0.2.1 b0.2.2.2.2 b1 b2).bind fun (y2 : Int × (List (ByteArray × Int)) × List Int) =>
   some y2.2)
  else (g39.f b0.2.2.2.2 b1 b2).bind fun (y3 : (List (ByteArray × Int)) × List Int) =>
  some y3
noncomputable def g82.sp : FSpec := { f := 82, ins := [(false, [.ptr 0 0]), (true, [.k (.pair .str (.pair (.int .i64) (.pair (.int .i64) (.pair (.int .i64) .str))))])], inE := [some (.cells [.sl 1, .mp 2] 126), some (.lst 5 (.int .u8)), some (.map 124 .str (.int .i64))], outs := [], outE := [some (.cells [.sl 3, .mp 2] 126), none, some (.map 124 .str (.int .i64)), some (.lst 5 (.int .u8))], raw := (List (ByteArray × Int)) × List Int, sem := fun x => g82.f x.1.2.1.1 x.2.2.1 x.2.2.2.1, ret := fun y => ((), (((), (), ()), y.1, y.2, ())) }
theorem g82.ok : FOk Try.prog g82.sp := fn_ok (κ := kap) g82.G_ok follows (L := []) (fn := Try.f82) (c := bodyOf Try.f82) rfl (by decide) rfl (lam_by (fn := Try.f82) (by kernel_rfl) lamAll_nil) (un := fun z => (z.2.2.1, z.2.2.2.1)) (fun _ => rfl) (by decide) (fun x => by kernel_rfl)
/-! ### beadroll/record.Write -/
noncomputable def g43.G : List FSpec := [g50.sp, g40.sp, g81.sp, g39.sp, g42.sp, g82.sp, g33.sp]
theorem g43.G_ok : ∀ sp ∈ g43.G, FOk Try.prog sp := allOk_cons g50.ok (allOk_cons g40.ok (allOk_cons g81.ok (allOk_cons g39.ok (allOk_cons g42.ok (allOk_cons g82.ok (allOk_cons g33.ok allOk_nil))))))
noncomputable def g43.f (b0 : ByteArray × Int × Int × Int × ByteArray) (b1 : List Int) (b2 : List (ByteArray × Int)) : Option (Int × (List (ByteArray × Int)) × List Int) :=
  (g50.f b0).bind fun (y1 : Bool) =>
  if (!y1) = true then some (2, b2, b1)
  else (g40.f b0.1 true b1 b2).bind fun (y2 : Int × (List (ByteArray × Int)) × List Int) =>
  (g81.f y2.2.2 y2.2.1).bind fun (y3 : List Int × (List (ByteArray × Int)) × List Int × (List (ByteArray × Int))) =>
  (g39.f (⟨#[0, 0, 0, 0, 0, 0, 0, 0, 0, 0]⟩ : ByteArray) y3.2.2.1 y3.2.2.2).bind fun (y4 : (List (ByteArray × Int)) × List Int) =>
  (g42.f y4.2 y4.1).bind fun (y5 : Int × (List (ByteArray × Int)) × List Int) =>
  (g82.f b0 y5.2.2 y5.2.1).bind fun (y6 : (List (ByteArray × Int)) × List Int) =>
  (g42.f y6.2 y6.1).bind fun (y7 : Int × (List (ByteArray × Int)) × List Int) =>
  (g33.f ([IntKind.wrap .u64 b0.2.1, IntKind.wrap .u64 b0.2.2.1, IntKind.wrap .u64 b0.2.2.2.1, IntKind.wrap .u64 (wrap64 (y7.1 - y5.1))] : List Int) ([2, 2, 4, 2] : List Int)).bind fun (y8 : ByteArray × Int) =>
  (g39.f y8.1 y3.1 y3.2.1).bind fun (y9 : (List (ByteArray × Int)) × List Int) =>
  (g82.f b0 y9.2 y9.1).bind fun (y10 : (List (ByteArray × Int)) × List Int) =>
  some (0, y10)
noncomputable def g43.sp : FSpec := { f := 43, ins := [(false, [.ptr 0 0]), (true, [.k (.pair .str (.pair (.int .i64) (.pair (.int .i64) (.pair (.int .i64) .str))))])], inE := [some (.cells [.sl 1, .mp 2] 126), some (.lst 5 (.int .u8)), some (.map 124 .str (.int .i64))], outs := [(false, [.k (.int .i64)])], outE := [some (.cells [.sl 3, .mp 2] 126), none, some (.map 124 .str (.int .i64)), some (.lst 5 (.int .u8))], raw := Int × (List (ByteArray × Int)) × List Int, sem := fun x => g43.f x.1.2.1.1 x.2.2.1 x.2.2.2.1, ret := fun y => (((y.1, ()), ()), (((), (), ()), y.2.1, y.2.2, ())) }
theorem g43.ok : FOk Try.prog g43.sp := fn_ok (κ := kap) g43.G_ok follows (L := []) (fn := Try.f43) (c := bodyOf Try.f43) rfl (by decide) rfl (lam_by (fn := Try.f43) (by kernel_rfl) lamAll_nil) (un := fun z => (z.1.1.1, z.2.2.1, z.2.2.2.1)) (fun _ => rfl) (by decide) (fun x => by kernel_rfl)
/-! ### (*beadroll/pack.Packer).Bytes -/
noncomputable def g44.G : List FSpec := []
theorem g44.G_ok : ∀ sp ∈ g44.G, FOk Try.prog sp := allOk_nil
noncomputable def g44.f (b0 : List Int) (b1 : List (ByteArray × Int)) : Option (ByteArray × (List (ByteArray × Int)) × List Int) :=
  some (bytesStr b0, b1, b0)
noncomputable def g44.sp : FSpec := { f := 44, ins := [(false, [.ptr 0 0])], inE := [some (.cells [.sl 1, .mp 2] 126), some (.lst 5 (.int .u8)), some (.map 124 .str (.int .i64))], outs := [(false, [.k .str])], outE := [some (.cells [.sl 3, .mp 2] 126), none, some (.map 124 .str (.int .i64)), some (.lst 5 (.int .u8))], raw := ByteArray × (List (ByteArray × Int)) × List Int, sem := fun x => g44.f x.2.2.1 x.2.2.2.1, ret := fun y => (((y.1, ()), ()), (((), (), ()), y.2.1, y.2.2, ())) }
theorem g44.ok : FOk Try.prog g44.sp := fn_ok (κ := kap) g44.G_ok follows (L := []) (fn := Try.f44) (c := bodyOf Try.f44) rfl (by decide) rfl (lam_by (fn := Try.f44) (by kernel_rfl) lamAll_nil) (un := fun z => (z.1.1.1, z.2.2.1, z.2.2.2.1)) (fun _ => rfl) (by decide) (fun x => by kernel_rfl)
/-! ### beadroll/entry.Own -/
noncomputable def g70.G : List FSpec := [g37.sp, g43.sp, g44.sp]
theorem g70.G_ok : ∀ sp ∈ g70.G, FOk Try.prog sp := allOk_cons g37.ok (allOk_cons g43.ok (allOk_cons g44.ok allOk_nil))
noncomputable def g70.f (b0 : ByteArray × Int × Int × Int × ByteArray) : Option (ByteArray × Int) :=
  (g37.f).bind fun (y1 : List Int × (List (ByteArray × Int))) =>
  (g43.f b0 y1.1 y1.2).bind fun (y2 : Int × (List (ByteArray × Int)) × List Int) =>
  if y2.1 = 0 then ((g44.f y2.2.2 y2.2.1).bind fun (y3 : ByteArray × (List (ByteArray × Int)) × List Int) =>
   some (y3.1, 0))
  else some ((⟨#[]⟩ : ByteArray), y2.1)
noncomputable def g70.sp : FSpec := { f := 70, ins := [(true, [.k (.pair .str (.pair (.int .i64) (.pair (.int .i64) (.pair (.int .i64) .str))))])], inE := [], outs := [(false, [.k .str]), (false, [.k (.int .i64)])], outE := [], raw := ByteArray × Int, sem := fun x => g70.f x.1.1.1, ret := fun y => (((y.1, ()), (y.2, ()), ()), ()) }
theorem g70.ok : FOk Try.prog g70.sp := fn_ok (κ := kap) g70.G_ok follows (L := []) (fn := Try.f70) (c := bodyOf Try.f70) rfl (by decide) rfl (lam_by (fn := Try.f70) (by kernel_rfl) lamAll_nil) (un := fun z => (z.1.1.1, z.1.2.1.1)) (fun _ => rfl) (by decide) (fun x => by kernel_rfl)
/-! ### slices.Grow[[]beadroll/api.RR,beadroll/api.RR] -/
noncomputable def g74.G : List FSpec := []
theorem g74.G_ok : ∀ sp ∈ g74.G, FOk Try.prog sp := allOk_nil
noncomputable def g74.f (b0 : Int) : Option (List (ByteArray × Int × Int × Int × ByteArray)) :=
  if b0 < 0 then none
  else if (0 : Int) < (wrap64 (b0 - 0)) then (if 0 < (wrap64 (b0 - 0)) then if (wrap64 (b0 - 0)) ≤ room Try.prog 63 then if (0 : Int) ≤ (nz ((List.replicate (wrap64 (b0 - 0)).toNat ((⟨#[]⟩ : ByteArray), 0, 0, 0, (⟨#[]⟩ : ByteArray)) : List (ByteArray × Int × Int × Int × ByteArray)).length)) then some ((List.replicate (wrap64 (b0 - 0)).toNat ((⟨#[]⟩ : ByteArray), 0, 0, 0, (⟨#[]⟩ : ByteArray)) : List (ByteArray × Int × Int × Int × ByteArray)).take 0) else none
   else none
   else none)
  else some ([] : List (ByteArray × Int × Int × Int × ByteArray))
noncomputable def g74.sp : FSpec := { f := 74, ins := [(false, [.cn]), (false, [.k (.int .i64)])], inE := [], outs := [(false, [.sl 0])], outE := [some (.lst 63 (.pair .str (.pair (.int .i64) (.pair (.int .i64) (.pair (.int .i64) .str)))))], raw := (List (ByteArray × Int × Int × Int × ByteArray)), sem := fun x => g74.f x.1.2.1.1, ret := fun y => ((((), ()), ()), (y, ())) }
theorem g74.ok : FOk Try.prog g74.sp := fn_ok (κ := kap) g74.G_ok follows (L := []) (fn := Try.f74) (c := bodyOf Try.f74) rfl (by decide) rfl (lam_by (fn := Try.f74) (by kernel_rfl) lamAll_nil) (un := fun z => z.2.1) (fun _ => rfl) (by decide) (fun x => by kernel_rfl)
/-! ### slices.Concat[[]beadroll/api.RR,beadroll/api.RR] -/
noncomputable def g32.G : List FSpec := [g74.sp]
theorem g32.G_ok : ∀ sp ∈ g32.G, FOk Try.prog sp := allOk_cons g74.ok allOk_nil
noncomputable def g32.s3 (again : List (List (ByteArray × Int × Int × Int × ByteArray)) → Int → List (List (ByteArray × Int × Int × Int × ByteArray)) → Int → Int → Option ((List (List (ByteArray × Int × Int × Int × ByteArray))) × Int)) (a0 : List (List (ByteArray × Int × Int × Int × ByteArray))) (a1 : Int) (a2 : List (List (ByteArray × Int × Int × Int × ByteArray))) (a3 : Int) (a4 : Int) : Option ((List (List (ByteArray × Int × Int × Int × ByteArray))) × Int) :=
  if a4 < a3 then (if 0 ≤ a4 then if a4 < nz a2.length then (match a2[a4.toNat]? with
   | some x1 => if (wrap64 (a1 + (nz x1.length))) < 0 then none
    else again a0 (wrap64 (a1 + (nz x1.length))) a2 a3 (wrap64 (a4 + 1))
   | none => none)
   else none
   else none)
  else some (a0, a1)
noncomputable def g32.l3 : Nat → List (List (ByteArray × Int × Int × Int × ByteArray)) → Int → List (List (ByteArray × Int × Int × Int × ByteArray)) → Int → Int → Option ((List (List (ByteArray × Int × Int × Int × ByteArray))) × Int)
  | 0, _, _, _, _, _ => none
  | k + 1, a0, a1, a2, a3, a4 => g32.s3 (g32.l3 k) a0 a1 a2 a3 a4
def g32.n3 : Norm := ⟨[0, 3, 9, 10, 11], [(false, [.k (.list 24 (.list 63 (.pair .str (.pair (.int .i64) (.pair (.int .i64) (.pair (.int .i64) .str))))))]), (false, [.k (.int .i64)]), (false, [.k (.list 24 (.list 63 (.pair .str (.pair (.int .i64) (.pair (.int .i64) (.pair (.int .i64) .str))))))]), (false, [.k (.int .i64)]), (false, [.k (.int .i64)])], []⟩
def g32.x3 : List ExitS := [{ e := .exit 0, n := ⟨[0, 3], [(false, [.k (.list 24 (.list 63 (.pair .str (.pair (.int .i64) (.pair (.int .i64) (.pair (.int .i64) .str))))))]), (false, [.k (.int .i64)])], []⟩, raw := (List (List (ByteArray × Int × Int × Int × ByteArray))) × Int, ret := fun y => (((y.1, ()), (y.2, ()), ()), ()), un := fun z => (z.1.1.1, z.1.2.1.1) }]
noncomputable def g32.m3 (k : Nat) (x : g32.n3.X) : Option (SumR g32.x3) := g32.l3 k x.1.1.1 x.1.2.1.1 x.1.2.2.1.1 x.1.2.2.2.1.1 x.1.2.2.2.2.1.1
noncomputable def g32.L3 : LSpec := { id := 3, n := g32.n3, exits := g32.x3, sem := g32.m3 9223372036854775808 }
theorem g32.e3 : ∀ k x, g32.m3 (k + 1) x = roundS Try.prog kap g32.G [] (loopAt Try.f32 3) 36 0 g32.n3 g32.x3 (g32.m3 k) x := fun k x => by kernel_rfl
theorem g32.k3 : LOk Try.prog 0 36 g32.L3 (loopAt Try.f32 3) := LOk.of (κ := kap) (l := g32.L3) g32.G_ok follows (L := []) (lam_by (fn := Try.f32) (by kernel_rfl) lamAll_nil) g32.m3 (unAll_cons (fun _ => rfl) unAll_nil) (fun _ => rfl) g32.e3 9223372036854775808 rfl
noncomputable def g32.s11 (again : List (List (ByteArray × Int × Int × Int × ByteArray)) → Int → Int → List (ByteArray × Int × Int × Int × ByteArray) → Option (List (ByteArray × Int × Int × Int × ByteArray))) (a0 : List (List (ByteArray × Int × Int × Int × ByteArray))) (a1 : Int) (a2 : Int) (a3 : List (ByteArray × Int × Int × Int × ByteArray)) : Option (List (ByteArray × Int × Int × Int × ByteArray)) :=
  if a2 < a1 then (if 0 ≤ a2 then if a2 < nz a0.length then (match a0[a2.toNat]? with
   | some x4 => if nz a3.length + nz x4.length ≤ room Try.prog 63 then again a0 a1 (wrap64 (a2 + 1)) (a3 ++ x4) else none
   | none => none)
   else none
   else none)
  else some a3
noncomputable def g32.l11 : Nat → List (List (ByteArray × Int × Int × Int × ByteArray)) → Int → Int → List (ByteArray × Int × Int × Int × ByteArray) → Option (List (ByteArray × Int × Int × Int × ByteArray))
  | 0, _, _, _, _ => none
  | k + 1, a0, a1, a2, a3 => g32.s11 (g32.l11 k) a0 a1 a2 a3
def g32.n11 : Norm := ⟨[6, 25, 26, 27], [(false, [.sl 0]), (false, [.k (.list 24 (.list 63 (.pair .str (.pair (.int .i64) (.pair (.int .i64) (.pair (.int .i64) .str))))))]), (false, [.k (.int .i64)]), (false, [.k (.int .i64)])], [some (.lst 63 (.pair .str (.pair (.int .i64) (.pair (.int .i64) (.pair (.int .i64) .str)))))]⟩
def g32.x11 : List ExitS := [{ e := .exit 2, n := ⟨[6], [(false, [.sl 0])], [some (.lst 63 (.pair .str (.pair (.int .i64) (.pair (.int .i64) (.pair (.int .i64) .str)))))]⟩, raw := (List (ByteArray × Int × Int × Int × ByteArray)), ret := fun y => ((((), ()), ()), (y, ())), un := fun z => z.2.1 }]
noncomputable def g32.m11 (k : Nat) (x : g32.n11.X) : Option (SumR g32.x11) := g32.l11 k x.1.2.1.1 x.1.2.2.1.1 x.1.2.2.2.1.1 x.2.1
noncomputable def g32.L11 : LSpec := { id := 11, n := g32.n11, exits := g32.x11, sem := g32.m11 9223372036854775808 }
theorem g32.e11 : ∀ k x, g32.m11 (k + 1) x = roundS Try.prog kap g32.G [] (loopAt Try.f32 11) 36 0 g32.n11 g32.x11 (g32.m11 k) x := fun k x => by kernel_rfl
theorem g32.k11 : LOk Try.prog 0 36 g32.L11 (loopAt Try.f32 11) := LOk.of (κ := kap) (l := g32.L11) g32.G_ok follows (L := []) (lam_by (fn := Try.f32) (by kernel_rfl) lamAll_nil) g32.m11 (unAll_cons (fun _ => rfl) unAll_nil) (fun _ => rfl) g32.e11 9223372036854775808 rfl
noncomputable def g32.f (b0 : List (List (ByteArray × Int × Int × Int × ByteArray))) : Option (List (ByteArray × Int × Int × Int × ByteArray)) :=
  (g32.l3 9223372036854775808 b0 0 b0 (nz b0.length) 0).bind fun (y2 : ((List (List (ByteArray × Int × Int × Int × ByteArray))) × Int)) =>
  (g74.f y2.2).bind fun (y3 : (List (ByteArray × Int × Int × Int × ByteArray))) =>
  (g32.l11 9223372036854775808 y2.1 (nz y2.1.length) 0 y3).bind fun (y5 : (List (ByteArray × Int × Int × Int × ByteArray))) =>
  some y5
noncomputable def g32.sp : FSpec := { f := 32, ins := [(false, [.k (.list 24 (.list 63 (.pair .str (.pair (.int .i64) (.pair (.int .i64) (.pair (.int .i64) .str))))))])], inE := [], outs := [(false, [.k (.list 63 (.pair .str (.pair (.int .i64) (.pair (.int .i64) (.pair (.int .i64) .str)))))])], outE := [], raw := (List (ByteArray × Int × Int × Int × ByteArray)), sem := fun x => g32.f x.1.1.1, ret := fun y => (((y, ()), ()), ()) }
theorem g32.ok : FOk Try.prog g32.sp := fn_ok (κ := kap) g32.G_ok follows (L := [g32.L3, g32.L11]) (fn := Try.f32) (c := bodyOf Try.f32) rfl (by decide) rfl (lam_by (fn := Try.f32) (by kernel_rfl) (lamAll_cons g32.k3 (lamAll_cons g32.k11 lamAll_nil))) (un := fun z => z.1.1.1) (fun _ => rfl) (by decide) (fun x => by kernel_rfl)
/-! ### beadroll/octets.Piece -/
noncomputable def g71.G : List FSpec := [g58.sp, g75.sp, g76.sp]
theorem g71.G_ok : ∀ sp ∈ g71.G, FOk Try.prog sp := allOk_cons g58.ok (allOk_cons g75.ok (allOk_cons g76.ok allOk_nil))
noncomputable def g71.f (b0 : ByteArray) (b1 : Int) : Option (ByteArray × Int) :=
  (g58.f b1).bind fun (y1 : Bool) =>
  if (!y1) = true then some ((⟨#[]⟩ : ByteArray), 1)
  else (g75.f b1).bind fun (y2 : Int) =>
  if y2 < (IntKind.wrap .u64 (nz b0.size)) then some ((⟨#[]⟩ : ByteArray), 3)
  else (g76.f (IntKind.wrap .u64 (nz b0.size)) b1).bind fun (y3 : List Int) =>
  if (nz ((bytesStr y3).size)) + (nz b0.size) ≤ 9223372036854775807 then some ((bytesStr y3) ++ b0, 0) else none
noncomputable def g71.sp : FSpec := { f := 71, ins := [(false, [.k .str]), (false, [.k (.int .i64)])], inE := [], outs := [(false, [.k .str]), (false, [.k (.int .i64)])], outE := [], raw := ByteArray × Int, sem := fun x => g71.f x.1.1.1 x.1.2.1.1, ret := fun y => (((y.1, ()), (y.2, ()), ()), ()) }
theorem g71.ok : FOk Try.prog g71.sp := fn_ok (κ := kap) g71.G_ok follows (L := []) (fn := Try.f71) (c := bodyOf Try.f71) rfl (by decide) rfl (lam_by (fn := Try.f71) (by kernel_rfl) lamAll_nil) (un := fun z => (z.1.1.1, z.1.2.1.1)) (fun _ => rfl) (by decide) (fun x => by kernel_rfl)
/-! ### beadroll/entry.pieces -/
noncomputable def g31.G : List FSpec := [g70.sp, g71.sp, g72.sp, g73.sp]
theorem g31.G_ok : ∀ sp ∈ g31.G, FOk Try.prog sp := allOk_cons g70.ok (allOk_cons g71.ok (allOk_cons g72.ok (allOk_cons g73.ok allOk_nil)))
noncomputable def g31.s3 (again : List (ByteArray × Int × Int × Int × ByteArray) → Int → Int → List Int → Option ((ByteArray × Int) ⊕ List Int)) (a0 : List (ByteArray × Int × Int × Int × ByteArray)) (a1 : Int) (a2 : Int) (a3 : List Int) : Option ((ByteArray × Int) ⊕ List Int) :=
  if a2 < a1 then (if 0 ≤ a2 then if a2 < nz a0.length then (match a0[a2.toNat]? with
   | some x1 => (g70.f x1).bind fun (y2 : ByteArray × Int) =>
    if y2.2 = 0 then ((g71.f y2.1 4).bind fun (y3 : ByteArray × Int) =>
     (g72.f y3.1 a3).bind fun (y4 : Int × List Int) =>
     again a0 a1 (wrap64 (a2 + 1)) y4.2)
    else some (.inl ((⟨#[]⟩ : ByteArray), y2.2))
   | none => none)
   else none
   else none)
  else some (.inr a3)
noncomputable def g31.l3 : Nat → List (ByteArray × Int × Int × Int × ByteArray) → Int → Int → List Int → Option ((ByteArray × Int) ⊕ List Int)
  | 0, _, _, _, _ => none
  | k + 1, a0, a1, a2, a3 => g31.s3 (g31.l3 k) a0 a1 a2 a3
def g31.n3 : Norm := ⟨[4, 11, 12, 13], [(false, [.ptr 0 0]), (false, [.k (.list 63 (.pair .str (.pair (.int .i64) (.pair (.int .i64) (.pair (.int .i64) .str)))))]), (false, [.k (.int .i64)]), (false, [.k (.int .i64)])], [some (.cells [.np 0, .sl 1] 112), some (.lst 5 (.int .u8))]⟩
def g31.x3 : List ExitS := [{ e := .ret, n := ⟨[2, 3], [(false, [.k .str]), (false, [.k (.int .i64)])], []⟩, raw := ByteArray × Int, ret := fun y => (((y.1, ()), (y.2, ()), ()), ()), un := fun z => (z.1.1.1, z.1.2.1.1) },
  { e := .exit 0, n := ⟨[4], [(false, [.ptr 0 0])], [some (.cells [.np 0, .sl 1] 112), some (.lst 5 (.int .u8))]⟩, raw := List Int, ret := fun y => ((((), ()), ()), (((), (), ()), y, ())), un := fun z => z.2.2.1 }]
noncomputable def g31.m3 (k : Nat) (x : g31.n3.X) : Option (SumR g31.x3) := g31.l3 k x.1.2.1.1 x.1.2.2.1.1 x.1.2.2.2.1.1 x.2.2.1
noncomputable def g31.L3 : LSpec := { id := 3, n := g31.n3, exits := g31.x3, sem := g31.m3 9223372036854775808 }
theorem g31.e3 : ∀ k x, g31.m3 (k + 1) x = roundS Try.prog kap g31.G [] (loopAt Try.f31 3) 34 0 g31.n3 g31.x3 (g31.m3 k) x := fun k x => by kernel_rfl
theorem g31.k3 : LOk Try.prog 0 34 g31.L3 (loopAt Try.f31 3) := LOk.of (κ := kap) (l := g31.L3) g31.G_ok follows (L := []) (lam_by (fn := Try.f31) (by kernel_rfl) lamAll_nil) g31.m3 (unAll_cons (fun _ => rfl) (unAll_cons (fun _ => rfl) unAll_nil)) (fun _ => rfl) g31.e3 9223372036854775808 rfl
noncomputable def g31.f (b0 : List (ByteArray × Int × Int × Int × ByteArray)) : Option (ByteArray × Int) :=
  (g31.l3 9223372036854775808 b0 (nz b0.length) 0 ([] : List Int)).bind fun (y5 : (ByteArray × Int) ⊕ List Int) =>
  (match y5 with
  | .inl y6 => some y6
  | .inr y7 => (g73.f y7).bind fun (y8 : ByteArray) =>
   some (y8, 0))
noncomputable def g31.sp : FSpec := { f := 31, ins := [(false, [.k (.list 63 (.pair .str (.pair (.int .i64) (.pair (.int .i64) (.pair (.int .i64) .str)))))])], inE := [], outs := [(false, [.k .str]), (false, [.k (.int .i64)])], outE := [], raw := ByteArray × Int, sem := fun x => g31.f x.1.1.1, ret := fun y => (((y.1, ()), (y.2, ()), ()), ()) }
theorem g31.ok : FOk Try.prog g31.sp := fn_ok (κ := kap) g31.G_ok follows (L := [g31.L3]) (fn := Try.f31) (c := bodyOf Try.f31) rfl (by decide) rfl (lam_by (fn := Try.f31) (by kernel_rfl) (lamAll_cons g31.k3 lamAll_nil)) (un := fun z => (z.1.1.1, z.1.2.1.1)) (fun _ => rfl) (by decide) (fun x => by kernel_rfl)
/-! ### beadroll/entry.Bytes -/
noncomputable def g16.G : List FSpec := [g32.sp, g31.sp, g33.sp]
theorem g16.G_ok : ∀ sp ∈ g16.G, FOk Try.prog sp := allOk_cons g32.ok (allOk_cons g31.ok (allOk_cons g33.ok allOk_nil))
noncomputable def g16.f (b0 : Int × Int × List (ByteArray × Int × Int × Int × ByteArray) × List (ByteArray × Int × Int × Int × ByteArray)) : Option (ByteArray × Int) :=
  if (65536 : Int) < (nz b0.2.2.1.length) then some ((⟨#[]⟩ : ByteArray), 2)
  else if (65536 : Int) < (nz b0.2.2.2.length) then some ((⟨#[]⟩ : ByteArray), 2)
  else (g32.f ([b0.2.2.1, b0.2.2.2] : List (List (ByteArray × Int × Int × Int × ByteArray)))).bind fun (y1 : (List (ByteArray × Int × Int × Int × ByteArray))) =>
  (g31.f y1).bind fun (y2 : ByteArray × Int) =>
  if y2.2 = 0 then ((g33.f ([IntKind.wrap .u64 b0.1, IntKind.wrap .u64 b0.2.1, IntKind.wrap .u64 (nz b0.2.2.1.length)] : List Int) ([4, 4, 4] : List Int)).bind fun (y3 : ByteArray × Int) =>
   if (nz y3.1.size) + (nz y2.1.size) ≤ 9223372036854775807 then some (y3.1 ++ y2.1, 0) else none)
  else some ((⟨#[]⟩ : ByteArray), y2.2)
noncomputable def g16.sp : FSpec := { f := 16, ins := [(true, [.k (.pair (.int .u32) (.pair (.int .u32) (.pair (.list 63 (.pair .str (.pair (.int .i64) (.pair (.int .i64) (.pair (.int .i64) .str))))) (.list 63 (.pair .str (.pair (.int .i64) (.pair (.int .i64) (.pair (.int .i64) .str))))))))])], inE := [], outs := [(false, [.k .str]), (false, [.k (.int .i64)])], outE := [], raw := ByteArray × Int, sem := fun x => g16.f x.1.1.1, ret := fun y => (((y.1, ()), (y.2, ()), ()), ()) }
theorem g16.ok : FOk Try.prog g16.sp := fn_ok (κ := kap) g16.G_ok follows (L := []) (fn := Try.f16) (c := bodyOf Try.f16) rfl (by decide) rfl (lam_by (fn := Try.f16) (by kernel_rfl) lamAll_nil) (un := fun z => (z.1.1.1, z.1.2.1.1)) (fun _ => rfl) (by decide) (fun x => by kernel_rfl)
/-! ### beadroll/beadrollref17.Formed -/
noncomputable def g15.G : List FSpec := [g30.sp]
theorem g15.G_ok : ∀ sp ∈ g15.G, FOk Try.prog sp := allOk_cons g30.ok allOk_nil
noncomputable def g15.s2 (again : Int → Int × Int × List (ByteArray × Int × Int × Int × ByteArray) × List (ByteArray × Int × Int × Int × ByteArray) → Option (Bool ⊕ (Int × Int × List (ByteArray × Int × Int × Int × ByteArray) × List (ByteArray × Int × Int × Int × ByteArray)))) (a0 : Int) (a1 : Int × Int × List (ByteArray × Int × Int × Int × ByteArray) × List (ByteArray × Int × Int × Int × ByteArray)) : Option (Bool ⊕ (Int × Int × List (ByteArray × Int × Int × Int × ByteArray) × List (ByteArray × Int × Int × Int × ByteArray))) :=
  if a0 < (nz a1.2.2.1.length) then (if 0 ≤ a0 then if a0 < nz a1.2.2.1.length then (match a1.2.2.1[a0.toNat]? with
   | some x1 => (g30.f x1).bind fun (y2 : Bool) =>
    if (!y2) = true then some (.inl false)
    else again (wrap64 (a0 + 1)) a1
   | none => none)
   else none
   else none)
  else some (.inr a1)
noncomputable def g15.l2 : Nat → Int → Int × Int × List (ByteArray × Int × Int × Int × ByteArray) × List (ByteArray × Int × Int × Int × ByteArray) → Option (Bool ⊕ (Int × Int × List (ByteArray × Int × Int × Int × ByteArray) × List (ByteArray × Int × Int × Int × ByteArray)))
  | 0, _, _ => none
  | k + 1, a0, a1 => g15.s2 (g15.l2 k) a0 a1
def g15.n2 : Norm := ⟨[1, 3], [(false, [.ptr 0 0]), (false, [.k (.int .i64)])], [some (.cells [.k (.pair (.int .u32) (.pair (.int .u32) (.pair (.list 63 (.pair .str (.pair (.int .i64) (.pair (.int .i64) (.pair (.int .i64) .str))))) (.list 63 (.pair .str (.pair (.int .i64) (.pair (.int .i64) (.pair (.int .i64) .str))))))))] 26)]⟩
def g15.x2 : List ExitS := [{ e := .ret, n := ⟨[2], [(false, [.k .bool])], []⟩, raw := Bool, ret := fun y => (((y, ()), ()), ()), un := fun z => z.1.1.1 },
  { e := .exit 0, n := ⟨[1], [(false, [.ptr 0 0])], [some (.cells [.k (.pair (.int .u32) (.pair (.int .u32) (.pair (.list 63 (.pair .str (.pair (.int .i64) (.pair (.int .i64) (.pair (.int .i64) .str))))) (.list 63 (.pair .str (.pair (.int .i64) (.pair (.int .i64) (.pair (.int .i64) .str))))))))] 26)]⟩, raw := (Int × Int × List (ByteArray × Int × Int × Int × ByteArray) × List (ByteArray × Int × Int × Int × ByteArray)), ret := fun y => ((((), ()), ()), ((y, ()), ())), un := fun z => z.2.1.1 }]
noncomputable def g15.m2 (k : Nat) (x : g15.n2.X) : Option (SumR g15.x2) := g15.l2 k x.1.2.1.1 x.2.1.1
noncomputable def g15.L2 : LSpec := { id := 2, n := g15.n2, exits := g15.x2, sem := g15.m2 9223372036854775808 }
theorem g15.e2 : ∀ k x, g15.m2 (k + 1) x = roundS Try.prog kap g15.G [] (loopAt Try.f15 2) 33 0 g15.n2 g15.x2 (g15.m2 k) x := fun k x => by kernel_rfl
theorem g15.k2 : LOk Try.prog 0 33 g15.L2 (loopAt Try.f15 2) := LOk.of (κ := kap) (l := g15.L2) g15.G_ok follows (L := []) (lam_by (fn := Try.f15) (by kernel_rfl) lamAll_nil) g15.m2 (unAll_cons (fun _ => rfl) (unAll_cons (fun _ => rfl) unAll_nil)) (fun _ => rfl) g15.e2 9223372036854775808 rfl
noncomputable def g15.s7 (again : Int → Int × Int × List (ByteArray × Int × Int × Int × ByteArray) × List (ByteArray × Int × Int × Int × ByteArray) → Option (Bool ⊕ Unit)) (a0 : Int) (a1 : Int × Int × List (ByteArray × Int × Int × Int × ByteArray) × List (ByteArray × Int × Int × Int × ByteArray)) : Option (Bool ⊕ Unit) :=
  if a0 < (nz a1.2.2.2.length) then (if 0 ≤ a0 then if a0 < nz a1.2.2.2.length then (match a1.2.2.2[a0.toNat]? with
   | some x6 => (g30.f x6).bind fun (y7 : Bool) =>
    if (!y7) = true then some (.inl false)
    else again (wrap64 (a0 + 1)) a1
   | none => none)
   else none
   else none)
  else some (.inr ())
noncomputable def g15.l7 : Nat → Int → Int × Int × List (ByteArray × Int × Int × Int × ByteArray) × List (ByteArray × Int × Int × Int × ByteArray) → Option (Bool ⊕ Unit)
  | 0, _, _ => none
  | k + 1, a0, a1 => g15.s7 (g15.l7 k) a0 a1
def g15.n7 : Norm := ⟨[1, 4], [(false, [.ptr 0 0]), (false, [.k (.int .i64)])], [some (.cells [.k (.pair (.int .u32) (.pair (.int .u32) (.pair (.list 63 (.pair .str (.pair (.int .i64) (.pair (.int .i64) (.pair (.int .i64) .str))))) (.list 63 (.pair .str (.pair (.int .i64) (.pair (.int .i64) (.pair (.int .i64) .str))))))))] 26)]⟩
def g15.x7 : List ExitS := [{ e := .ret, n := ⟨[2], [(false, [.k .bool])], []⟩, raw := Bool, ret := fun y => (((y, ()), ()), ()), un := fun z => z.1.1.1 },
  { e := .exit 2, n := ⟨[], [], []⟩, raw := Unit, ret := fun y => ((), ()), un := fun z => () }]
noncomputable def g15.m7 (k : Nat) (x : g15.n7.X) : Option (SumR g15.x7) := g15.l7 k x.1.2.1.1 x.2.1.1
noncomputable def g15.L7 : LSpec := { id := 7, n := g15.n7, exits := g15.x7, sem := g15.m7 9223372036854775808 }
theorem g15.e7 : ∀ k x, g15.m7 (k + 1) x = roundS Try.prog kap g15.G [] (loopAt Try.f15 7) 33 0 g15.n7 g15.x7 (g15.m7 k) x := fun k x => by kernel_rfl
theorem g15.k7 : LOk Try.prog 0 33 g15.L7 (loopAt Try.f15 7) := LOk.of (κ := kap) (l := g15.L7) g15.G_ok follows (L := []) (lam_by (fn := Try.f15) (by kernel_rfl) lamAll_nil) g15.m7 (unAll_cons (fun _ => rfl) (unAll_cons (fun _ => rfl) unAll_nil)) (fun _ => rfl) g15.e7 9223372036854775808 rfl
noncomputable def g15.f (b0 : Int × Int × List (ByteArray × Int × Int × Int × ByteArray) × List (ByteArray × Int × Int × Int × ByteArray)) : Option Bool :=
  (g15.l2 9223372036854775808 0 b0).bind fun (y3 : Bool ⊕ (Int × Int × List (ByteArray × Int × Int × Int × ByteArray) × List (ByteArray × Int × Int × Int × ByteArray))) =>
  (match y3 with
  | .inl y4 => some y4
  | .inr y5 => (g15.l7 9223372036854775808 0 y5).bind fun (y8 : Bool ⊕ Unit) =>
   (match y8 with
   | .inl y9 => some y9
   | .inr y10 => some true))
noncomputable def g15.sp : FSpec := { f := 15, ins := [(true, [.k (.pair (.int .u32) (.pair (.int .u32) (.pair (.list 63 (.pair .str (.pair (.int .i64) (.pair (.int .i64) (.pair (.int .i64) .str))))) (.list 63 (.pair .str (.pair (.int .i64) (.pair (.int .i64) (.pair (.int .i64) .str))))))))])], inE := [], outs := [(false, [.k .bool])], outE := [], raw := Bool, sem := fun x => g15.f x.1.1.1, ret := fun y => (((y, ()), ()), ()) }
theorem g15.ok : FOk Try.prog g15.sp := fn_ok (κ := kap) g15.G_ok follows (L := [g15.L2, g15.L7]) (fn := Try.f15) (c := bodyOf Try.f15) rfl (by decide) rfl (lam_by (fn := Try.f15) (by kernel_rfl) (lamAll_cons g15.k2 (lamAll_cons g15.k7 lamAll_nil))) (un := fun z => z.1.1.1) (fun _ => rfl) (by decide) (fun x => by kernel_rfl)
/-! ### beadroll/beadrollref17.Few -/
noncomputable def g14.G : List FSpec := []
theorem g14.G_ok : ∀ sp ∈ g14.G, FOk Try.prog sp := allOk_nil
noncomputable def g14.s3 (again : Int → List (ByteArray × Int × Int × Int × ByteArray) → Option (Bool ⊕ (List (ByteArray × Int × Int × Int × ByteArray)))) (a0 : Int) (a1 : List (ByteArray × Int × Int × Int × ByteArray)) : Option (Bool ⊕ (List (ByteArray × Int × Int × Int × ByteArray))) :=
  if a0 < (nz a1.length) then (if 0 ≤ a0 then if a0 < nz a1.length then (match a1[a0.toNat]? with
   | some x1 => if (600 : Int) < (nz x1.1.size) then some (.inl false)
    else if 0 ≤ a0 then if a0 < nz a1.length then (match a1[a0.toNat]? with
    | some x2 => if (2000 : Int) < (nz x2.2.2.2.2.size) then some (.inl false)
     else again (wrap64 (a0 + 1)) a1
    | none => none)
    else none
    else none
   | none => none)
   else none
   else none)
  else some (.inr a1)
noncomputable def g14.l3 : Nat → Int → List (ByteArray × Int × Int × Int × ByteArray) → Option (Bool ⊕ (List (ByteArray × Int × Int × Int × ByteArray)))
  | 0, _, _ => none
  | k + 1, a0, a1 => g14.s3 (g14.l3 k) a0 a1
def g14.n3 : Norm := ⟨[3, 4], [(false, [.sl 0]), (false, [.k (.int .i64)])], [some (.lst 63 (.pair .str (.pair (.int .i64) (.pair (.int .i64) (.pair (.int .i64) .str)))))]⟩
def g14.x3 : List ExitS := [{ e := .ret, n := ⟨[2], [(false, [.k .bool])], []⟩, raw := Bool, ret := fun y => (((y, ()), ()), ()), un := fun z => z.1.1.1 },
  { e := .exit 0, n := ⟨[3], [(false, [.sl 0])], [some (.lst 63 (.pair .str (.pair (.int .i64) (.pair (.int .i64) (.pair (.int .i64) .str)))))]⟩, raw := (List (ByteArray × Int × Int × Int × ByteArray)), ret := fun y => ((((), ()), ()), (y, ())), un := fun z => z.2.1 }]
noncomputable def g14.m3 (k : Nat) (x : g14.n3.X) : Option (SumR g14.x3) := g14.l3 k x.1.2.1.1 x.2.1
noncomputable def g14.L3 : LSpec := { id := 3, n := g14.n3, exits := g14.x3, sem := g14.m3 9223372036854775808 }
theorem g14.e3 : ∀ k x, g14.m3 (k + 1) x = roundS Try.prog kap g14.G [] (loopAt Try.f14 3) 37 0 g14.n3 g14.x3 (g14.m3 k) x := fun k x => by kernel_rfl
theorem g14.k3 : LOk Try.prog 0 37 g14.L3 (loopAt Try.f14 3) := LOk.of (κ := kap) (l := g14.L3) g14.G_ok follows (L := []) (lam_by (fn := Try.f14) (by kernel_rfl) lamAll_nil) g14.m3 (unAll_cons (fun _ => rfl) (unAll_cons (fun _ => rfl) unAll_nil)) (fun _ => rfl) g14.e3 9223372036854775808 rfl
noncomputable def g14.f (b0 : Int × Int × List (ByteArray × Int × Int × Int × ByteArray) × List (ByteArray × Int × Int × Int × ByteArray)) : Option Bool :=
  if nz (([] : List (ByteArray × Int × Int × Int × ByteArray)).length) + nz b0.2.2.1.length ≤ room Try.prog 63 then if nz ((([] : List (ByteArray × Int × Int × Int × ByteArray)) ++ b0.2.2.1).length) + nz b0.2.2.2.length ≤ room Try.prog 63 then (g14.l3 9223372036854775808 0 ((([] : List (ByteArray × Int × Int × Int × ByteArray)) ++ b0.2.2.1) ++ b0.2.2.2)).bind fun (y3 : Bool ⊕ (List (ByteArray × Int × Int × Int × ByteArray))) =>
  (match y3 with
  | .inl y4 => some y4
  | .inr y5 => some (decide ((nz y5.length) ≤ 30)))
  else none
  else none
noncomputable def g14.sp : FSpec := { f := 14, ins := [(true, [.k (.pair (.int .u32) (.pair (.int .u32) (.pair (.list 63 (.pair .str (.pair (.int .i64) (.pair (.int .i64) (.pair (.int .i64) .str))))) (.list 63 (.pair .str (.pair (.int .i64) (.pair (.int .i64) (.pair (.int .i64) .str))))))))])], inE := [], outs := [(false, [.k .bool])], outE := [], raw := Bool, sem := fun x => g14.f x.1.1.1, ret := fun y => (((y, ()), ()), ()) }
theorem g14.ok : FOk Try.prog g14.sp := fn_ok (κ := kap) g14.G_ok follows (L := [g14.L3]) (fn := Try.f14) (c := bodyOf Try.f14) rfl (by decide) rfl (lam_by (fn := Try.f14) (by kernel_rfl) (lamAll_cons g14.k3 lamAll_nil)) (un := fun z => z.1.1.1) (fun _ => rfl) (by decide) (fun x => by kernel_rfl)
/-! ### beadroll/message.within -/
/-! ### (*beadroll/message.Msg).sections -/
/-! ### beadroll/message.Formed$1 -/
/-! ### slices.IndexFunc[[]beadroll/api.RR,beadroll/api.RR] -/
/-! ### slices.ContainsFunc[[]beadroll/api.RR,beadroll/api.RR] -/
/-! ### beadroll/message.asked -/
/-! ### beadroll/message.Formed$2 -/
/-! ### slices.IndexFunc[[]beadroll/api.Question,beadroll/api.Question] -/
/-! ### slices.ContainsFunc[[]beadroll/api.Question,beadroll/api.Question] -/
/-! ### beadroll/message.Formed -/
/-! ### beadroll/message.bit -/
/-! ### (*beadroll/message.Msg).flags -/
/-! ### beadroll/message.Encode -/
/-! ### beadroll/beadrollref12.in -/
/-! ### beadroll/beadrollref12.rights -/
/-! ### beadroll/beadrollref12.Formed -/
/-! ### beadroll/beadrollref12.Few -/
/-! ### beadroll/record.Read -/
noncomputable def g27.G : List FSpec := [g61.sp, g24.sp, g62.sp, g63.sp]
theorem g27.G_ok : ∀ sp ∈ g27.G, FOk Try.prog sp := allOk_cons g61.ok (allOk_cons g24.ok (allOk_cons g62.ok (allOk_cons g63.ok allOk_nil)))
noncomputable def g27.f (b0 : ByteArray) (b1 : Int) : Option ((ByteArray × Int × Int × Int × ByteArray) × Int × Int) :=
  (g61.f b0 b1).bind fun (y1 : ByteArray × Int × Int) =>
  if y1.2.2 = 0 then (if (0 : Int) ≤ y1.2.1 then if y1.2.1 ≤ (nz b0.size) then (g24.f (b0.extract y1.2.1.toNat b0.size) ([2, 2, 4, 2] : List Int)).bind fun (y2 : List Int × ByteArray × Int) =>
   if y2.2.2 = 0 then (if (3 : Int) < nz y2.1.length then (match y2.1[3]? with
    | some x3 => if (IntKind.wrap .u64 (nz y2.2.1.size)) < x3 then some (((⟨#[]⟩ : ByteArray), 0, 0, 0, (⟨#[]⟩ : ByteArray)), 0, 2)
     else if (0 : Int) < nz y2.1.length then (match y2.1[0]? with
     | some x4 => if (1 : Int) < nz y2.1.length then (match y2.1[1]? with
      | some x5 => if (2 : Int) < nz y2.1.length then (match y2.1[2]? with
       | some x6 => if (2147483647 : Int) < (wrap64 x6) then (if (3 : Int) < nz y2.1.length then (match y2.1[3]? with
         | some x7 => if (0 : Int) ≤ (wrap64 ((wrap64 ((nz b0.size) - (nz y2.2.1.size))) + (wrap64 x7))) then if (wrap64 ((wrap64 ((nz b0.size) - (nz y2.2.1.size))) + (wrap64 x7))) ≤ (nz b0.size) then if (0 : Int) ≤ (wrap64 ((nz b0.size) - (nz y2.2.1.size))) then if (wrap64 ((nz b0.size) - (nz y2.2.1.size))) ≤ (wrap64 ((wrap64 ((nz b0.size) - (nz y2.2.1.size))) + (wrap64 x7))) then (g62.f (y1.1, wrap64 x4, wrap64 x5, 0, b0.extract ((wrap64 ((nz b0.size) - (nz y2.2.1.size))).toNat) ((wrap64 ((wrap64 ((nz b0.size) - (nz y2.2.1.size))) + (wrap64 x7))).toNat))).bind fun (y8 : Bool) =>
          if y8 = true then ((g63.f b0 (wrap64 ((nz b0.size) - (nz y2.2.1.size))) (wrap64 x7) (wrap64 x4)).bind fun (y9 : ByteArray × Int) =>
           if y9.2 = 0 then some ((y1.1, wrap64 x4, wrap64 x5, 0, y9.1), wrap64 ((wrap64 ((nz b0.size) - (nz y2.2.1.size))) + (wrap64 x7)), 0)
           else some (((⟨#[]⟩ : ByteArray), 0, 0, 0, (⟨#[]⟩ : ByteArray)), 0, y9.2))
          else some ((y1.1, wrap64 x4, wrap64 x5, 0, b0.extract ((wrap64 ((nz b0.size) - (nz y2.2.1.size))).toNat) ((wrap64 ((wrap64 ((nz b0.size) - (nz y2.2.1.size))) + (wrap64 x7))).toNat)), wrap64 ((wrap64 ((nz b0.size) - (nz y2.2.1.size))) + (wrap64 x7)), 0)
          else none
          else none
          else none
          else none
         | none => none)
         else none)
        else if (3 : Int) < nz y2.1.length then (match y2.1[3]? with
        | some x10 => if (0 : Int) ≤ (wrap64 ((wrap64 ((nz b0.size) - (nz y2.2.1.size))) + (wrap64 x10))) then if (wrap64 ((wrap64 ((nz b0.size) - (nz y2.2.1.size))) + (wrap64 x10))) ≤ (nz b0.size) then if (0 : Int) ≤ (wrap64 ((nz b0.size) - (nz y2.2.1.size))) then if (wrap64 ((nz b0.size) - (nz y2.2.1.size))) ≤ (wrap64 ((wrap64 ((nz b0.size) - (nz y2.2.1.size))) + (wrap64 x10))) then (g62.f (y1.1, wrap64 x4, wrap64 x5, wrap64 x6, b0.extract ((wrap64 ((nz b0.size) - (nz y2.2.1.size))).toNat) ((wrap64 ((wrap64 ((nz b0.size) - (nz y2.2.1.size))) + (wrap64 x10))).toNat))).bind fun (y11 : Bool) =>
         if y11 = true then ((g63.f b0 (wrap64 ((nz b0.size) - (nz y2.2.1.size))) (wrap64 x10) (wrap64 x4)).bind fun (y12 : ByteArray × Int) =>
          if y12.2 = 0 then some ((y1.1, wrap64 x4, wrap64 x5, wrap64 x6, y12.1), wrap64 ((wrap64 ((nz b0.size) - (nz y2.2.1.size))) + (wrap64 x10)), 0)
          else some (((⟨#[]⟩ : ByteArray), 0, 0, 0, (⟨#[]⟩ : ByteArray)), 0, y12.2))
         else some ((y1.1, wrap64 x4, wrap64 x5, wrap64 x6, b0.extract ((wrap64 ((nz b0.size) - (nz y2.2.1.size))).toNat) ((wrap64 ((wrap64 ((nz b0.size) - (nz y2.2.1.size))) + (wrap64 x10))).toNat)), wrap64 ((wrap64 ((nz b0.size) - (nz y2.2.1.size))) + (wrap64 x10)), 0)
         else none
         else none
         else none
         else none
        | none => none)
        else none
       | none => none)
       else none
      | none => none)
      else none
     | none => none)
     else none
    | none => none)
    else none)
   else some (((⟨#[]⟩ : ByteArray), 0, 0, 0, (⟨#[]⟩ : ByteArray)), 0, 2)
   else none
   else none)
  else some (((⟨#[]⟩ : ByteArray), 0, 0, 0, (⟨#[]⟩ : ByteArray)), 0, y1.2.2)
noncomputable def g27.sp : FSpec := { f := 27, ins := [(false, [.k .str]), (false, [.k (.int .i64)])], inE := [], outs := [(true, [.k (.pair .str (.pair (.int .i64) (.pair (.int .i64) (.pair (.int .i64) .str))))]), (false, [.k (.int .i64)]), (false, [.k (.int .i64)])], outE := [], raw := (ByteArray × Int × Int × Int × ByteArray) × Int × Int, sem := fun x => g27.f x.1.1.1 x.1.2.1.1, ret := fun y => (((y.1, ()), (y.2.1, ()), (y.2.2, ()), ()), ()) }
theorem g27.ok : FOk Try.prog g27.sp := fn_ok (κ := kap) g27.G_ok follows (L := []) (fn := Try.f27) (c := bodyOf Try.f27) rfl (by decide) rfl (lam_by (fn := Try.f27) (by kernel_rfl) lamAll_nil) (un := fun z => (z.1.1.1, z.1.2.1.1, z.1.2.2.1.1)) (fun _ => rfl) (by decide) (fun x => by kernel_rfl)
/-! ### beadroll/entry.Records -/
noncomputable def g10.G : List FSpec := [g26.sp, g27.sp]
theorem g10.G_ok : ∀ sp ∈ g10.G, FOk Try.prog sp := allOk_cons g26.ok (allOk_cons g27.ok allOk_nil)
noncomputable def g10.s6 (again : List ByteArray → Int → Int → List (ByteArray × Int × Int × Int × ByteArray) → Option (((List (ByteArray × Int × Int × Int × ByteArray)) × Int) ⊕ (List (ByteArray × Int × Int × Int × ByteArray)))) (a0 : List ByteArray) (a1 : Int) (a2 : Int) (a3 : List (ByteArray × Int × Int × Int × ByteArray)) : Option (((List (ByteArray × Int × Int × Int × ByteArray)) × Int) ⊕ (List (ByteArray × Int × Int × Int × ByteArray))) :=
  if a2 < a1 then (if 0 ≤ a2 then if a2 < nz a0.length then (match a0[a2.toNat]? with
   | some x2 => (g27.f x2 0).bind fun (y3 : (ByteArray × Int × Int × Int × ByteArray) × Int × Int) =>
    if y3.2.2 = 0 then (if y3.2.1 = (nz x2.size) then (if nz a3.length + nz (([y3.1] : List (ByteArray × Int × Int × Int × ByteArray)).length) ≤ room Try.prog 63 then again a0 a1 (wrap64 (a2 + 1)) (a3 ++ ([y3.1] : List (ByteArray × Int × Int × Int × ByteArray))) else none)
     else some (.inl (([] : List (ByteArray × Int × Int × Int × ByteArray)), 2)))
    else some (.inl (([] : List (ByteArray × Int × Int × Int × ByteArray)), 2))
   | none => none)
   else none
   else none)
  else some (.inr a3)
noncomputable def g10.l6 : Nat → List ByteArray → Int → Int → List (ByteArray × Int × Int × Int × ByteArray) → Option (((List (ByteArray × Int × Int × Int × ByteArray)) × Int) ⊕ (List (ByteArray × Int × Int × Int × ByteArray)))
  | 0, _, _, _, _ => none
  | k + 1, a0, a1, a2, a3 => g10.s6 (g10.l6 k) a0 a1 a2 a3
def g10.n6 : Norm := ⟨[6, 20, 21, 22], [(false, [.sl 0]), (false, [.k (.list 9 .str)]), (false, [.k (.int .i64)]), (false, [.k (.int .i64)])], [some (.lst 63 (.pair .str (.pair (.int .i64) (.pair (.int .i64) (.pair (.int .i64) .str)))))]⟩
def g10.x6 : List ExitS := [{ e := .ret, n := ⟨[2, 3], [(false, [.k (.list 63 (.pair .str (.pair (.int .i64) (.pair (.int .i64) (.pair (.int .i64) .str)))))]), (false, [.k (.int .i64)])], []⟩, raw := (List (ByteArray × Int × Int × Int × ByteArray)) × Int, ret := fun y => (((y.1, ()), (y.2, ()), ()), ()), un := fun z => (z.1.1.1, z.1.2.1.1) },
  { e := .exit 0, n := ⟨[6], [(false, [.sl 0])], [some (.lst 63 (.pair .str (.pair (.int .i64) (.pair (.int .i64) (.pair (.int .i64) .str)))))]⟩, raw := (List (ByteArray × Int × Int × Int × ByteArray)), ret := fun y => ((((), ()), ()), (y, ())), un := fun z => z.2.1 }]
noncomputable def g10.m6 (k : Nat) (x : g10.n6.X) : Option (SumR g10.x6) := g10.l6 k x.1.2.1.1 x.1.2.2.1.1 x.1.2.2.2.1.1 x.2.1
noncomputable def g10.L6 : LSpec := { id := 6, n := g10.n6, exits := g10.x6, sem := g10.m6 9223372036854775808 }
theorem g10.e6 : ∀ k x, g10.m6 (k + 1) x = roundS Try.prog kap g10.G [] (loopAt Try.f10 6) 46 0 g10.n6 g10.x6 (g10.m6 k) x := fun k x => by kernel_rfl
theorem g10.k6 : LOk Try.prog 0 46 g10.L6 (loopAt Try.f10 6) := LOk.of (κ := kap) (l := g10.L6) g10.G_ok follows (L := []) (lam_by (fn := Try.f10) (by kernel_rfl) lamAll_nil) g10.m6 (unAll_cons (fun _ => rfl) (unAll_cons (fun _ => rfl) unAll_nil)) (fun _ => rfl) g10.e6 9223372036854775808 rfl
noncomputable def g10.f (b0 : ByteArray) : Option ((List (ByteArray × Int × Int × Int × ByteArray)) × Int) :=
  (g26.f b0 4).bind fun (y1 : List ByteArray × Int) =>
  if y1.2 = 0 then ((g10.l6 9223372036854775808 y1.1 (nz y1.1.length) 0 ([] : List (ByteArray × Int × Int × Int × ByteArray))).bind fun (y4 : ((List (ByteArray × Int × Int × Int × ByteArray)) × Int) ⊕ (List (ByteArray × Int × Int × Int × ByteArray))) =>
   (match y4 with
   | .inl y5 => some y5
   | .inr y6 => some (y6, 0)))
  else some (([] : List (ByteArray × Int × Int × Int × ByteArray)), y1.2)
noncomputable def g10.sp : FSpec := { f := 10, ins := [(false, [.k .str])], inE := [], outs := [(false, [.k (.list 63 (.pair .str (.pair (.int .i64) (.pair (.int .i64) (.pair (.int .i64) .str)))))]), (false, [.k (.int .i64)])], outE := [], raw := (List (ByteArray × Int × Int × Int × ByteArray)) × Int, sem := fun x => g10.f x.1.1.1, ret := fun y => (((y.1, ()), (y.2, ()), ()), ()) }
theorem g10.ok : FOk Try.prog g10.sp := fn_ok (κ := kap) g10.G_ok follows (L := [g10.L6]) (fn := Try.f10) (c := bodyOf Try.f10) rfl (by decide) rfl (lam_by (fn := Try.f10) (by kernel_rfl) (lamAll_cons g10.k6 lamAll_nil)) (un := fun z => (z.1.1.1, z.1.2.1.1)) (fun _ => rfl) (by decide) (fun x => by kernel_rfl)
/-! ### beadroll/entry.Of -/
noncomputable def g8.G : List FSpec := [g24.sp, g10.sp]
theorem g8.G_ok : ∀ sp ∈ g8.G, FOk Try.prog sp := allOk_cons g24.ok (allOk_cons g10.ok allOk_nil)
noncomputable def g8.f (b0 : ByteArray) : Option ((Int × Int × List (ByteArray × Int × Int × Int × ByteArray) × List (ByteArray × Int × Int × Int × ByteArray)) × Int) :=
  (g24.f b0 ([4, 4, 4] : List Int)).bind fun (y1 : List Int × ByteArray × Int) =>
  if y1.2.2 = 0 then ((g10.f y1.2.1).bind fun (y2 : (List (ByteArray × Int × Int × Int × ByteArray)) × Int) =>
   if y2.2 = 0 then (if (2 : Int) < nz y1.1.length then (match y1.1[2]? with
    | some x3 => if (IntKind.wrap .u64 (nz y2.1.length)) < x3 then some ((0, 0, ([] : List (ByteArray × Int × Int × Int × ByteArray)), ([] : List (ByteArray × Int × Int × Int × ByteArray))), 2)
     else if (2 : Int) < nz y1.1.length then (match y1.1[2]? with
     | some x4 => if (0 : Int) < nz y1.1.length then (match y1.1[0]? with
      | some x5 => if (1 : Int) < nz y1.1.length then (match y1.1[1]? with
       | some x6 => if (0 : Int) ≤ (wrap64 x4) then if (wrap64 x4) ≤ (nz y2.1.length) then if (0 : Int) ≤ (wrap64 x4) then if (wrap64 x4) ≤ (nz ((wrap64 x4).toNat)) then if (0 : Int) ≤ (wrap64 x4) then if (wrap64 x4) ≤ (nz y2.1.length) then some ((IntKind.wrap .u32 x5, IntKind.wrap .u32 x6, (y2.1.take ((wrap64 x4).toNat)).drop 0, (y2.1.take y2.1.length).drop ((wrap64 x4).toNat)), 0) else none
        else none
        else none
        else none
        else none
        else none
       | none => none)
       else none
      | none => none)
      else none
     | none => none)
     else none
    | none => none)
    else none)
   else some ((0, 0, ([] : List (ByteArray × Int × Int × Int × ByteArray)), ([] : List (ByteArray × Int × Int × Int × ByteArray))), 2))
  else some ((0, 0, ([] : List (ByteArray × Int × Int × Int × ByteArray)), ([] : List (ByteArray × Int × Int × Int × ByteArray))), y1.2.2)
noncomputable def g8.sp : FSpec := { f := 8, ins := [(false, [.k .str])], inE := [], outs := [(true, [.k (.pair (.int .u32) (.pair (.int .u32) (.pair (.list 63 (.pair .str (.pair (.int .i64) (.pair (.int .i64) (.pair (.int .i64) .str))))) (.list 63 (.pair .str (.pair (.int .i64) (.pair (.int .i64) (.pair (.int .i64) .str))))))))]), (false, [.k (.int .i64)])], outE := [], raw := (Int × Int × List (ByteArray × Int × Int × Int × ByteArray) × List (ByteArray × Int × Int × Int × ByteArray)) × Int, sem := fun x => g8.f x.1.1.1, ret := fun y => (((y.1, ()), (y.2, ()), ()), ()) }
theorem g8.ok : FOk Try.prog g8.sp := fn_ok (κ := kap) g8.G_ok follows (L := []) (fn := Try.f8) (c := bodyOf Try.f8) rfl (by decide) rfl (lam_by (fn := Try.f8) (by kernel_rfl) lamAll_nil) (un := fun z => (z.1.1.1, z.1.2.1.1)) (fun _ => rfl) (by decide) (fun x => by kernel_rfl)
/-! ### beadroll/beadrollref11.Read -/
/-! ### beadroll/beadrollref17.Records -/
/-! ### beadroll/beadrollref17.Of -/
/-! ### beadroll/beadrollref11.Same -/
noncomputable def g13.G : List FSpec := []
theorem g13.G_ok : ∀ sp ∈ g13.G, FOk Try.prog sp := allOk_nil
noncomputable def g13.s4 (again : List (ByteArray × Int × Int × Int × ByteArray) → List (ByteArray × Int × Int × Int × ByteArray) → Int → Option (Bool ⊕ Unit)) (a0 : List (ByteArray × Int × Int × Int × ByteArray)) (a1 : List (ByteArray × Int × Int × Int × ByteArray)) (a2 : Int) : Option (Bool ⊕ Unit) :=
  if a2 < (nz a0.length) then (if 0 ≤ a2 then if a2 < nz a0.length then (match a0[a2.toNat]? with
   | some x1 => if 0 ≤ a2 then if a2 < nz a1.length then (match a1[a2.toNat]? with
    | some x2 => if x1.1 = x2.1 ∧ x1.2.1 = x2.2.1 ∧ x1.2.2.1 = x2.2.2.1 ∧ x1.2.2.2.1 = x2.2.2.2.1 ∧ x1.2.2.2.2 = x2.2.2.2.2 ∧ True then again a0 a1 (wrap64 (a2 + 1))
     else some (.inl false)
    | none => none)
    else none
    else none
   | none => none)
   else none
   else none)
  else some (.inr ())
noncomputable def g13.l4 : Nat → List (ByteArray × Int × Int × Int × ByteArray) → List (ByteArray × Int × Int × Int × ByteArray) → Int → Option (Bool ⊕ Unit)
  | 0, _, _, _ => none
  | k + 1, a0, a1, a2 => g13.s4 (g13.l4 k) a0 a1 a2
def g13.n4 : Norm := ⟨[0, 1, 5], [(false, [.k (.list 63 (.pair .str (.pair (.int .i64) (.pair (.int .i64) (.pair (.int .i64) .str)))))]), (false, [.k (.list 63 (.pair .str (.pair (.int .i64) (.pair (.int .i64) (.pair (.int .i64) .str)))))]), (false, [.k (.int .i64)])], []⟩
def g13.x4 : List ExitS := [{ e := .ret, n := ⟨[4], [(false, [.k .bool])], []⟩, raw := Bool, ret := fun y => (((y, ()), ()), ()), un := fun z => z.1.1.1 },
  { e := .exit 0, n := ⟨[], [], []⟩, raw := Unit, ret := fun y => ((), ()), un := fun z => () }]
noncomputable def g13.m4 (k : Nat) (x : g13.n4.X) : Option (SumR g13.x4) := g13.l4 k x.1.1.1 x.1.2.1.1 x.1.2.2.1.1
noncomputable def g13.L4 : LSpec := { id := 4, n := g13.n4, exits := g13.x4, sem := g13.m4 9223372036854775808 }
theorem g13.e4 : ∀ k x, g13.m4 (k + 1) x = roundS Try.prog kap g13.G [] (loopAt Try.f13 4) 26 0 g13.n4 g13.x4 (g13.m4 k) x := fun k x => by kernel_rfl
theorem g13.k4 : LOk Try.prog 0 26 g13.L4 (loopAt Try.f13 4) := LOk.of (κ := kap) (l := g13.L4) g13.G_ok follows (L := []) (lam_by (fn := Try.f13) (by kernel_rfl) lamAll_nil) g13.m4 (unAll_cons (fun _ => rfl) (unAll_cons (fun _ => rfl) unAll_nil)) (fun _ => rfl) g13.e4 9223372036854775808 rfl
noncomputable def g13.f (b0 : List (ByteArray × Int × Int × Int × ByteArray)) (b1 : List (ByteArray × Int × Int × Int × ByteArray)) : Option Bool :=
  if (nz b0.length) = (nz b1.length) then ((g13.l4 9223372036854775808 b0 b1 0).bind fun (y3 : Bool ⊕ Unit) =>
   (match y3 with
   | .inl y4 => some y4
   | .inr y5 => some true))
  else some false
noncomputable def g13.sp : FSpec := { f := 13, ins := [(false, [.k (.list 63 (.pair .str (.pair (.int .i64) (.pair (.int .i64) (.pair (.int .i64) .str)))))]), (false, [.k (.list 63 (.pair .str (.pair (.int .i64) (.pair (.int .i64) (.pair (.int .i64) .str)))))])], inE := [], outs := [(false, [.k .bool])], outE := [], raw := Bool, sem := fun x => g13.f x.1.1.1 x.1.2.1.1, ret := fun y => (((y, ()), ()), ()) }
theorem g13.ok : FOk Try.prog g13.sp := fn_ok (κ := kap) g13.G_ok follows (L := [g13.L4]) (fn := Try.f13) (c := bodyOf Try.f13) rfl (by decide) rfl (lam_by (fn := Try.f13) (by kernel_rfl) (lamAll_cons g13.k4 lamAll_nil)) (un := fun z => z.1.1.1) (fun _ => rfl) (by decide) (fun x => by kernel_rfl)
/-! ### beadroll/beadrollref17.Same -/
noncomputable def g12.G : List FSpec := [g13.sp]
theorem g12.G_ok : ∀ sp ∈ g12.G, FOk Try.prog sp := allOk_cons g13.ok allOk_nil
noncomputable def g12.f (b0 : Int × Int × List (ByteArray × Int × Int × Int × ByteArray) × List (ByteArray × Int × Int × Int × ByteArray)) (b1 : Int × Int × List (ByteArray × Int × Int × Int × ByteArray) × List (ByteArray × Int × Int × Int × ByteArray)) : Option Bool :=
  if b0.1 = b1.1 then (if b0.2.1 = b1.2.1 then ((g13.f b0.2.2.1 b1.2.2.1).bind fun (y1 : Bool) =>
    if y1 = true then ((g13.f b0.2.2.2 b1.2.2.2).bind fun (y2 : Bool) =>
     some y2)
    else some false)
   else some false)
  else some false
noncomputable def g12.sp : FSpec := { f := 12, ins := [(true, [.k (.pair (.int .u32) (.pair (.int .u32) (.pair (.list 63 (.pair .str (.pair (.int .i64) (.pair (.int .i64) (.pair (.int .i64) .str))))) (.list 63 (.pair .str (.pair (.int .i64) (.pair (.int .i64) (.pair (.int .i64) .str))))))))]), (true, [.k (.pair (.int .u32) (.pair (.int .u32) (.pair (.list 63 (.pair .str (.pair (.int .i64) (.pair (.int .i64) (.pair (.int .i64) .str))))) (.list 63 (.pair .str (.pair (.int .i64) (.pair (.int .i64) (.pair (.int .i64) .str))))))))])], inE := [], outs := [(false, [.k .bool])], outE := [], raw := Bool, sem := fun x => g12.f x.1.1.1 x.1.2.1.1, ret := fun y => (((y, ()), ()), ()) }
theorem g12.ok : FOk Try.prog g12.sp := fn_ok (κ := kap) g12.G_ok follows (L := []) (fn := Try.f12) (c := bodyOf Try.f12) rfl (by decide) rfl (lam_by (fn := Try.f12) (by kernel_rfl) lamAll_nil) (un := fun z => z.1.1.1) (fun _ => rfl) (by decide) (fun x => by kernel_rfl)
/-! ### beadroll/message.headed$1 -/
/-! ### beadroll/message.headed -/
/-! ### beadroll/message.question -/
/-! ### (*beadroll/message.Msg).sections -/
/-! ### beadroll/message.Decode -/
/-! ### beadroll/beadrollref12.Same -/
end
end Go.Proofs.Ytpbakampjiihfaa.E
/- PRINTED BY eng.py: functions, run by the engine. -/
set_option maxRecDepth 100000
set_option maxHeartbeats 0
namespace Go.Proofs.Ytpbakampjiihfaa.E
set_option linter.unusedVariables false
set_option linter.unusedSimpArgs false
open Go Go.Eng Go.RowKit Go.Lib Go.Proofs
noncomputable section
set_option warn.classDefReducibility false
attribute [local instance 2000] dLe dLt dEq dEqS dAnd
/-! ### slices.Grow[[]beadroll/api.RR,beadroll/api.RR], run as it is -/
noncomputable def g74r.G : List FSpec := []
theorem g74r.G_ok : ∀ sp ∈ g74r.G, FOk Try.prog sp := allOk_nil
noncomputable def g74r.b : TOs [(false, [.cn]), (false, [.k (.int .i64)])] × TEs [] → Option Unit := bodyR Try.prog kap g74r.G Try.f74 [(false, [.cn]), (false, [.k (.int .i64)])] [] [(false, [.cn])] [] (fun z => ())
noncomputable def g74r.sp : FSpec := { f := 74, ins := [(false, [.cn]), (false, [.k (.int .i64)])], inE := [], outs := [(false, [.cn])], outE := [], raw := Unit, sem := g74r.b, ret := fun y => ((((), ()), ()), ()) }
theorem g74r.ok : FOk Try.prog g74r.sp := by
  unfold g74r.sp g74r.b
  exact raw_ok (κ := kap) g74r.G_ok follows (fn := Try.f74) (c := bodyOf Try.f74) rfl (by decide) rfl (fun _ => rfl) (by decide)
/-! ### slices.Concat[[]beadroll/api.RR,beadroll/api.RR], run as it is -/
noncomputable def g32r.G : List FSpec := [g74r.sp]
theorem g32r.G_ok : ∀ sp ∈ g32r.G, FOk Try.prog sp := allOk_cons g74r.ok allOk_nil
noncomputable def g32r.b : TOs [(false, [.k (.list 24 (.list 63 (.pair .str (.pair (.int .i64) (.pair (.int .i64) (.pair (.int .i64) .str))))))])] × TEs [] → Option (List (ByteArray × Int × Int × Int × ByteArray)) := bodyR Try.prog kap g32r.G Try.f32 [(false, [.k (.list 24 (.list 63 (.pair .str (.pair (.int .i64) (.pair (.int .i64) (.pair (.int .i64) .str))))))])] [] [(false, [.k (.list 63 (.pair .str (.pair (.int .i64) (.pair (.int .i64) (.pair (.int .i64) .str)))))])] [] (fun z => z.1.1.1)
noncomputable def g32r.sp : FSpec := { f := 32, ins := [(false, [.k (.list 24 (.list 63 (.pair .str (.pair (.int .i64) (.pair (.int .i64) (.pair (.int .i64) .str))))))])], inE := [], outs := [(false, [.k (.list 63 (.pair .str (.pair (.int .i64) (.pair (.int .i64) (.pair (.int .i64) .str)))))])], outE := [], raw := (List (ByteArray × Int × Int × Int × ByteArray)), sem := g32r.b, ret := fun y => (((y, ()), ()), ()) }
theorem g32r.ok : FOk Try.prog g32r.sp := by
  unfold g32r.sp g32r.b
  exact raw_ok (κ := kap) g32r.G_ok follows (fn := Try.f32) (c := bodyOf Try.f32) rfl (by decide) rfl (fun _ => rfl) (by decide)
/-! ### beadroll/entry.pieces, run as it is -/
noncomputable def g31r.G : List FSpec := [g73v1.sp]
theorem g31r.G_ok : ∀ sp ∈ g31r.G, FOk Try.prog sp := allOk_cons g73v1.ok allOk_nil
noncomputable def g31r.b : TOs [(false, [.k (.list 63 (.pair .str (.pair (.int .i64) (.pair (.int .i64) (.pair (.int .i64) .str)))))])] × TEs [] → Option (ByteArray × Int) := bodyR Try.prog kap g31r.G Try.f31 [(false, [.k (.list 63 (.pair .str (.pair (.int .i64) (.pair (.int .i64) (.pair (.int .i64) .str)))))])] [] [(false, [.k .str]), (false, [.k (.int .i64)])] [] (fun z => (z.1.1.1, z.1.2.1.1))
noncomputable def g31r.sp : FSpec := { f := 31, ins := [(false, [.k (.list 63 (.pair .str (.pair (.int .i64) (.pair (.int .i64) (.pair (.int .i64) .str)))))])], inE := [], outs := [(false, [.k .str]), (false, [.k (.int .i64)])], outE := [], raw := ByteArray × Int, sem := g31r.b, ret := fun y => (((y.1, ()), (y.2, ()), ()), ()) }
theorem g31r.ok : FOk Try.prog g31r.sp := by
  unfold g31r.sp g31r.b
  exact raw_ok (κ := kap) g31r.G_ok follows (fn := Try.f31) (c := bodyOf Try.f31) rfl (by decide) rfl (fun _ => rfl) (by decide)
/-! ### beadroll/octets.width, run as it is -/
noncomputable def g87r.G : List FSpec := []
theorem g87r.G_ok : ∀ sp ∈ g87r.G, FOk Try.prog sp := allOk_nil
noncomputable def g87r.b : TOs [(false, [.k (.int .i64)])] × TEs [] → Option Bool := bodyR Try.prog kap g87r.G Try.f87 [(false, [.k (.int .i64)])] [] [(false, [.k .bool])] [] (fun z => z.1.1.1)
noncomputable def g87r.sp : FSpec := { f := 87, ins := [(false, [.k (.int .i64)])], inE := [], outs := [(false, [.k .bool])], outE := [], raw := Bool, sem := g87r.b, ret := fun y => (((y, ()), ()), ()) }
theorem g87r.ok : FOk Try.prog g87r.sp := by
  unfold g87r.sp g87r.b
  exact raw_ok (κ := kap) g87r.G_ok follows (fn := Try.f87) (c := bodyOf Try.f87) rfl (by decide) rfl (fun _ => rfl) (by decide)
/-! ### beadroll/octets.whole, run as it is -/
noncomputable def g54r.G : List FSpec := [g87r.sp]
theorem g54r.G_ok : ∀ sp ∈ g54r.G, FOk Try.prog sp := allOk_cons g87r.ok allOk_nil
noncomputable def g54r.b : TOs [(false, [.k (.list 3 (.int .i64))])] × TEs [] → Option Bool := bodyR Try.prog kap g54r.G Try.f54 [(false, [.k (.list 3 (.int .i64))])] [] [(false, [.k .bool])] [] (fun z => z.1.1.1)
noncomputable def g54r.sp : FSpec := { f := 54, ins := [(false, [.k (.list 3 (.int .i64))])], inE := [], outs := [(false, [.k .bool])], outE := [], raw := Bool, sem := g54r.b, ret := fun y => (((y, ()), ()), ()) }
theorem g54r.ok : FOk Try.prog g54r.sp := by
  unfold g54r.sp g54r.b
  exact raw_ok (κ := kap) g54r.G_ok follows (fn := Try.f54) (c := bodyOf Try.f54) rfl (by decide) rfl (fun _ => rfl) (by decide)
/-! ### beadroll/octets.most, run as it is -/
noncomputable def g75r.G : List FSpec := []
theorem g75r.G_ok : ∀ sp ∈ g75r.G, FOk Try.prog sp := allOk_nil
noncomputable def g75r.b : TOs [(false, [.k (.int .i64)])] × TEs [] → Option Int := bodyR Try.prog kap g75r.G Try.f75 [(false, [.k (.int .i64)])] [] [(false, [.k (.int .u64)])] [] (fun z => z.1.1.1)
noncomputable def g75r.sp : FSpec := { f := 75, ins := [(false, [.k (.int .i64)])], inE := [], outs := [(false, [.k (.int .u64)])], outE := [], raw := Int, sem := g75r.b, ret := fun y => (((y, ()), ()), ()) }
theorem g75r.ok : FOk Try.prog g75r.sp := by
  unfold g75r.sp g75r.b
  exact raw_ok (κ := kap) g75r.G_ok follows (fn := Try.f75) (c := bodyOf Try.f75) rfl (by decide) rfl (fun _ => rfl) (by decide)
/-! ### beadroll/octets.bytes, run as it is -/
noncomputable def g76r.G : List FSpec := []
theorem g76r.G_ok : ∀ sp ∈ g76r.G, FOk Try.prog sp := allOk_nil
noncomputable def g76r.b : TOs [(false, [.k (.int .u64)]), (false, [.k (.int .i64)])] × TEs [] → Option (List Int) := bodyR Try.prog kap g76r.G Try.f76 [(false, [.k (.int .u64)]), (false, [.k (.int .i64)])] [] [(false, [.k (.list 5 (.int .u8))])] [] (fun z => z.1.1.1)
noncomputable def g76r.sp : FSpec := { f := 76, ins := [(false, [.k (.int .u64)]), (false, [.k (.int .i64)])], inE := [], outs := [(false, [.k (.list 5 (.int .u8))])], outE := [], raw := List Int, sem := g76r.b, ret := fun y => (((y, ()), ()), ()) }
theorem g76r.ok : FOk Try.prog g76r.sp := by
  unfold g76r.sp g76r.b
  exact raw_ok (κ := kap) g76r.G_ok follows (fn := Try.f76) (c := bodyOf Try.f76) rfl (by decide) rfl (fun _ => rfl) (by decide)
/-! ### beadroll/octets.Join, run as it is -/
noncomputable def g33r.G : List FSpec := [g54r.sp, g75r.sp, g76r.sp]
theorem g33r.G_ok : ∀ sp ∈ g33r.G, FOk Try.prog sp := allOk_cons g54r.ok (allOk_cons g75r.ok (allOk_cons g76r.ok allOk_nil))
noncomputable def g33r.b : TOs [(false, [.k (.list 57 (.int .u64))]), (false, [.k (.list 3 (.int .i64))])] × TEs [] → Option (ByteArray × Int) := bodyR Try.prog kap g33r.G Try.f33 [(false, [.k (.list 57 (.int .u64))]), (false, [.k (.list 3 (.int .i64))])] [] [(false, [.k .str]), (false, [.k (.int .i64)])] [] (fun z => (z.1.1.1, z.1.2.1.1))
noncomputable def g33r.sp : FSpec := { f := 33, ins := [(false, [.k (.list 57 (.int .u64))]), (false, [.k (.list 3 (.int .i64))])], inE := [], outs := [(false, [.k .str]), (false, [.k (.int .i64)])], outE := [], raw := ByteArray × Int, sem := g33r.b, ret := fun y => (((y.1, ()), (y.2, ()), ()), ()) }
theorem g33r.ok : FOk Try.prog g33r.sp := by
  unfold g33r.sp g33r.b
  exact raw_ok (κ := kap) g33r.G_ok follows (fn := Try.f33) (c := bodyOf Try.f33) rfl (by decide) rfl (fun _ => rfl) (by decide)
/-! ### beadroll/entry.Bytes, run as it is -/
noncomputable def g16r.G : List FSpec := [g32r.sp, g31r.sp, g33r.sp]
theorem g16r.G_ok : ∀ sp ∈ g16r.G, FOk Try.prog sp := allOk_cons g32r.ok (allOk_cons g31r.ok (allOk_cons g33r.ok allOk_nil))
noncomputable def g16r.b : TOs [(true, [.k (.pair (.int .u32) (.pair (.int .u32) (.pair (.list 63 (.pair .str (.pair (.int .i64) (.pair (.int .i64) (.pair (.int .i64) .str))))) (.list 63 (.pair .str (.pair (.int .i64) (.pair (.int .i64) (.pair (.int .i64) .str))))))))])] × TEs [] → Option (ByteArray × Int) := bodyR Try.prog kap g16r.G Try.f16 [(true, [.k (.pair (.int .u32) (.pair (.int .u32) (.pair (.list 63 (.pair .str (.pair (.int .i64) (.pair (.int .i64) (.pair (.int .i64) .str))))) (.list 63 (.pair .str (.pair (.int .i64) (.pair (.int .i64) (.pair (.int .i64) .str))))))))])] [] [(false, [.k .str]), (false, [.k (.int .i64)])] [] (fun z => (z.1.1.1, z.1.2.1.1))
noncomputable def g16r.f (b0 : Int × Int × List (ByteArray × Int × Int × Int × ByteArray) × List (ByteArray × Int × Int × Int × ByteArray)) : Option (ByteArray × Int) := g16r.b (((b0, ()), ()), ())
noncomputable def g16r.sp : FSpec := { f := 16, ins := [(true, [.k (.pair (.int .u32) (.pair (.int .u32) (.pair (.list 63 (.pair .str (.pair (.int .i64) (.pair (.int .i64) (.pair (.int .i64) .str))))) (.list 63 (.pair .str (.pair (.int .i64) (.pair (.int .i64) (.pair (.int .i64) .str))))))))])], inE := [], outs := [(false, [.k .str]), (false, [.k (.int .i64)])], outE := [], raw := ByteArray × Int, sem := g16r.b, ret := fun y => (((y.1, ()), (y.2, ()), ()), ()) }
theorem g16r.ok : FOk Try.prog g16r.sp := by
  unfold g16r.sp g16r.b
  exact raw_ok (κ := kap) g16r.G_ok follows (fn := Try.f16) (c := bodyOf Try.f16) rfl (by decide) rfl (fun _ => rfl) (by decide)
/-! ### beadroll/beadrolllaw17.awake -/
noncomputable def g7.G : List FSpec := [g16r.sp]
theorem g7.G_ok : ∀ sp ∈ g7.G, FOk Try.prog sp := allOk_cons g16r.ok allOk_nil
noncomputable def g7.f : Option Bool :=
  (g16r.f (1, 2, ([] : List (ByteArray × Int × Int × Int × ByteArray)), ([] : List (ByteArray × Int × Int × Int × ByteArray)))).bind fun (y1 : ByteArray × Int) =>
  if y1.2 = 0 then some (decide (y1.1 = (⟨#[0, 0, 0, 1, 0, 0, 0, 2, 0, 0, 0, 0]⟩ : ByteArray)))
  else some false
noncomputable def g7.sp : FSpec := { f := 7, ins := [], inE := [], outs := [(false, [.k .bool])], outE := [], raw := Bool, sem := fun x => g7.f, ret := fun y => (((y, ()), ()), ()) }
theorem g7.ok : FOk Try.prog g7.sp := fn_ok (κ := kap) g7.G_ok follows (L := []) (fn := Try.f7) (c := bodyOf Try.f7) rfl (by decide) rfl (lam_by (fn := Try.f7) (by kernel_rfl) lamAll_nil) (un := fun z => z.1.1.1) (fun _ => rfl) (by decide) (fun x => by kernel_rfl)
end
end Go.Proofs.Ytpbakampjiihfaa.E
/- PRINTED BY eng.py: functions, run by the engine. -/
set_option maxRecDepth 100000
set_option maxHeartbeats 0
namespace Go.Proofs.Ytpbakampjiihfaa.E
set_option linter.unusedVariables false
set_option linter.unusedSimpArgs false
open Go Go.Eng Go.RowKit Go.Lib Go.Proofs
noncomputable section
set_option warn.classDefReducibility false
attribute [local instance 2000] dLe dLt dEq dEqS dAnd
/-! ### beadroll/beadrolllaw17.EntryBack -/
noncomputable def g4.G : List FSpec := [g7.sp, g14.sp, g15.sp, g16.sp, g8.sp, g12.sp]
theorem g4.G_ok : ∀ sp ∈ g4.G, FOk Try.prog sp := allOk_cons g7.ok (allOk_cons g14.ok (allOk_cons g15.ok (allOk_cons g16.ok (allOk_cons g8.ok (allOk_cons g12.ok allOk_nil)))))
noncomputable def g4.f (b0 : Int × Int × List (ByteArray × Int × Int × Int × ByteArray) × List (ByteArray × Int × Int × Int × ByteArray)) : Option Bool :=
  (g7.f).bind fun (y1 : Bool) =>
  if (!y1) = true then ((g7.f).bind fun (y2 : Bool) =>
   some y2)
  else (g14.f b0).bind fun (y3 : Bool) =>
  if (!y3) = true then ((g7.f).bind fun (y4 : Bool) =>
   some y4)
  else (g15.f b0).bind fun (y5 : Bool) =>
  if (!y5) = true then ((g7.f).bind fun (y6 : Bool) =>
   some y6)
  else (g16.f b0).bind fun (y7 : ByteArray × Int) =>
  if y7.2 = 0 then (if (nz y7.1.size) < 12 then some false
   else (g8.f y7.1).bind fun (y8 : (Int × Int × List (ByteArray × Int × Int × Int × ByteArray) × List (ByteArray × Int × Int × Int × ByteArray)) × Int) =>
   if (0 : Int) ≤ (wrap64 ((nz y7.1.size) - 1)) then if (wrap64 ((nz y7.1.size) - 1)) ≤ (nz y7.1.size) then (g8.f (y7.1.extract 0 ((wrap64 ((nz y7.1.size) - 1)).toNat))).bind fun (y9 : (Int × Int × List (ByteArray × Int × Int × Int × ByteArray) × List (ByteArray × Int × Int × Int × ByteArray)) × Int) =>
   if y8.2 = 0 then ((g12.f b0 y8.1).bind fun (y10 : Bool) =>
    if y10 = true then some (decide (y9.2 = 2))
    else some false)
   else some false
   else none
   else none)
  else some false
noncomputable def g4.sp : FSpec := { f := 4, ins := [(true, [.k (.pair (.int .u32) (.pair (.int .u32) (.pair (.list 63 (.pair .str (.pair (.int .i64) (.pair (.int .i64) (.pair (.int .i64) .str))))) (.list 63 (.pair .str (.pair (.int .i64) (.pair (.int .i64) (.pair (.int .i64) .str))))))))])], inE := [], outs := [(false, [.k .bool])], outE := [], raw := Bool, sem := fun x => g4.f x.1.1.1, ret := fun y => (((y, ()), ()), ()) }
theorem g4.ok : FOk Try.prog g4.sp := fn_ok (κ := kap) g4.G_ok follows (L := []) (fn := Try.f4) (c := bodyOf Try.f4) rfl (by decide) rfl (lam_by (fn := Try.f4) (by kernel_rfl) lamAll_nil) (un := fun z => z.1.1.1) (fun _ => rfl) (by decide) (fun x => by kernel_rfl)
end
end Go.Proofs.Ytpbakampjiihfaa.E
