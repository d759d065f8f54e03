/- PRINTED BY eng.py: functions, run by the engine. -/
import Derived.Test.YtpbakampjiihfaaGreatEB
import Derived.Test.YtpbakampjiihfaaGreatGvB2
import Derived.Test.YtpbakampjiihfaaGreatProg
import Derived.Laws.Externs
import Derived.MapKept
import Derived.WalkKit
import Derived.Test.YtpbakampjiihfaaGreatGX
import Derived.Test.YtpbakampjiihfaaGreatEO
set_option maxRecDepth 100000
set_option maxHeartbeats 0
namespace Go.Proofs.YtpbakampjiihfaaGreat.E
set_option linter.unusedVariables false
set_option linter.unusedSimpArgs false
open Go Go.Eng Go.RowKit Go.Lib Go.Proofs
noncomputable section
set_option warn.classDefReducibility false
attribute [local instance 2000] dLe dLt dEq dEqS dAnd
def g160.G : List FSpec := []
theorem g160.G_ok : ∀ sp ∈ g160.G, FOk Tryz.prog sp := allOk_nil
noncomputable def g160.f (b0 : Int) : Option Int :=
  if (wrap64 ((64 : Int) - (wrap64 ((8 : Int) * b0)))) < 0 then none
  else some ((18446744073709551615 : Int).fdiv (2 ^ min (wrap64 ((64 : Int) - (wrap64 ((8 : Int) * b0)))).toNat 64))
def g160.sp : FSpec := ⟨160, [zoI], [], [(false, [.k (.int .u64)])], [], Int, fun x => g160.f x.1.1.1, fun y => (((y, ()), ()), ())⟩
theorem g160.ok : FOk Tryz.prog g160.sp := fokz g160.G_ok Tryz.f160 lamAll_nil (fun z => z.1.1.1) fun x => by kernel_rfl
def g161.G : List FSpec := []
theorem g161.G_ok : ∀ sp ∈ g161.G, FOk Tryz.prog sp := allOk_nil
noncomputable def g161.s3 (again : Int → Int → List Int → Option (List Int)) (a0 : Int) (a1 : Int) (a2 : List Int) : Option (List Int) :=
  if (0 : Int) ≤ a1 then (if (wrap64 ((8 : Int) * a1)) < 0 then none
   else if nz a2.length + nz (([IntKind.wrap .u8 (a0.fdiv (2 ^ min (wrap64 ((8 : Int) * a1)).toNat 64))] : List Int).length) ≤ room Tryz.prog 5 then again a0 (wrap64 (a1 - 1)) (a2 ++ ([IntKind.wrap .u8 (a0.fdiv (2 ^ min (wrap64 ((8 : Int) * a1)).toNat 64))] : List Int)) else none)
  else some a2
noncomputable def g161.l3 : Nat → Int → Int → List Int → Option (List Int)
  | 0, _, _, _ => none
  | k + 1, a0, a1, a2 => g161.s3 (g161.l3 k) a0 a1 a2
def g161.n3 : Norm := ⟨[0, 5, 6], [(false, [.k (.int .u64)]), (false, [.sl 0]), zoI], [some (.lst 5 (.int .u8))]⟩
def g161.x3 : List ExitS := [{ e := .exit 0, n := ⟨[5], [(false, [.sl 0])], [some (.lst 5 (.int .u8))]⟩, raw := List Int, ret := fun y => ((((), ()), ()), (y, ())), un := fun z => z.2.1 }]
def g161.m3 (k : Nat) (x : g161.n3.X) : Option (SumR g161.x3) := g161.l3 k x.1.1.1 x.1.2.2.1.1 x.2.1
def g161.L3 : LSpec := ⟨3, g161.n3, g161.x3, g161.m3 9223372036854775808⟩
theorem g161.e3 : ∀ k x, g161.m3 (k + 1) x = roundS Tryz.prog kap g161.G [] (loopAt Tryz.f161 3) 22 0 g161.n3 g161.x3 (g161.m3 k) x := fun k x => by kernel_rfl
theorem g161.k3 : LOk Tryz.prog 0 22 g161.L3 (loopAt Tryz.f161 3) := LOk.of (κ := kap) (l := g161.L3) g161.G_ok follows (L := []) (lam_by (fn := Tryz.f161) (by kernel_rfl) lamAll_nil) g161.m3 (unAll_cons (fun _ => rfl) unAll_nil) (fun _ => rfl) g161.e3 9223372036854775808 rfl
noncomputable def g161.f (b0 : Int) (b1 : Int) : Option (List Int) :=
  (g161.l3 9223372036854775808 b0 (wrap64 (b1 - 1)) ([] : List Int)).bind fun (y1 : List Int) =>
  some y1
def g161.sp : FSpec := ⟨161, [(false, [.k (.int .u64)]), zoI], [], [(false, [.k (.list 5 (.int .u8))])], [], List Int, fun x => g161.f x.1.1.1 x.1.2.1.1, fun y => (((y, ()), ()), ())⟩
theorem g161.ok : FOk Tryz.prog g161.sp := fokz g161.G_ok Tryz.f161 (lamAll_cons g161.k3 lamAll_nil) (fun z => z.1.1.1) fun x => by kernel_rfl
def g182.G : List FSpec := [g119.sp, g137.sp]
theorem g182.G_ok : ∀ sp ∈ g182.G, FOk Tryz.prog sp := allOk_cons g119.ok (allOk_cons g137.ok allOk_nil)
noncomputable def g182.f (b0 : ByteArray) (b1 : Int) : Option ((ByteArray × Int × Int) × Bool) :=
  if (0 : Int) ≤ b1 then if b1 ≤ (nz b0.size) then (g119.f (b0.extract b1.toNat b0.size) 1).bind fun (y1 : ByteArray × ByteArray × Int) =>
  if y1.2.2 = 0 then (if (nz y1.1.size) ≤ 63 then (if (0 : Int) ≤ (wrap64 ((nz b0.size) - (nz y1.2.1.size))) then if (wrap64 ((nz b0.size) - (nz y1.2.1.size))) ≤ (nz b0.size) then if (0 : Int) ≤ b1 then if b1 ≤ (wrap64 ((nz b0.size) - (nz y1.2.1.size))) then some ((b0.extract b1.toNat ((wrap64 ((nz b0.size) - (nz y1.2.1.size))).toNat), (-1), wrap64 ((nz b0.size) - (nz y1.2.1.size))), true) else none
    else none
    else none
    else none)
   else if (0 : Int) ≤ b1 then if b1 ≤ (nz b0.size) then (g137.f (b0.extract b1.toNat b0.size) ([2] : List Int)).bind fun (y2 : List Int × ByteArray × Int) =>
   if y2.2.2 = 0 then (if (0 : Int) < nz y2.1.length then (match y2.1[0]? with
    | some x3 => if x3 < 49152 then some (((⟨#[]⟩ : ByteArray), 0, 0), false)
     else if (0 : Int) < nz y2.1.length then (match y2.1[0]? with
     | some x4 => some (((⟨#[]⟩ : ByteArray), wrap64 (IntKind.wrap .u64 (x4 - 49152)), wrap64 (b1 + 2)), true)
     | none => none)
     else none
    | none => none)
    else none)
   else some (((⟨#[]⟩ : ByteArray), 0, 0), false)
   else none
   else none)
  else if (0 : Int) ≤ b1 then if b1 ≤ (nz b0.size) then (g137.f (b0.extract b1.toNat b0.size) ([2] : List Int)).bind fun (y5 : List Int × ByteArray × Int) =>
  if y5.2.2 = 0 then (if (0 : Int) < nz y5.1.length then (match y5.1[0]? with
   | some x6 => if x6 < 49152 then some (((⟨#[]⟩ : ByteArray), 0, 0), false)
    else if (0 : Int) < nz y5.1.length then (match y5.1[0]? with
    | some x7 => some (((⟨#[]⟩ : ByteArray), wrap64 (IntKind.wrap .u64 (x7 - 49152)), wrap64 (b1 + 2)), true)
    | none => none)
    else none
   | none => none)
   else none)
  else some (((⟨#[]⟩ : ByteArray), 0, 0), false)
  else none
  else none
  else none
  else none
def g182.sp : FSpec := ⟨182, [zoS, zoI], [], [(true, [.k (.pair .str (.pair (.int .i64) (.int .i64)))]), zoB], [], (ByteArray × Int × Int) × Bool, fun x => g182.f x.1.1.1 x.1.2.1.1, fun y => (((y.1, ()), (y.2, ()), ()), ())⟩
theorem g182.ok : FOk Tryz.prog g182.sp := fokz g182.G_ok Tryz.f182 lamAll_nil (fun z => (z.1.1.1, z.1.2.1.1)) fun x => by kernel_rfl
def g173.G : List FSpec := [g182.sp, g44.sp]
theorem g173.G_ok : ∀ sp ∈ g173.G, FOk Tryz.prog sp := allOk_cons g182.ok (allOk_cons g44.ok allOk_nil)
noncomputable def g173.s4 (again : ByteArray → Int → ByteArray → Int → Int → Option ((ByteArray × Int × Int) ⊕ (Int × ByteArray × Int))) (a0 : ByteArray) (a1 : Int) (a2 : ByteArray) (a3 : Int) (a4 : Int) : Option ((ByteArray × Int × Int) ⊕ (Int × ByteArray × Int)) :=
  if (nz a2.size) ≤ 255 then ((g182.f a0 a1).bind fun (y1 : (ByteArray × Int × Int) × Bool) =>
   if (!y1.2) = true then some (.inl ((⟨#[]⟩ : ByteArray), 0, 2))
   else if a4 ≤ y1.1.2.1 then some (.inl ((⟨#[]⟩ : ByteArray), 0, 2))
   else if (0 : Int) ≤ y1.1.2.1 then (if a3 < 0 then again a0 y1.1.2.1 a2 y1.1.2.2 y1.1.2.1
    else again a0 y1.1.2.1 a2 a3 y1.1.2.1)
   else if (nz a2.size) + (nz y1.1.1.size) ≤ 9223372036854775807 then if y1.1.1 = (⟨#[0]⟩ : ByteArray) then some (.inr (y1.1.2.2, a2 ++ y1.1.1, a3))
   else again a0 y1.1.2.2 (a2 ++ y1.1.1) a3 a4
   else none)
  else some (.inr (a1, a2, a3))
noncomputable def g173.l4 : Nat → ByteArray → Int → ByteArray → Int → Int → Option ((ByteArray × Int × Int) ⊕ (Int × ByteArray × Int))
  | 0, _, _, _, _, _ => none
  | k + 1, a0, a1, a2, a3, a4 => g173.s4 (g173.l4 k) a0 a1 a2 a3 a4
def g173.n4 : Norm := ⟨[0, 1, 7, 8, 9], [zoS, zoI, zoS, zoI, zoI], []⟩
def g173.x4 : List ExitS := [{ e := .ret, n := ⟨[4, 5, 6], [zoS, zoI, zoI], []⟩, raw := ByteArray × Int × Int, ret := fun y => (((y.1, ()), (y.2.1, ()), (y.2.2, ()), ()), ()), un := fun z => (z.1.1.1, z.1.2.1.1, z.1.2.2.1.1) },
  { e := .exit 0, n := ⟨[1, 7, 8], [zoI, zoS, zoI], []⟩, raw := Int × ByteArray × Int, ret := fun y => (((y.1, ()), (y.2.1, ()), (y.2.2, ()), ()), ()), un := fun z => (z.1.1.1, z.1.2.1.1, z.1.2.2.1.1) }]
def g173.m4 (k : Nat) (x : g173.n4.X) : Option (SumR g173.x4) := g173.l4 k x.1.1.1 x.1.2.1.1 x.1.2.2.1.1 x.1.2.2.2.1.1 x.1.2.2.2.2.1.1
def g173.L4 : LSpec := ⟨4, g173.n4, g173.x4, g173.m4 9223372036854775808⟩
theorem g173.e4 : ∀ k x, g173.m4 (k + 1) x = roundS Tryz.prog kap g173.G [] (loopAt Tryz.f173 4) 68 0 g173.n4 g173.x4 (g173.m4 k) x := fun k x => by kernel_rfl
theorem g173.k4 : LOk Tryz.prog 0 68 g173.L4 (loopAt Tryz.f173 4) := LOk.of (κ := kap) (l := g173.L4) g173.G_ok follows (L := []) (lam_by (fn := Tryz.f173) (by kernel_rfl) lamAll_nil) g173.m4 (unAll_cons (fun _ => rfl) (unAll_cons (fun _ => rfl) unAll_nil)) (fun _ => rfl) g173.e4 9223372036854775808 rfl
noncomputable def g173.f (b0 : ByteArray) (b1 : Int) : Option (ByteArray × Int × Int) :=
  if b1 < 0 then some ((⟨#[]⟩ : ByteArray), 0, 1)
  else if (nz b0.size) < b1 then some ((⟨#[]⟩ : ByteArray), 0, 1)
  else (g173.l4 9223372036854775808 b0 b1 (⟨#[]⟩ : ByteArray) (-1) b1).bind fun (y2 : (ByteArray × Int × Int) ⊕ (Int × ByteArray × Int)) =>
  (match y2 with
  | .inl y3 => some y3
  | .inr y4 => (g44.f y4.2.1).bind fun (y5 : Bool) =>
   if (!y5) = true then some ((⟨#[]⟩ : ByteArray), 0, 2)
   else if y4.2.2 < 0 then some (y4.2.1, y4.1, 0)
   else some (y4.2.1, y4.2.2, 0))
def g173.sp : FSpec := ⟨173, [zoS, zoI], [], [zoS, zoI, zoI], [], ByteArray × Int × Int, fun x => g173.f x.1.1.1 x.1.2.1.1, fun y => (((y.1, ()), (y.2.1, ()), (y.2.2, ()), ()), ())⟩
theorem g173.ok : FOk Tryz.prog g173.sp := fokz g173.G_ok Tryz.f173 (lamAll_cons g173.k4 lamAll_nil) (fun z => (z.1.1.1, z.1.2.1.1, z.1.2.2.1.1)) fun x => by kernel_rfl
def g72.G : List FSpec := []
theorem g72.G_ok : ∀ sp ∈ g72.G, FOk Tryz.prog sp := allOk_nil
noncomputable def g72.s5 (again : ByteArray → Int → List ByteArray → Option ((List ByteArray × Bool) ⊕ (ByteArray × Int × List ByteArray))) (a0 : ByteArray) (a1 : Int) (a2 : List ByteArray) : Option ((List ByteArray × Bool) ⊕ (ByteArray × Int × List ByteArray)) :=
  if a1 < (nz a0.size) then (if 0 ≤ a1 then if a1 < nz a0.size then if (0 : Int) < (bt a0 a1) then (if 0 ≤ a1 then if a1 < nz a0.size then if (63 : Int) < (wrap64 (bt a0 a1)) then some (.inl (([] : List ByteArray), false))
    else if (nz a0.size) < (wrap64 ((wrap64 (a1 + 1)) + (wrap64 (bt a0 a1)))) then some (.inl (([] : List ByteArray), false))
    else if (0 : Int) ≤ (wrap64 ((wrap64 (a1 + 1)) + (wrap64 (bt a0 a1)))) then if (wrap64 ((wrap64 (a1 + 1)) + (wrap64 (bt a0 a1)))) ≤ (nz a0.size) then if (0 : Int) ≤ (wrap64 (a1 + 1)) then if (wrap64 (a1 + 1)) ≤ (wrap64 ((wrap64 (a1 + 1)) + (wrap64 (bt a0 a1)))) then if nz a2.length + nz (([a0.extract ((wrap64 (a1 + 1)).toNat) ((wrap64 ((wrap64 (a1 + 1)) + (wrap64 (bt a0 a1)))).toNat)] : List ByteArray).length) ≤ room Tryz.prog 9 then again a0 (wrap64 (a1 + (wrap64 ((1 : Int) + (wrap64 (bt a0 a1)))))) (a2 ++ ([a0.extract ((wrap64 (a1 + 1)).toNat) ((wrap64 ((wrap64 (a1 + 1)) + (wrap64 (bt a0 a1)))).toNat)] : List ByteArray)) else none
    else none
    else none
    else none
    else none
    else none
    else none)
   else some (.inr (a0, a1, a2))
   else none
   else none)
  else some (.inr (a0, a1, a2))
noncomputable def g72.l5 : Nat → ByteArray → Int → List ByteArray → Option ((List ByteArray × Bool) ⊕ (ByteArray × Int × List ByteArray))
  | 0, _, _, _ => none
  | k + 1, a0, a1, a2 => g72.s5 (g72.l5 k) a0 a1 a2
def g72.n5 : Norm := ⟨[0, 4, 5], [zoS, (false, [.sl 0]), zoI], [some (.lst 9 .str)]⟩
def g72.x5 : List ExitS := [{ e := .ret, n := ⟨[2, 3], [(false, [.k (.list 9 .str)]), zoB], []⟩, raw := List ByteArray × Bool, ret := fun y => (((y.1, ()), (y.2, ()), ()), ()), un := fun z => (z.1.1.1, z.1.2.1.1) },
  { e := .exit 0, n := ⟨[0, 4, 5], [zoS, (false, [.sl 0]), zoI], [some (.lst 9 .str)]⟩, raw := ByteArray × Int × List ByteArray, ret := fun y => (((y.1, ()), ((), ()), (y.2.1, ()), ()), (y.2.2, ())), un := fun z => (z.1.1.1, z.1.2.2.1.1, z.2.1) }]
def g72.m5 (k : Nat) (x : g72.n5.X) : Option (SumR g72.x5) := g72.l5 k x.1.1.1 x.1.2.2.1.1 x.2.1
def g72.L5 : LSpec := ⟨5, g72.n5, g72.x5, g72.m5 9223372036854775808⟩
theorem g72.e5 : ∀ k x, g72.m5 (k + 1) x = roundS Tryz.prog kap g72.G [] (loopAt Tryz.f72 5) 62 0 g72.n5 g72.x5 (g72.m5 k) x := fun k x => by kernel_rfl
theorem g72.k5 : LOk Tryz.prog 0 62 g72.L5 (loopAt Tryz.f72 5) := LOk.of (κ := kap) (l := g72.L5) g72.G_ok follows (L := []) (lam_by (fn := Tryz.f72) (by kernel_rfl) lamAll_nil) g72.m5 (unAll_cons (fun _ => rfl) (unAll_cons (fun _ => rfl) unAll_nil)) (fun _ => rfl) g72.e5 9223372036854775808 rfl
noncomputable def g72.f (b0 : ByteArray) : Option (List ByteArray × Bool) :=
  if (255 : Int) < (nz b0.size) then some (([] : List ByteArray), false)
  else (g72.l5 9223372036854775808 b0 0 ([] : List ByteArray)).bind fun (y1 : (List ByteArray × Bool) ⊕ (ByteArray × Int × List ByteArray)) =>
  (match y1 with
  | .inl y2 => some y2
  | .inr y3 => if y3.2.1 = (wrap64 ((nz y3.1.size) - 1)) then (if 0 ≤ y3.2.1 then if y3.2.1 < nz y3.1.size then some (y3.2.2, decide ((bt y3.1 y3.2.1) = 0)) else none
    else none)
   else some (y3.2.2, false))
def g72.sp : FSpec := ⟨72, [zoS], [], [(false, [.k (.list 9 .str)]), zoB], [], List ByteArray × Bool, fun x => g72.f x.1.1.1, fun y => (((y.1, ()), (y.2, ()), ()), ())⟩
theorem g72.ok : FOk Tryz.prog g72.sp := fokz g72.G_ok Tryz.f72 (lamAll_cons g72.k5 lamAll_nil) (fun z => (z.1.1.1, z.1.2.1.1)) fun x => by kernel_rfl
def g31.G : List FSpec := [g72.sp]
theorem g31.G_ok : ∀ sp ∈ g31.G, FOk Tryz.prog sp := allOk_cons g72.ok allOk_nil
noncomputable def g31.f (b0 : ByteArray) : Option Bool :=
  (g72.f b0).bind fun (y1 : List ByteArray × Bool) =>
  some y1.2
def g31.sp : FSpec := ⟨31, [zoS], [], [zoB], [], Bool, fun x => g31.f x.1.1.1, fun y => (((y, ()), ()), ())⟩
theorem g31.ok : FOk Tryz.prog g31.sp := fokz g31.G_ok Tryz.f31 lamAll_nil (fun z => z.1.1.1) fun x => by kernel_rfl
def g169.G : List FSpec := [g31.sp]
theorem g169.G_ok : ∀ sp ∈ g169.G, FOk Tryz.prog sp := allOk_cons g31.ok allOk_nil
noncomputable def g169.s6 (again : ByteArray → Int → ByteArray → Int → Int → Option ((ByteArray × Int × Int) ⊕ Unit)) (a0 : ByteArray) (a1 : Int) (a2 : ByteArray) (a3 : Int) (a4 : Int) : Option ((ByteArray × Int × Int) ⊕ Unit) :=
  if a1 < (nz a0.size) then (if (nz a2.size) < 300 then (if 0 ≤ a1 then if a1 < nz a0.size then if (wrap64 (bt a0 a1)) = 0 then (if (nz a2.size) + 1 ≤ 9223372036854775807 then if a3 < 0 then ((g31.f (a2 ++ (⟨#[0]⟩ : ByteArray))).bind fun (y1 : Bool) =>
      if (!y1) = true then some (.inl ((⟨#[]⟩ : ByteArray), 0, 2))
      else some (.inl (a2 ++ (⟨#[0]⟩ : ByteArray), wrap64 (a1 + 1), 0)))
     else (g31.f (a2 ++ (⟨#[0]⟩ : ByteArray))).bind fun (y2 : Bool) =>
     if (!y2) = true then some (.inl ((⟨#[]⟩ : ByteArray), 0, 2))
     else some (.inl (a2 ++ (⟨#[0]⟩ : ByteArray), a3, 0))
     else none)
    else if (192 : Int) ≤ (wrap64 (bt a0 a1)) then (if (nz a0.size) ≤ (wrap64 (a1 + 1)) then some (.inl ((⟨#[]⟩ : ByteArray), 0, 2))
     else if 0 ≤ (wrap64 (a1 + 1)) then if (wrap64 (a1 + 1)) < nz a0.size then if a4 ≤ (wrap64 ((wrap64 ((wrap64 ((wrap64 (bt a0 a1)) - 192)) * 256)) + (wrap64 (bt a0 (wrap64 (a1 + 1)))))) then some (.inl ((⟨#[]⟩ : ByteArray), 0, 2))
     else if a3 < 0 then again a0 (wrap64 ((wrap64 ((wrap64 ((wrap64 (bt a0 a1)) - 192)) * 256)) + (wrap64 (bt a0 (wrap64 (a1 + 1)))))) a2 (wrap64 (a1 + 2)) (wrap64 ((wrap64 ((wrap64 ((wrap64 (bt a0 a1)) - 192)) * 256)) + (wrap64 (bt a0 (wrap64 (a1 + 1))))))
     else again a0 (wrap64 ((wrap64 ((wrap64 ((wrap64 (bt a0 a1)) - 192)) * 256)) + (wrap64 (bt a0 (wrap64 (a1 + 1)))))) a2 a3 (wrap64 ((wrap64 ((wrap64 ((wrap64 (bt a0 a1)) - 192)) * 256)) + (wrap64 (bt a0 (wrap64 (a1 + 1))))))
     else none
     else none)
    else if (64 : Int) ≤ (wrap64 (bt a0 a1)) then some (.inl ((⟨#[]⟩ : ByteArray), 0, 2))
    else if (nz a0.size) < (wrap64 ((wrap64 (a1 + 1)) + (wrap64 (bt a0 a1)))) then some (.inl ((⟨#[]⟩ : ByteArray), 0, 2))
    else if (0 : Int) ≤ (wrap64 ((wrap64 (a1 + 1)) + (wrap64 (bt a0 a1)))) then if (wrap64 ((wrap64 (a1 + 1)) + (wrap64 (bt a0 a1)))) ≤ (nz a0.size) then if (0 : Int) ≤ a1 then if a1 ≤ (wrap64 ((wrap64 (a1 + 1)) + (wrap64 (bt a0 a1)))) then if (nz a2.size) + (nz ((a0.extract a1.toNat ((wrap64 ((wrap64 (a1 + 1)) + (wrap64 (bt a0 a1)))).toNat)).size)) ≤ 9223372036854775807 then again a0 (wrap64 (a1 + (wrap64 ((1 : Int) + (wrap64 (bt a0 a1)))))) (a2 ++ (a0.extract a1.toNat ((wrap64 ((wrap64 (a1 + 1)) + (wrap64 (bt a0 a1)))).toNat))) a3 a4 else none
    else none
    else none
    else none
    else none
    else none
    else none)
   else some (.inr ()))
  else some (.inr ())
noncomputable def g169.l6 : Nat → ByteArray → Int → ByteArray → Int → Int → Option ((ByteArray × Int × Int) ⊕ Unit)
  | 0, _, _, _, _, _ => none
  | k + 1, a0, a1, a2, a3, a4 => g169.s6 (g169.l6 k) a0 a1 a2 a3 a4
def g169.n6 : Norm := ⟨[0, 1, 7, 8, 9], [zoS, zoI, zoS, zoI, zoI], []⟩
def g169.x6 : List ExitS := [{ e := .ret, n := ⟨[4, 5, 6], [zoS, zoI, zoI], []⟩, raw := ByteArray × Int × Int, ret := fun y => (((y.1, ()), (y.2.1, ()), (y.2.2, ()), ()), ()), un := fun z => (z.1.1.1, z.1.2.1.1, z.1.2.2.1.1) },
  { e := .exit 0, n := ⟨[], [], []⟩, raw := Unit, ret := fun y => ((), ()), un := fun z => () }]
def g169.m6 (k : Nat) (x : g169.n6.X) : Option (SumR g169.x6) := g169.l6 k x.1.1.1 x.1.2.1.1 x.1.2.2.1.1 x.1.2.2.2.1.1 x.1.2.2.2.2.1.1
def g169.L6 : LSpec := ⟨6, g169.n6, g169.x6, g169.m6 9223372036854775808⟩
theorem g169.e6 : ∀ k x, g169.m6 (k + 1) x = roundS Tryz.prog kap g169.G [] (loopAt Tryz.f169 6) 96 0 g169.n6 g169.x6 (g169.m6 k) x := fun k x => by kernel_rfl
theorem g169.k6 : LOk Tryz.prog 0 96 g169.L6 (loopAt Tryz.f169 6) := LOk.of (κ := kap) (l := g169.L6) g169.G_ok follows (L := []) (lam_by (fn := Tryz.f169) (by kernel_rfl) lamAll_nil) g169.m6 (unAll_cons (fun _ => rfl) (unAll_cons (fun _ => rfl) unAll_nil)) (fun _ => rfl) g169.e6 9223372036854775808 rfl
noncomputable def g169.f (b0 : ByteArray) (b1 : Int) : Option (ByteArray × Int × Int) :=
  if b1 < 0 then some ((⟨#[]⟩ : ByteArray), 0, 1)
  else if (nz b0.size) < b1 then some ((⟨#[]⟩ : ByteArray), 0, 1)
  else (g169.l6 9223372036854775808 b0 b1 (⟨#[]⟩ : ByteArray) (-1) b1).bind fun (y3 : (ByteArray × Int × Int) ⊕ Unit) =>
  (match y3 with
  | .inl y4 => some y4
  | .inr y5 => some ((⟨#[]⟩ : ByteArray), 0, 2))
def g169.sp : FSpec := ⟨169, [zoS, zoI], [], [zoS, zoI, zoI], [], ByteArray × Int × Int, fun x => g169.f x.1.1.1 x.1.2.1.1, fun y => (((y.1, ()), (y.2.1, ()), (y.2.2, ()), ()), ())⟩
theorem g169.ok : FOk Tryz.prog g169.sp := fokz g169.G_ok Tryz.f169 (lamAll_cons g169.k6 lamAll_nil) (fun z => (z.1.1.1, z.1.2.1.1, z.1.2.2.1.1)) fun x => by kernel_rfl
def g141.G : List FSpec := []
theorem g141.G_ok : ∀ sp ∈ g141.G, FOk Tryz.prog sp := allOk_nil
noncomputable def g141.f (b0 : Int) : Option ByteArray :=
  if b0 = 1 then some (⟨#[52]⟩ : ByteArray)
  else if b0 = 28 then some (⟨#[104]⟩ : ByteArray)
  else if b0 = 2 then (if b0 = 2 then some (⟨#[110]⟩ : ByteArray)
   else if b0 = 15 then some (⟨#[50, 110]⟩ : ByteArray)
   else if b0 = 6 then some (⟨#[110, 110, 52, 52, 52, 52, 52]⟩ : ByteArray)
   else if b0 = 16 then some (⟨#[116]⟩ : ByteArray)
   else if b0 = 33 then some (⟨#[50, 50, 50, 117]⟩ : ByteArray)
   else some (⟨#[111]⟩ : ByteArray))
  else if b0 = 5 then (if b0 = 5 then some (⟨#[110]⟩ : ByteArray)
   else if b0 = 15 then some (⟨#[50, 110]⟩ : ByteArray)
   else if b0 = 6 then some (⟨#[110, 110, 52, 52, 52, 52, 52]⟩ : ByteArray)
   else if b0 = 16 then some (⟨#[116]⟩ : ByteArray)
   else if b0 = 33 then some (⟨#[50, 50, 50, 117]⟩ : ByteArray)
   else some (⟨#[111]⟩ : ByteArray))
  else if b0 = 12 then some (⟨#[110]⟩ : ByteArray)
  else if b0 = 15 then some (⟨#[50, 110]⟩ : ByteArray)
  else if b0 = 6 then some (⟨#[110, 110, 52, 52, 52, 52, 52]⟩ : ByteArray)
  else if b0 = 16 then some (⟨#[116]⟩ : ByteArray)
  else if b0 = 33 then some (⟨#[50, 50, 50, 117]⟩ : ByteArray)
  else some (⟨#[111]⟩ : ByteArray)
def g141.sp : FSpec := ⟨141, [zoI], [], [zoS], [], ByteArray, fun x => g141.f x.1.1.1, fun y => (((y, ()), ()), ())⟩
theorem g141.ok : FOk Tryz.prog g141.sp := fokz g141.G_ok Tryz.f141 lamAll_nil (fun z => z.1.1.1) fun x => by kernel_rfl
def g180.G : List FSpec := []
theorem g180.G_ok : ∀ sp ∈ g180.G, FOk Tryz.prog sp := allOk_nil
noncomputable def g180.f (b0 : Int) : Option Bool :=
  if b0 = 1 then some true
  else if b0 = 2 then some true
  else if b0 = 4 then some true
  else some (decide (b0 = 8))
def g180.sp : FSpec := ⟨180, [zoI], [], [zoB], [], Bool, fun x => g180.f x.1.1.1, fun y => (((y, ()), ()), ())⟩
theorem g180.ok : FOk Tryz.prog g180.sp := fokz g180.G_ok Tryz.f180 lamAll_nil (fun z => z.1.1.1) fun x => by kernel_rfl
def g140.G : List FSpec := []
theorem g140.G_ok : ∀ sp ∈ g140.G, FOk Tryz.prog sp := allOk_nil
noncomputable def g140.s3 (again : ByteArray → Int → Int → Option Int) (a0 : ByteArray) (a1 : Int) (a2 : Int) : Option Int :=
  if a2 < (nz a0.size) then (if 0 ≤ a2 then if a2 < nz a0.size then again a0 (IntKind.wrap .u64 ((IntKind.wrap .u64 (a1 * 256)) + (IntKind.wrap .u64 (bt a0 a2)))) (wrap64 (a2 + 1)) else none
   else none)
  else some a1
noncomputable def g140.l3 : Nat → ByteArray → Int → Int → Option Int
  | 0, _, _, _ => none
  | k + 1, a0, a1, a2 => g140.s3 (g140.l3 k) a0 a1 a2
def g140.n3 : Norm := ⟨[0, 3, 4], [zoS, (false, [.k (.int .u64)]), zoI], []⟩
def g140.x3 : List ExitS := [{ e := .exit 0, n := ⟨[3], [(false, [.k (.int .u64)])], []⟩, raw := Int, ret := fun y => (((y, ()), ()), ()), un := fun z => z.1.1.1 }]
def g140.m3 (k : Nat) (x : g140.n3.X) : Option (SumR g140.x3) := g140.l3 k x.1.1.1 x.1.2.1.1 x.1.2.2.1.1
def g140.L3 : LSpec := ⟨3, g140.n3, g140.x3, g140.m3 9223372036854775808⟩
theorem g140.e3 : ∀ k x, g140.m3 (k + 1) x = roundS Tryz.prog kap g140.G [] (loopAt Tryz.f140 3) 19 0 g140.n3 g140.x3 (g140.m3 k) x := fun k x => by kernel_rfl
theorem g140.k3 : LOk Tryz.prog 0 19 g140.L3 (loopAt Tryz.f140 3) := LOk.of (κ := kap) (l := g140.L3) g140.G_ok follows (L := []) (lam_by (fn := Tryz.f140) (by kernel_rfl) lamAll_nil) g140.m3 (unAll_cons (fun _ => rfl) unAll_nil) (fun _ => rfl) g140.e3 9223372036854775808 rfl
noncomputable def g140.f (b0 : ByteArray) : Option Int :=
  (g140.l3 9223372036854775808 b0 0 0).bind fun (y1 : Int) =>
  some y1
def g140.sp : FSpec := ⟨140, [zoS], [], [(false, [.k (.int .u64)])], [], Int, fun x => g140.f x.1.1.1, fun y => (((y, ()), ()), ())⟩
theorem g140.ok : FOk Tryz.prog g140.sp := fokz g140.G_ok Tryz.f140 (lamAll_cons g140.k3 lamAll_nil) (fun z => z.1.1.1) fun x => by kernel_rfl
def g181.G : List FSpec := [g180.sp, g140.sp]
theorem g181.G_ok : ∀ sp ∈ g181.G, FOk Tryz.prog sp := allOk_cons g180.ok (allOk_cons g140.ok allOk_nil)
noncomputable def g181.f (b0 : ByteArray) (b1 : Int) : Option (ByteArray × ByteArray × Int) :=
  (g180.f b1).bind fun (y1 : Bool) =>
  if (!y1) = true then some ((⟨#[]⟩ : ByteArray), (⟨#[]⟩ : ByteArray), 1)
  else if b1 = 8 then some ((⟨#[]⟩ : ByteArray), (⟨#[]⟩ : ByteArray), 1)
  else if (nz b0.size) < b1 then some ((⟨#[]⟩ : ByteArray), (⟨#[]⟩ : ByteArray), 2)
  else if (0 : Int) ≤ b1 then if b1 ≤ (nz b0.size) then (g140.f (b0.extract 0 b1.toNat)).bind fun (y2 : Int) =>
  if (IntKind.wrap .u64 (wrap64 ((nz b0.size) - b1))) < y2 then some ((⟨#[]⟩ : ByteArray), (⟨#[]⟩ : ByteArray), 2)
  else if (0 : Int) ≤ (wrap64 (b1 + (wrap64 y2))) then if (wrap64 (b1 + (wrap64 y2))) ≤ (nz b0.size) then if (0 : Int) ≤ b1 then if b1 ≤ (wrap64 (b1 + (wrap64 y2))) then if (0 : Int) ≤ (wrap64 (b1 + (wrap64 y2))) then if (wrap64 (b1 + (wrap64 y2))) ≤ (nz b0.size) then some (b0.extract b1.toNat ((wrap64 (b1 + (wrap64 y2))).toNat), b0.extract ((wrap64 (b1 + (wrap64 y2))).toNat) b0.size, 0) else none
  else none
  else none
  else none
  else none
  else none
  else none
  else none
def g181.sp : FSpec := ⟨181, [zoS, zoI], [], [zoS, zoS, zoI], [], ByteArray × ByteArray × Int, fun x => g181.f x.1.1.1 x.1.2.1.1, fun y => (((y.1, ()), (y.2.1, ()), (y.2.2, ()), ()), ())⟩
theorem g181.ok : FOk Tryz.prog g181.sp := fokz g181.G_ok Tryz.f181 lamAll_nil (fun z => (z.1.1.1, z.1.2.1.1, z.1.2.2.1.1)) fun x => by kernel_rfl
def g170.G : List FSpec := [g180.sp, g181.sp]
theorem g170.G_ok : ∀ sp ∈ g170.G, FOk Tryz.prog sp := allOk_cons g180.ok (allOk_cons g181.ok allOk_nil)
noncomputable def g170.s4 (again : ByteArray → Int → List ByteArray → Option ((List ByteArray × Int) ⊕ List ByteArray)) (a0 : ByteArray) (a1 : Int) (a2 : List ByteArray) : Option ((List ByteArray × Int) ⊕ List ByteArray) :=
  if (0 : Int) < (nz a0.size) then ((g181.f a0 a1).bind fun (y2 : ByteArray × ByteArray × Int) =>
   if y2.2.2 = 0 then (if nz a2.length + nz (([y2.1] : List ByteArray).length) ≤ room Tryz.prog 9 then again y2.2.1 a1 (a2 ++ ([y2.1] : List ByteArray)) else none)
   else some (.inl (([] : List ByteArray), y2.2.2)))
  else some (.inr a2)
noncomputable def g170.l4 : Nat → ByteArray → Int → List ByteArray → Option ((List ByteArray × Int) ⊕ List ByteArray)
  | 0, _, _, _ => none
  | k + 1, a0, a1, a2 => g170.s4 (g170.l4 k) a0 a1 a2
def g170.n4 : Norm := ⟨[0, 1, 6], [zoS, zoI, (false, [.sl 0])], [some (.lst 9 .str)]⟩
def g170.x4 : List ExitS := [{ e := .ret, n := ⟨[4, 5], [(false, [.k (.list 9 .str)]), zoI], []⟩, raw := List ByteArray × Int, ret := fun y => (((y.1, ()), (y.2, ()), ()), ()), un := fun z => (z.1.1.1, z.1.2.1.1) },
  { e := .exit 0, n := ⟨[6], [(false, [.sl 0])], [some (.lst 9 .str)]⟩, raw := List ByteArray, ret := fun y => ((((), ()), ()), (y, ())), un := fun z => z.2.1 }]
def g170.m4 (k : Nat) (x : g170.n4.X) : Option (SumR g170.x4) := g170.l4 k x.1.1.1 x.1.2.1.1 x.2.1
def g170.L4 : LSpec := ⟨4, g170.n4, g170.x4, g170.m4 9223372036854775808⟩
theorem g170.e4 : ∀ k x, g170.m4 (k + 1) x = roundS Tryz.prog kap g170.G [] (loopAt Tryz.f170 4) 36 0 g170.n4 g170.x4 (g170.m4 k) x := fun k x => by kernel_rfl
theorem g170.k4 : LOk Tryz.prog 0 36 g170.L4 (loopAt Tryz.f170 4) := LOk.of (κ := kap) (l := g170.L4) g170.G_ok follows (L := []) (lam_by (fn := Tryz.f170) (by kernel_rfl) lamAll_nil) g170.m4 (unAll_cons (fun _ => rfl) (unAll_cons (fun _ => rfl) unAll_nil)) (fun _ => rfl) g170.e4 9223372036854775808 rfl
noncomputable def g170.f (b0 : ByteArray) (b1 : Int) : Option (List ByteArray × Int) :=
  (g180.f b1).bind fun (y1 : Bool) =>
  if (!y1) = true then some (([] : List ByteArray), 1)
  else if b1 = 8 then some (([] : List ByteArray), 1)
  else (g170.l4 9223372036854775808 b0 b1 ([] : List ByteArray)).bind fun (y3 : (List ByteArray × Int) ⊕ List ByteArray) =>
  (match y3 with
  | .inl y4 => some y4
  | .inr y5 => some (y5, 0))
def g170.sp : FSpec := ⟨170, [zoS, zoI], [], [(false, [.k (.list 9 .str)]), zoI], [], List ByteArray × Int, fun x => g170.f x.1.1.1 x.1.2.1.1, fun y => (((y.1, ()), (y.2, ()), ()), ())⟩
theorem g170.ok : FOk Tryz.prog g170.sp := fokz g170.G_ok Tryz.f170 (lamAll_cons g170.k4 lamAll_nil) (fun z => (z.1.1.1, z.1.2.1.1)) fun x => by kernel_rfl
def g139.G : List FSpec := [g141.sp, g169.sp, g170.sp]
theorem g139.G_ok : ∀ sp ∈ g139.G, FOk Tryz.prog sp := allOk_cons g141.ok (allOk_cons g169.ok (allOk_cons g170.ok allOk_nil))
noncomputable def g139.s5 (again : ByteArray → Int → Int → ByteArray → Int → List ByteArray → Option ((List ByteArray × Bool) ⊕ (Int × Int × List ByteArray))) (a0 : ByteArray) (a1 : Int) (a2 : Int) (a3 : ByteArray) (a4 : Int) (a5 : List ByteArray) : Option ((List ByteArray × Bool) ⊕ (Int × Int × List ByteArray)) :=
  if a4 < (nz a3.size) then (if 0 ≤ a4 then if a4 < nz a3.size then if (bt a3 a4) = 110 then (if (bt a3 a4) = 110 then ((g169.f a0 a1).bind fun (y2 : ByteArray × Int × Int) =>
     if y2.2.2 = 0 then (if 0 ≤ a4 then if a4 < nz a3.size then if (bt a3 a4) = 117 then (if (0 : Int) ≤ y2.2.1 then if y2.2.1 ≤ (nz a0.size) then if (0 : Int) ≤ a1 then if a1 ≤ y2.2.1 then if y2.1 = (a0.extract a1.toNat y2.2.1.toNat) then (if nz a5.length + nz (([y2.1] : List ByteArray).length) ≤ room Tryz.prog 9 then again a0 y2.2.1 a2 a3 (wrap64 (a4 + 1)) (a5 ++ ([y2.1] : List ByteArray)) else none)
       else some (.inl (([] : List ByteArray), false))
       else none
       else none
       else none
       else none)
      else if nz a5.length + nz (([y2.1] : List ByteArray).length) ≤ room Tryz.prog 9 then again a0 y2.2.1 a2 a3 (wrap64 (a4 + 1)) (a5 ++ ([y2.1] : List ByteArray)) else none
      else none
      else none)
     else some (.inl (([] : List ByteArray), false)))
    else if (bt a3 a4) = 116 then (if (0 : Int) ≤ a1 then if a1 ≤ (nz a0.size) then (g170.f (a0.extract a1.toNat a0.size) 1).bind fun (y3 : List ByteArray × Int) =>
     if y3.2 = 0 then (if (nz y3.1.length) = 0 then some (.inl (([] : List ByteArray), false))
      else if a2 < (wrap64 (a1 + (wrap64 (a2 - a1)))) then some (.inl (([] : List ByteArray), false))
      else if (0 : Int) ≤ (wrap64 (a1 + (wrap64 (a2 - a1)))) then if (wrap64 (a1 + (wrap64 (a2 - a1)))) ≤ (nz a0.size) then if (0 : Int) ≤ a1 then if a1 ≤ (wrap64 (a1 + (wrap64 (a2 - a1)))) then if nz a5.length + nz (([a0.extract a1.toNat ((wrap64 (a1 + (wrap64 (a2 - a1)))).toNat)] : List ByteArray).length) ≤ room Tryz.prog 9 then again a0 (wrap64 (a1 + (wrap64 (a2 - a1)))) a2 a3 (wrap64 (a4 + 1)) (a5 ++ ([a0.extract a1.toNat ((wrap64 (a1 + (wrap64 (a2 - a1)))).toNat)] : List ByteArray)) else none
      else none
      else none
      else none
      else none)
     else some (.inl (([] : List ByteArray), false))
     else none
     else none)
    else if (bt a3 a4) = 111 then (if a2 < (wrap64 (a1 + (wrap64 (a2 - a1)))) then some (.inl (([] : List ByteArray), false))
     else if (0 : Int) ≤ (wrap64 (a1 + (wrap64 (a2 - a1)))) then if (wrap64 (a1 + (wrap64 (a2 - a1)))) ≤ (nz a0.size) then if (0 : Int) ≤ a1 then if a1 ≤ (wrap64 (a1 + (wrap64 (a2 - a1)))) then if nz a5.length + nz (([a0.extract a1.toNat ((wrap64 (a1 + (wrap64 (a2 - a1)))).toNat)] : List ByteArray).length) ≤ room Tryz.prog 9 then again a0 (wrap64 (a1 + (wrap64 (a2 - a1)))) a2 a3 (wrap64 (a4 + 1)) (a5 ++ ([a0.extract a1.toNat ((wrap64 (a1 + (wrap64 (a2 - a1)))).toNat)] : List ByteArray)) else none
     else none
     else none
     else none
     else none)
    else if (bt a3 a4) = 104 then (if a2 < (wrap64 (a1 + 16)) then some (.inl (([] : List ByteArray), false))
     else if (0 : Int) ≤ (wrap64 (a1 + 16)) then if (wrap64 (a1 + 16)) ≤ (nz a0.size) then if (0 : Int) ≤ a1 then if a1 ≤ (wrap64 (a1 + 16)) then if nz a5.length + nz (([a0.extract a1.toNat ((wrap64 (a1 + 16)).toNat)] : List ByteArray).length) ≤ room Tryz.prog 9 then again a0 (wrap64 (a1 + 16)) a2 a3 (wrap64 (a4 + 1)) (a5 ++ ([a0.extract a1.toNat ((wrap64 (a1 + 16)).toNat)] : List ByteArray)) else none
     else none
     else none
     else none
     else none)
    else if 0 ≤ a4 then if a4 < nz a3.size then if a2 < (wrap64 (a1 + (wrap64 ((wrap64 (bt a3 a4)) - 48)))) then some (.inl (([] : List ByteArray), false))
    else if (0 : Int) ≤ (wrap64 (a1 + (wrap64 ((wrap64 (bt a3 a4)) - 48)))) then if (wrap64 (a1 + (wrap64 ((wrap64 (bt a3 a4)) - 48)))) ≤ (nz a0.size) then if (0 : Int) ≤ a1 then if a1 ≤ (wrap64 (a1 + (wrap64 ((wrap64 (bt a3 a4)) - 48)))) then if nz a5.length + nz (([a0.extract a1.toNat ((wrap64 (a1 + (wrap64 ((wrap64 (bt a3 a4)) - 48)))).toNat)] : List ByteArray).length) ≤ room Tryz.prog 9 then again a0 (wrap64 (a1 + (wrap64 ((wrap64 (bt a3 a4)) - 48)))) a2 a3 (wrap64 (a4 + 1)) (a5 ++ ([a0.extract a1.toNat ((wrap64 (a1 + (wrap64 ((wrap64 (bt a3 a4)) - 48)))).toNat)] : List ByteArray)) else none
    else none
    else none
    else none
    else none
    else none
    else none)
   else if (bt a3 a4) = 117 then ((g169.f a0 a1).bind fun (y4 : ByteArray × Int × Int) =>
    if y4.2.2 = 0 then (if 0 ≤ a4 then if a4 < nz a3.size then if (bt a3 a4) = 117 then (if (0 : Int) ≤ y4.2.1 then if y4.2.1 ≤ (nz a0.size) then if (0 : Int) ≤ a1 then if a1 ≤ y4.2.1 then if y4.1 = (a0.extract a1.toNat y4.2.1.toNat) then (if nz a5.length + nz (([y4.1] : List ByteArray).length) ≤ room Tryz.prog 9 then again a0 y4.2.1 a2 a3 (wrap64 (a4 + 1)) (a5 ++ ([y4.1] : List ByteArray)) else none)
      else some (.inl (([] : List ByteArray), false))
      else none
      else none
      else none
      else none)
     else if nz a5.length + nz (([y4.1] : List ByteArray).length) ≤ room Tryz.prog 9 then again a0 y4.2.1 a2 a3 (wrap64 (a4 + 1)) (a5 ++ ([y4.1] : List ByteArray)) else none
     else none
     else none)
    else some (.inl (([] : List ByteArray), false)))
   else if (bt a3 a4) = 116 then (if (0 : Int) ≤ a1 then if a1 ≤ (nz a0.size) then (g170.f (a0.extract a1.toNat a0.size) 1).bind fun (y5 : List ByteArray × Int) =>
    if y5.2 = 0 then (if (nz y5.1.length) = 0 then some (.inl (([] : List ByteArray), false))
     else if a2 < (wrap64 (a1 + (wrap64 (a2 - a1)))) then some (.inl (([] : List ByteArray), false))
     else if (0 : Int) ≤ (wrap64 (a1 + (wrap64 (a2 - a1)))) then if (wrap64 (a1 + (wrap64 (a2 - a1)))) ≤ (nz a0.size) then if (0 : Int) ≤ a1 then if a1 ≤ (wrap64 (a1 + (wrap64 (a2 - a1)))) then if nz a5.length + nz (([a0.extract a1.toNat ((wrap64 (a1 + (wrap64 (a2 - a1)))).toNat)] : List ByteArray).length) ≤ room Tryz.prog 9 then again a0 (wrap64 (a1 + (wrap64 (a2 - a1)))) a2 a3 (wrap64 (a4 + 1)) (a5 ++ ([a0.extract a1.toNat ((wrap64 (a1 + (wrap64 (a2 - a1)))).toNat)] : List ByteArray)) else none
     else none
     else none
     else none
     else none)
    else some (.inl (([] : List ByteArray), false))
    else none
    else none)
   else if (bt a3 a4) = 111 then (if a2 < (wrap64 (a1 + (wrap64 (a2 - a1)))) then some (.inl (([] : List ByteArray), false))
    else if (0 : Int) ≤ (wrap64 (a1 + (wrap64 (a2 - a1)))) then if (wrap64 (a1 + (wrap64 (a2 - a1)))) ≤ (nz a0.size) then if (0 : Int) ≤ a1 then if a1 ≤ (wrap64 (a1 + (wrap64 (a2 - a1)))) then if nz a5.length + nz (([a0.extract a1.toNat ((wrap64 (a1 + (wrap64 (a2 - a1)))).toNat)] : List ByteArray).length) ≤ room Tryz.prog 9 then again a0 (wrap64 (a1 + (wrap64 (a2 - a1)))) a2 a3 (wrap64 (a4 + 1)) (a5 ++ ([a0.extract a1.toNat ((wrap64 (a1 + (wrap64 (a2 - a1)))).toNat)] : List ByteArray)) else none
    else none
    else none
    else none
    else none)
   else if (bt a3 a4) = 104 then (if a2 < (wrap64 (a1 + 16)) then some (.inl (([] : List ByteArray), false))
    else if (0 : Int) ≤ (wrap64 (a1 + 16)) then if (wrap64 (a1 + 16)) ≤ (nz a0.size) then if (0 : Int) ≤ a1 then if a1 ≤ (wrap64 (a1 + 16)) then if nz a5.length + nz (([a0.extract a1.toNat ((wrap64 (a1 + 16)).toNat)] : List ByteArray).length) ≤ room Tryz.prog 9 then again a0 (wrap64 (a1 + 16)) a2 a3 (wrap64 (a4 + 1)) (a5 ++ ([a0.extract a1.toNat ((wrap64 (a1 + 16)).toNat)] : List ByteArray)) else none
    else none
    else none
    else none
    else none)
   else if 0 ≤ a4 then if a4 < nz a3.size then if a2 < (wrap64 (a1 + (wrap64 ((wrap64 (bt a3 a4)) - 48)))) then some (.inl (([] : List ByteArray), false))
   else if (0 : Int) ≤ (wrap64 (a1 + (wrap64 ((wrap64 (bt a3 a4)) - 48)))) then if (wrap64 (a1 + (wrap64 ((wrap64 (bt a3 a4)) - 48)))) ≤ (nz a0.size) then if (0 : Int) ≤ a1 then if a1 ≤ (wrap64 (a1 + (wrap64 ((wrap64 (bt a3 a4)) - 48)))) then if nz a5.length + nz (([a0.extract a1.toNat ((wrap64 (a1 + (wrap64 ((wrap64 (bt a3 a4)) - 48)))).toNat)] : List ByteArray).length) ≤ room Tryz.prog 9 then again a0 (wrap64 (a1 + (wrap64 ((wrap64 (bt a3 a4)) - 48)))) a2 a3 (wrap64 (a4 + 1)) (a5 ++ ([a0.extract a1.toNat ((wrap64 (a1 + (wrap64 ((wrap64 (bt a3 a4)) - 48)))).toNat)] : List ByteArray)) else none
   else none
   else none
   else none
   else none
   else none
   else none
   else none
   else none)
  else some (.inr (a1, a2, a5))
noncomputable def g139.l5 : Nat → ByteArray → Int → Int → ByteArray → Int → List ByteArray → Option ((List ByteArray × Bool) ⊕ (Int × Int × List ByteArray))
  | 0, _, _, _, _, _, _ => none
  | k + 1, a0, a1, a2, a3, a4, a5 => g139.s5 (g139.l5 k) a0 a1 a2 a3 a4 a5
def g139.n5 : Norm := ⟨[0, 1, 2, 10, 11, 12], [zoS, zoI, zoI, (false, [.sl 0]), zoS, zoI], [some (.lst 9 .str)]⟩
def g139.x5 : List ExitS := [{ e := .ret, n := ⟨[8, 9], [(false, [.k (.list 9 .str)]), zoB], []⟩, raw := List ByteArray × Bool, ret := fun y => (((y.1, ()), (y.2, ()), ()), ()), un := fun z => (z.1.1.1, z.1.2.1.1) },
  { e := .exit 0, n := ⟨[1, 2, 10], [zoI, zoI, (false, [.sl 0])], [some (.lst 9 .str)]⟩, raw := Int × Int × List ByteArray, ret := fun y => (((y.1, ()), (y.2.1, ()), ((), ()), ()), (y.2.2, ())), un := fun z => (z.1.1.1, z.1.2.1.1, z.2.1) }]
def g139.m5 (k : Nat) (x : g139.n5.X) : Option (SumR g139.x5) := g139.l5 k x.1.1.1 x.1.2.1.1 x.1.2.2.1.1 x.1.2.2.2.2.1.1 x.1.2.2.2.2.2.1.1 x.2.1
def g139.L5 : LSpec := ⟨5, g139.n5, g139.x5, g139.m5 9223372036854775808⟩
theorem g139.e5 : ∀ k x, g139.m5 (k + 1) x = roundS Tryz.prog kap g139.G [] (loopAt Tryz.f139 5) 116 0 g139.n5 g139.x5 (g139.m5 k) x := fun k x => by kernel_rfl
theorem g139.k5 : LOk Tryz.prog 0 116 g139.L5 (loopAt Tryz.f139 5) := LOk.of (κ := kap) (l := g139.L5) g139.G_ok follows (L := []) (lam_by (fn := Tryz.f139) (by kernel_rfl) lamAll_nil) g139.m5 (unAll_cons (fun _ => rfl) (unAll_cons (fun _ => rfl) unAll_nil)) (fun _ => rfl) g139.e5 9223372036854775808 rfl
noncomputable def g139.f (b0 : ByteArray) (b1 : Int) (b2 : Int) (b3 : Int) : Option (List ByteArray × Bool) :=
  (g141.f b3).bind fun (y1 : ByteArray) =>
  if (0 : Int) ≤ b2 then if b2 ≤ (nz b0.size) then (g139.l5 9223372036854775808 (b0.extract 0 b2.toNat) b1 b2 y1 0 ([] : List ByteArray)).bind fun (y6 : (List ByteArray × Bool) ⊕ (Int × Int × List ByteArray)) =>
  (match y6 with
  | .inl y7 => some y7
  | .inr y8 => some (y8.2.2, decide (y8.1 = y8.2.1)))
  else none
  else none
def g139.sp : FSpec := ⟨139, [zoS, zoI, zoI, zoI], [], [(false, [.k (.list 9 .str)]), zoB], [], List ByteArray × Bool, fun x => g139.f x.1.1.1 x.1.2.1.1 x.1.2.2.1.1 x.1.2.2.2.1.1, fun y => (((y.1, ()), (y.2, ()), ()), ())⟩
theorem g139.ok : FOk Tryz.prog g139.sp := fokz g139.G_ok Tryz.f139 (lamAll_cons g139.k5 lamAll_nil) (fun z => (z.1.1.1, z.1.2.1.1)) fun x => by kernel_rfl
def g156.G : List FSpec := []
theorem g156.G_ok : ∀ sp ∈ g156.G, FOk Tryz.prog sp := allOk_nil
noncomputable def g156.s3 (again : List ByteArray → ByteArray → Int → Option ByteArray) (a0 : List ByteArray) (a1 : ByteArray) (a2 : Int) : Option ByteArray :=
  if a2 < (nz a0.length) then (if 0 ≤ a2 then if a2 < nz a0.length then (match a0[a2.toNat]? with
   | some x1 => if (nz a1.size) + (nz x1.size) ≤ 9223372036854775807 then again a0 (a1 ++ x1) (wrap64 (a2 + 1)) else none
   | none => none)
   else none
   else none)
  else some a1
noncomputable def g156.l3 : Nat → List ByteArray → ByteArray → Int → Option ByteArray
  | 0, _, _, _ => none
  | k + 1, a0, a1, a2 => g156.s3 (g156.l3 k) a0 a1 a2
def g156.n3 : Norm := ⟨[0, 3, 4], [(false, [.k (.list 9 .str)]), zoS, zoI], []⟩
def g156.x3 : List ExitS := [{ e := .exit 0, n := ⟨[3], [zoS], []⟩, raw := ByteArray, ret := fun y => (((y, ()), ()), ()), un := fun z => z.1.1.1 }]
def g156.m3 (k : Nat) (x : g156.n3.X) : Option (SumR g156.x3) := g156.l3 k x.1.1.1 x.1.2.1.1 x.1.2.2.1.1
def g156.L3 : LSpec := ⟨3, g156.n3, g156.x3, g156.m3 9223372036854775808⟩
theorem g156.e3 : ∀ k x, g156.m3 (k + 1) x = roundS Tryz.prog kap g156.G [] (loopAt Tryz.f156 3) 18 0 g156.n3 g156.x3 (g156.m3 k) x := fun k x => by kernel_rfl
theorem g156.k3 : LOk Tryz.prog 0 18 g156.L3 (loopAt Tryz.f156 3) := LOk.of (κ := kap) (l := g156.L3) g156.G_ok follows (L := []) (lam_by (fn := Tryz.f156) (by kernel_rfl) lamAll_nil) g156.m3 (unAll_cons (fun _ => rfl) unAll_nil) (fun _ => rfl) g156.e3 9223372036854775808 rfl
noncomputable def g156.f (b0 : List ByteArray) : Option ByteArray :=
  (g156.l3 9223372036854775808 b0 (⟨#[]⟩ : ByteArray) 0).bind fun (y2 : ByteArray) =>
  some y2
def g156.sp : FSpec := ⟨156, [(false, [.k (.list 9 .str)])], [], [zoS], [], ByteArray, fun x => g156.f x.1.1.1, fun y => (((y, ()), ()), ())⟩
theorem g156.ok : FOk Tryz.prog g156.sp := fokz g156.G_ok Tryz.f156 (lamAll_cons g156.k3 lamAll_nil) (fun z => z.1.1.1) fun x => by kernel_rfl
def g128.G : List FSpec := [g139.sp, g156.sp]
theorem g128.G_ok : ∀ sp ∈ g128.G, FOk Tryz.prog sp := allOk_cons g139.ok (allOk_cons g156.ok allOk_nil)
noncomputable def g128.f (b0 : ByteArray) (b1 : Int) (b2 : Int) (b3 : Int) : Option (ByteArray × Bool) :=
  (g139.f b0 b1 b2 b3).bind fun (y1 : List ByteArray × Bool) =>
  (g156.f y1.1).bind fun (y2 : ByteArray) =>
  if y1.2 = true then some (y2, decide ((nz y2.size) ≤ 65535))
  else some (y2, false)
def g128.sp : FSpec := ⟨128, [zoS, zoI, zoI, zoI], [], [zoS, zoB], [], ByteArray × Bool, fun x => g128.f x.1.1.1 x.1.2.1.1 x.1.2.2.1.1 x.1.2.2.2.1.1, fun y => (((y.1, ()), (y.2, ()), ()), ())⟩
theorem g128.ok : FOk Tryz.prog g128.sp := fokz g128.G_ok Tryz.f128 lamAll_nil (fun z => (z.1.1.1, z.1.2.1.1)) fun x => by kernel_rfl
def g98.G : List FSpec := [g128.sp]
theorem g98.G_ok : ∀ sp ∈ g98.G, FOk Tryz.prog sp := allOk_cons g128.ok allOk_nil
noncomputable def g98.f (b0 : Int) (b1 : ByteArray) : Option Bool :=
  (g128.f b1 0 (nz b1.size) b0).bind fun (y1 : ByteArray × Bool) =>
  if y1.2 = true then some (decide (y1.1 = b1))
  else some false
def g98.sp : FSpec := ⟨98, [zoI, zoS], [], [zoB], [], Bool, fun x => g98.f x.1.1.1 x.1.2.1.1, fun y => (((y, ()), ()), ())⟩
theorem g98.ok : FOk Tryz.prog g98.sp := fokz g98.G_ok Tryz.f98 lamAll_nil (fun z => z.1.1.1) fun x => by kernel_rfl
def g77.G : List FSpec := []
theorem g77.G_ok : ∀ sp ∈ g77.G, FOk Tryz.prog sp := allOk_nil
noncomputable def g77.s3 (again : ByteArray → Int → List Int → Option (List Int)) (a0 : ByteArray) (a1 : Int) (a2 : List Int) : Option (List Int) :=
  if a1 < (nz a0.size) then (if 0 ≤ a1 then if a1 < nz a0.size then if (65 : Int) ≤ (bt a0 a1) then (if (bt a0 a1) ≤ 90 then (if nz a2.length + nz (([IntKind.wrap .u8 ((bt a0 a1) + 32)] : List Int).length) ≤ room Tryz.prog 5 then again a0 (wrap64 (a1 + 1)) (a2 ++ ([IntKind.wrap .u8 ((bt a0 a1) + 32)] : List Int)) else none)
    else if nz a2.length + nz (([bt a0 a1] : List Int).length) ≤ room Tryz.prog 5 then again a0 (wrap64 (a1 + 1)) (a2 ++ ([bt a0 a1] : List Int)) else none)
   else if nz a2.length + nz (([bt a0 a1] : List Int).length) ≤ room Tryz.prog 5 then again a0 (wrap64 (a1 + 1)) (a2 ++ ([bt a0 a1] : List Int)) else none
   else none
   else none)
  else some a2
noncomputable def g77.l3 : Nat → ByteArray → Int → List Int → Option (List Int)
  | 0, _, _, _ => none
  | k + 1, a0, a1, a2 => g77.s3 (g77.l3 k) a0 a1 a2
def g77.n3 : Norm := ⟨[0, 3, 4], [zoS, (false, [.sl 0]), zoI], [some (.lst 5 (.int .u8))]⟩
def g77.x3 : List ExitS := [{ e := .exit 0, n := ⟨[3], [(false, [.sl 0])], [some (.lst 5 (.int .u8))]⟩, raw := List Int, ret := fun y => ((((), ()), ()), (y, ())), un := fun z => z.2.1 }]
def g77.m3 (k : Nat) (x : g77.n3.X) : Option (SumR g77.x3) := g77.l3 k x.1.1.1 x.1.2.2.1.1 x.2.1
def g77.L3 : LSpec := ⟨3, g77.n3, g77.x3, g77.m3 9223372036854775808⟩
theorem g77.e3 : ∀ k x, g77.m3 (k + 1) x = roundS Tryz.prog kap g77.G [] (loopAt Tryz.f77 3) 29 0 g77.n3 g77.x3 (g77.m3 k) x := fun k x => by kernel_rfl
theorem g77.k3 : LOk Tryz.prog 0 29 g77.L3 (loopAt Tryz.f77 3) := LOk.of (κ := kap) (l := g77.L3) g77.G_ok follows (L := []) (lam_by (fn := Tryz.f77) (by kernel_rfl) lamAll_nil) g77.m3 (unAll_cons (fun _ => rfl) unAll_nil) (fun _ => rfl) g77.e3 9223372036854775808 rfl
noncomputable def g77.f (b0 : ByteArray) : Option ByteArray :=
  (g77.l3 9223372036854775808 b0 0 ([] : List Int)).bind fun (y1 : List Int) =>
  some (bytesStr y1)
def g77.sp : FSpec := ⟨77, [zoS], [], [zoS], [], ByteArray, fun x => g77.f x.1.1.1, fun y => (((y, ()), ()), ())⟩
theorem g77.ok : FOk Tryz.prog g77.sp := fokz g77.G_ok Tryz.f77 (lamAll_cons g77.k3 lamAll_nil) (fun z => z.1.1.1) fun x => by kernel_rfl
def g32.G : List FSpec := [g72.sp, g77.sp]
theorem g32.G_ok : ∀ sp ∈ g32.G, FOk Tryz.prog sp := allOk_cons g72.ok (allOk_cons g77.ok allOk_nil)
noncomputable def g32.s6 (again : List ByteArray → ByteArray → Int → Option ByteArray) (a0 : List ByteArray) (a1 : ByteArray) (a2 : Int) : Option ByteArray :=
  if a2 < (nz a0.length) then (if 0 ≤ a2 then if a2 < nz a0.length then (match a0[a2.toNat]? with
   | some x2 => if 0 ≤ a2 then if a2 < nz a0.length then (match a0[a2.toNat]? with
    | some x3 => (g77.f x3).bind fun (y4 : ByteArray) =>
     if (nz ((bytesStr ([IntKind.wrap .u8 (nz x2.size)] : List Int)).size)) + (nz y4.size) ≤ 9223372036854775807 then if (nz a1.size) + (nz (((bytesStr ([IntKind.wrap .u8 (nz x2.size)] : List Int)) ++ y4).size)) ≤ 9223372036854775807 then again a0 (a1 ++ ((bytesStr ([IntKind.wrap .u8 (nz x2.size)] : List Int)) ++ y4)) (wrap64 (a2 + 1)) else none
     else none
    | none => none)
    else none
    else none
   | none => none)
   else none
   else none)
  else some a1
noncomputable def g32.l6 : Nat → List ByteArray → ByteArray → Int → Option ByteArray
  | 0, _, _, _ => none
  | k + 1, a0, a1, a2 => g32.s6 (g32.l6 k) a0 a1 a2
def g32.n6 : Norm := ⟨[3, 5, 6], [(false, [.k (.list 9 .str)]), zoS, zoI], []⟩
def g32.x6 : List ExitS := [{ e := .exit 0, n := ⟨[5], [zoS], []⟩, raw := ByteArray, ret := fun y => (((y, ()), ()), ()), un := fun z => z.1.1.1 }]
def g32.m6 (k : Nat) (x : g32.n6.X) : Option (SumR g32.x6) := g32.l6 k x.1.1.1 x.1.2.1.1 x.1.2.2.1.1
def g32.L6 : LSpec := ⟨6, g32.n6, g32.x6, g32.m6 9223372036854775808⟩
theorem g32.e6 : ∀ k x, g32.m6 (k + 1) x = roundS Tryz.prog kap g32.G [] (loopAt Tryz.f32 6) 38 0 g32.n6 g32.x6 (g32.m6 k) x := fun k x => by kernel_rfl
theorem g32.k6 : LOk Tryz.prog 0 38 g32.L6 (loopAt Tryz.f32 6) := LOk.of (κ := kap) (l := g32.L6) g32.G_ok follows (L := []) (lam_by (fn := Tryz.f32) (by kernel_rfl) lamAll_nil) g32.m6 (unAll_cons (fun _ => rfl) unAll_nil) (fun _ => rfl) g32.e6 9223372036854775808 rfl
noncomputable def g32.f (b0 : ByteArray) : Option ByteArray :=
  (g72.f b0).bind fun (y1 : List ByteArray × Bool) =>
  if (!y1.2) = true then some (⟨#[]⟩ : ByteArray)
  else (g32.l6 9223372036854775808 y1.1 (⟨#[]⟩ : ByteArray) 0).bind fun (y5 : ByteArray) =>
  if (nz y5.size) + 1 ≤ 9223372036854775807 then some (y5 ++ (⟨#[0]⟩ : ByteArray)) else none
def g32.sp : FSpec := ⟨32, [zoS], [], [zoS], [], ByteArray, fun x => g32.f x.1.1.1, fun y => (((y, ()), ()), ())⟩
theorem g32.ok : FOk Tryz.prog g32.sp := fokz g32.G_ok Tryz.f32 (lamAll_cons g32.k6 lamAll_nil) (fun z => z.1.1.1) fun x => by kernel_rfl
def g116.G : List FSpec := [g98.sp, g139.sp, g141.sp, g32.sp]
theorem g116.G_ok : ∀ sp ∈ g116.G, FOk Tryz.prog sp := allOk_cons g98.ok (allOk_cons g139.ok (allOk_cons g141.ok (allOk_cons g32.ok allOk_nil)))
noncomputable def g116.s7 (again : List ByteArray → ByteArray → ByteArray → Int → Option ByteArray) (a0 : List ByteArray) (a1 : ByteArray) (a2 : ByteArray) (a3 : Int) : Option ByteArray :=
  if a3 < (nz a0.length) then (if 0 ≤ a3 then if a3 < nz a1.size then if (bt a1 a3) = 110 then (if 0 ≤ a3 then if a3 < nz a0.length then (match a0[a3.toNat]? with
    | some x4 => (g32.f x4).bind fun (y5 : ByteArray) =>
     if (nz a2.size) + (nz y5.size) ≤ 9223372036854775807 then again a0 a1 (a2 ++ y5) (wrap64 (a3 + 1)) else none
    | none => none)
    else none
    else none)
   else if 0 ≤ a3 then if a3 < nz a1.size then if (bt a1 a3) = 117 then (if 0 ≤ a3 then if a3 < nz a0.length then (match a0[a3.toNat]? with
    | some x6 => (g32.f x6).bind fun (y7 : ByteArray) =>
     if (nz a2.size) + (nz y7.size) ≤ 9223372036854775807 then again a0 a1 (a2 ++ y7) (wrap64 (a3 + 1)) else none
    | none => none)
    else none
    else none)
   else if 0 ≤ a3 then if a3 < nz a0.length then (match a0[a3.toNat]? with
   | some x8 => if (nz a2.size) + (nz x8.size) ≤ 9223372036854775807 then again a0 a1 (a2 ++ x8) (wrap64 (a3 + 1)) else none
   | none => none)
   else none
   else none
   else none
   else none
   else none
   else none)
  else some a2
noncomputable def g116.l7 : Nat → List ByteArray → ByteArray → ByteArray → Int → Option ByteArray
  | 0, _, _, _, _ => none
  | k + 1, a0, a1, a2, a3 => g116.s7 (g116.l7 k) a0 a1 a2 a3
def g116.n7 : Norm := ⟨[5, 7, 8, 9], [(false, [.k (.list 9 .str)]), zoS, zoS, zoI], []⟩
def g116.x7 : List ExitS := [{ e := .exit 0, n := ⟨[8], [zoS], []⟩, raw := ByteArray, ret := fun y => (((y, ()), ()), ()), un := fun z => z.1.1.1 }]
def g116.m7 (k : Nat) (x : g116.n7.X) : Option (SumR g116.x7) := g116.l7 k x.1.1.1 x.1.2.1.1 x.1.2.2.1.1 x.1.2.2.2.1.1
def g116.L7 : LSpec := ⟨7, g116.n7, g116.x7, g116.m7 9223372036854775808⟩
theorem g116.e7 : ∀ k x, g116.m7 (k + 1) x = roundS Tryz.prog kap g116.G [] (loopAt Tryz.f116 7) 54 0 g116.n7 g116.x7 (g116.m7 k) x := fun k x => by kernel_rfl
theorem g116.k7 : LOk Tryz.prog 0 54 g116.L7 (loopAt Tryz.f116 7) := LOk.of (κ := kap) (l := g116.L7) g116.G_ok follows (L := []) (lam_by (fn := Tryz.f116) (by kernel_rfl) lamAll_nil) g116.m7 (unAll_cons (fun _ => rfl) unAll_nil) (fun _ => rfl) g116.e7 9223372036854775808 rfl
noncomputable def g116.f (b0 : Int) (b1 : ByteArray) : Option ByteArray :=
  (g98.f b0 b1).bind fun (y1 : Bool) =>
  if (!y1) = true then some (⟨#[]⟩ : ByteArray)
  else (g139.f b1 0 (nz b1.size) b0).bind fun (y2 : List ByteArray × Bool) =>
  (g141.f b0).bind fun (y3 : ByteArray) =>
  (g116.l7 9223372036854775808 y2.1 y3 (⟨#[]⟩ : ByteArray) 0).bind fun (y9 : ByteArray) =>
  some y9
def g116.sp : FSpec := ⟨116, [zoI, zoS], [], [zoS], [], ByteArray, fun x => g116.f x.1.1.1 x.1.2.1.1, fun y => (((y, ()), ()), ())⟩
theorem g116.ok : FOk Tryz.prog g116.sp := fokz g116.G_ok Tryz.f116 (lamAll_cons g116.k7 lamAll_nil) (fun z => z.1.1.1) fun x => by kernel_rfl
def g97.G : List FSpec := []
theorem g97.G_ok : ∀ sp ∈ g97.G, FOk Tryz.prog sp := allOk_nil
noncomputable def g97.f (b0 : Int) (b1 : Bool) : Option Bool :=
  if b0 = 1 then some true
  else if b0 = 254 then some (!b1)
  else some false
def g97.sp : FSpec := ⟨97, [zoI, zoB], [], [zoB], [], Bool, fun x => g97.f x.1.1.1 x.1.2.1.1, fun y => (((y, ()), ()), ())⟩
theorem g97.ok : FOk Tryz.prog g97.sp := fokz g97.G_ok Tryz.f97 lamAll_nil (fun z => z.1.1.1) fun x => by kernel_rfl
def g56.G : List FSpec := [g31.sp, g97.sp, g98.sp]
theorem g56.G_ok : ∀ sp ∈ g56.G, FOk Tryz.prog sp := allOk_cons g31.ok (allOk_cons g97.ok (allOk_cons g98.ok allOk_nil))
noncomputable def g56.f (b0 : ByteArray × Int × Int × Int × ByteArray) : Option Bool :=
  (g31.f b0.1).bind fun (y1 : Bool) =>
  if (!y1) = true then some false
  else if b0.2.1 < 0 then some false
  else if (65535 : Int) < b0.2.1 then some false
  else if b0.2.2.1 < 0 then some false
  else if (65535 : Int) < b0.2.2.1 then some false
  else if b0.2.2.2.1 < 0 then some false
  else if (2147483647 : Int) < b0.2.2.2.1 then some false
  else if (65535 : Int) < (nz b0.2.2.2.2.size) then some false
  else (g97.f b0.2.2.1 (decide (b0.2.2.2.2 = (⟨#[]⟩ : ByteArray)))).bind fun (y2 : Bool) =>
  if (!y2) = true then some true
  else (g98.f b0.2.1 b0.2.2.2.2).bind fun (y3 : Bool) =>
  some y3
def g56.sp : FSpec := ⟨56, [zoR], [], [zoB], [], Bool, fun x => g56.f x.1.1.1, fun y => (((y, ()), ()), ())⟩
theorem g56.ok : FOk Tryz.prog g56.sp := fokz g56.G_ok Tryz.f56 lamAll_nil (fun z => z.1.1.1) fun x => by kernel_rfl
def g146.G : List FSpec := []
theorem g146.G_ok : ∀ sp ∈ g146.G, FOk Tryz.prog sp := allOk_nil
noncomputable def g146.f (b0 : Int) : Option (List Int) :=
  if b0 = 1 then some ([4] : List Int)
  else if b0 = 28 then some ([16] : List Int)
  else if b0 = 2 then (if b0 = 2 then some ([(-1)] : List Int)
   else if b0 = 15 then some ([2, (-1)] : List Int)
   else if b0 = 6 then some ([(-1), (-1), 4, 4, 4, 4, 4] : List Int)
   else if b0 = 16 then some ([(-3)] : List Int)
   else if b0 = 33 then some ([2, 2, 2, (-2)] : List Int)
   else some ([(-4)] : List Int))
  else if b0 = 5 then (if b0 = 5 then some ([(-1)] : List Int)
   else if b0 = 15 then some ([2, (-1)] : List Int)
   else if b0 = 6 then some ([(-1), (-1), 4, 4, 4, 4, 4] : List Int)
   else if b0 = 16 then some ([(-3)] : List Int)
   else if b0 = 33 then some ([2, 2, 2, (-2)] : List Int)
   else some ([(-4)] : List Int))
  else if b0 = 12 then some ([(-1)] : List Int)
  else if b0 = 15 then some ([2, (-1)] : List Int)
  else if b0 = 6 then some ([(-1), (-1), 4, 4, 4, 4, 4] : List Int)
  else if b0 = 16 then some ([(-3)] : List Int)
  else if b0 = 33 then some ([2, 2, 2, (-2)] : List Int)
  else some ([(-4)] : List Int)
def g146.sp : FSpec := ⟨146, [zoI], [], [(false, [.k (.list 3 (.int .i64))])], [], List Int, fun x => g146.f x.1.1.1, fun y => (((y, ()), ()), ())⟩
theorem g146.ok : FOk Tryz.prog g146.sp := fokz g146.G_ok Tryz.f146 lamAll_nil (fun z => z.1.1.1) fun x => by kernel_rfl
def g147.G : List FSpec := [g173.sp, g174.sp]
theorem g147.G_ok : ∀ sp ∈ g147.G, FOk Tryz.prog sp := allOk_cons g173.ok (allOk_cons g174.ok allOk_nil)
noncomputable def g147.f (b0 : ByteArray) (b1 : Int) (b2 : Int) (b3 : Int) : Option (ByteArray × Int × Bool) :=
  if b3 = (-1) then (if b3 = (-1) then (if (0 : Int) ≤ b2 then if b2 ≤ (nz b0.size) then (g173.f (b0.extract 0 b2.toNat) b1).bind fun (y1 : ByteArray × Int × Int) =>
    if y1.2.2 = 0 then (if b3 = (-1) then some (y1.1, y1.2.1, true)
     else if (0 : Int) ≤ y1.2.1 then if y1.2.1 ≤ (nz b0.size) then if (0 : Int) ≤ b1 then if b1 ≤ y1.2.1 then some (y1.1, y1.2.1, decide (y1.1 = (b0.extract b1.toNat y1.2.1.toNat))) else none
     else none
     else none
     else none)
    else some (y1.1, y1.2.1, false)
    else none
    else none)
   else if b3 = (-3) then (if (0 : Int) ≤ b2 then if b2 ≤ (nz b0.size) then if (0 : Int) ≤ b1 then if b1 ≤ b2 then (g174.f (b0.extract b1.toNat b2.toNat) 1).bind fun (y2 : List ByteArray × Int) =>
    if (0 : Int) ≤ b2 then if b2 ≤ (nz b0.size) then if (0 : Int) ≤ b1 then if b1 ≤ b2 then if y2.2 = 0 then some (b0.extract b1.toNat b2.toNat, b2, decide ((0 : Int) < (nz y2.1.length)))
    else some (b0.extract b1.toNat b2.toNat, b2, false)
    else none
    else none
    else none
    else none
    else none
    else none
    else none
    else none)
   else if b3 = (-4) then (if (0 : Int) ≤ b2 then if b2 ≤ (nz b0.size) then if (0 : Int) ≤ b1 then if b1 ≤ b2 then some (b0.extract b1.toNat b2.toNat, b2, true) else none
    else none
    else none
    else none)
   else if (wrap64 (b2 - b1)) < b3 then some ((⟨#[]⟩ : ByteArray), 0, false)
   else if (0 : Int) ≤ (wrap64 (b1 + b3)) then if (wrap64 (b1 + b3)) ≤ (nz b0.size) then if (0 : Int) ≤ b1 then if b1 ≤ (wrap64 (b1 + b3)) then some (b0.extract b1.toNat ((wrap64 (b1 + b3)).toNat), wrap64 (b1 + b3), true) else none
   else none
   else none
   else none)
  else if b3 = (-2) then (if (0 : Int) ≤ b2 then if b2 ≤ (nz b0.size) then (g173.f (b0.extract 0 b2.toNat) b1).bind fun (y3 : ByteArray × Int × Int) =>
   if y3.2.2 = 0 then (if b3 = (-1) then some (y3.1, y3.2.1, true)
    else if (0 : Int) ≤ y3.2.1 then if y3.2.1 ≤ (nz b0.size) then if (0 : Int) ≤ b1 then if b1 ≤ y3.2.1 then some (y3.1, y3.2.1, decide (y3.1 = (b0.extract b1.toNat y3.2.1.toNat))) else none
    else none
    else none
    else none)
   else some (y3.1, y3.2.1, false)
   else none
   else none)
  else if b3 = (-3) then (if (0 : Int) ≤ b2 then if b2 ≤ (nz b0.size) then if (0 : Int) ≤ b1 then if b1 ≤ b2 then (g174.f (b0.extract b1.toNat b2.toNat) 1).bind fun (y4 : List ByteArray × Int) =>
   if (0 : Int) ≤ b2 then if b2 ≤ (nz b0.size) then if (0 : Int) ≤ b1 then if b1 ≤ b2 then if y4.2 = 0 then some (b0.extract b1.toNat b2.toNat, b2, decide ((0 : Int) < (nz y4.1.length)))
   else some (b0.extract b1.toNat b2.toNat, b2, false)
   else none
   else none
   else none
   else none
   else none
   else none
   else none
   else none)
  else if b3 = (-4) then (if (0 : Int) ≤ b2 then if b2 ≤ (nz b0.size) then if (0 : Int) ≤ b1 then if b1 ≤ b2 then some (b0.extract b1.toNat b2.toNat, b2, true) else none
   else none
   else none
   else none)
  else if (wrap64 (b2 - b1)) < b3 then some ((⟨#[]⟩ : ByteArray), 0, false)
  else if (0 : Int) ≤ (wrap64 (b1 + b3)) then if (wrap64 (b1 + b3)) ≤ (nz b0.size) then if (0 : Int) ≤ b1 then if b1 ≤ (wrap64 (b1 + b3)) then some (b0.extract b1.toNat ((wrap64 (b1 + b3)).toNat), wrap64 (b1 + b3), true) else none
  else none
  else none
  else none
def g147.sp : FSpec := ⟨147, [zoS, zoI, zoI, zoI], [], [zoS, zoI, zoB], [], ByteArray × Int × Bool, fun x => g147.f x.1.1.1 x.1.2.1.1 x.1.2.2.1.1 x.1.2.2.2.1.1, fun y => (((y.1, ()), (y.2.1, ()), (y.2.2, ()), ()), ())⟩
theorem g147.ok : FOk Tryz.prog g147.sp := fokz g147.G_ok Tryz.f147 lamAll_nil (fun z => (z.1.1.1, z.1.2.1.1, z.1.2.2.1.1)) fun x => by kernel_rfl
def g121.G : List FSpec := []
theorem g121.G_ok : ∀ sp ∈ g121.G, FOk Tryz.prog sp := allOk_nil
noncomputable def g121.f (b0 : Int) (b1 : ByteArray) (b2 : Int) : Option Int :=
  some (wrap64 (b2 + (nz b1.size)))
def g121.sp : FSpec := ⟨121, [zoI, zoS, (false, [.ptr 0 0])], [some (.cells [.k (.int .i64)] 3)], [], [some (.cells [.k (.int .i64)] 3)], Int, fun x => g121.f x.1.1.1 x.1.2.1.1 x.2.1.1, fun y => ((), ((y, ()), ()))⟩
theorem g121.ok : FOk Tryz.prog g121.sp := fokz g121.G_ok Tryz.f121 lamAll_nil (fun z => z.2.1.1) fun x => by kernel_rfl
def g120.G : List FSpec := [g146.sp, g147.sp, g121.sp]
theorem g120.G_ok : ∀ sp ∈ g120.G, FOk Tryz.prog sp := allOk_cons g146.ok (allOk_cons g147.ok (allOk_cons g121.ok allOk_nil))
noncomputable def g120.s2 (again : ByteArray → Int → Int → List Int → Int → Int → Int → Option ((Bool × Int) ⊕ (Int × Int × Int))) (a0 : ByteArray) (a1 : Int) (a2 : Int) (a3 : List Int) (a4 : Int) (a5 : Int) (a6 : Int) : Option ((Bool × Int) ⊕ (Int × Int × Int)) :=
  if a5 < a4 then (if 0 ≤ a5 then if a5 < nz a3.length then (match a3[a5.toNat]? with
   | some x2 => (g147.f a0 a1 a2 x2).bind fun (y3 : ByteArray × Int × Bool) =>
    if (!y3.2.2) = true then some (.inl (false, a6))
    else (g121.f x2 y3.1 a6).bind fun (y4 : Int) =>
    again a0 y3.2.1 a2 a3 a4 (wrap64 (a5 + 1)) y4
   | none => none)
   else none
   else none)
  else some (.inr (a1, a2, a6))
noncomputable def g120.l2 : Nat → ByteArray → Int → Int → List Int → Int → Int → Int → Option ((Bool × Int) ⊕ (Int × Int × Int))
  | 0, _, _, _, _, _, _, _ => none
  | k + 1, a0, a1, a2, a3, a4, a5, a6 => g120.s2 (g120.l2 k) a0 a1 a2 a3 a4 a5 a6
def g120.n2 : Norm := ⟨[0, 1, 2, 4, 17, 18, 19], [zoS, zoI, zoI, (false, [.clo 121 [0]]), (false, [.k (.list 3 (.int .i64))]), zoI, zoI], [some (.cells [.k (.int .i64)] 3)]⟩
def g120.x2 : List ExitS := [{ e := .ret, n := ⟨[10], [zoB], [some (.cells [.k (.int .i64)] 3)]⟩, raw := Bool × Int, ret := fun y => (((y.1, ()), ()), ((y.2, ()), ())), un := fun z => (z.1.1.1, z.2.1.1) },
  { e := .exit 0, n := ⟨[1, 2], [zoI, zoI], [some (.cells [.k (.int .i64)] 3)]⟩, raw := Int × Int × Int, ret := fun y => (((y.1, ()), (y.2.1, ()), ()), ((y.2.2, ()), ())), un := fun z => (z.1.1.1, z.1.2.1.1, z.2.1.1) }]
def g120.m2 (k : Nat) (x : g120.n2.X) : Option (SumR g120.x2) := g120.l2 k x.1.1.1 x.1.2.1.1 x.1.2.2.1.1 x.1.2.2.2.2.1.1 x.1.2.2.2.2.2.1.1 x.1.2.2.2.2.2.2.1.1 x.2.1.1
def g120.L2 : LSpec := ⟨2, g120.n2, g120.x2, g120.m2 9223372036854775808⟩
theorem g120.e2 : ∀ k x, g120.m2 (k + 1) x = roundS Tryz.prog kap g120.G [] (loopAt Tryz.f120 2) 43 1 g120.n2 g120.x2 (g120.m2 k) x := fun k x => by kernel_rfl
theorem g120.k2 : LOk Tryz.prog 1 43 g120.L2 (loopAt Tryz.f120 2) := LOk.of (κ := kap) (l := g120.L2) g120.G_ok follows (L := []) (lam_by (fn := Tryz.f120) (by kernel_rfl) lamAll_nil) g120.m2 (unAll_cons (fun _ => rfl) (unAll_cons (fun _ => rfl) unAll_nil)) (fun _ => rfl) g120.e2 9223372036854775808 rfl
noncomputable def g120.f (b0 : ByteArray) (b1 : Int) (b2 : Int) (b3 : Int) (b4 : Int) : Option (Bool × Int) :=
  (g146.f b3).bind fun (y1 : List Int) =>
  (g120.l2 9223372036854775808 b0 b1 b2 y1 (nz y1.length) 0 b4).bind fun (y5 : (Bool × Int) ⊕ (Int × Int × Int)) =>
  (match y5 with
  | .inl y6 => some y6
  | .inr y7 => some (decide (y7.1 = y7.2.1), y7.2.2))
def g120.sp : FSpec := ⟨120, [zoS, zoI, zoI, zoI, (false, [.clo 121 [0]])], [some (.cells [.k (.int .i64)] 3)], [zoB], [some (.cells [.k (.int .i64)] 3)], Bool × Int, fun x => g120.f x.1.1.1 x.1.2.1.1 x.1.2.2.1.1 x.1.2.2.2.1.1 x.2.1.1, fun y => (((y.1, ()), ()), ((y.2, ()), ()))⟩
theorem g120.ok : FOk Tryz.prog g120.sp := fokz g120.G_ok Tryz.f120 (lamAll_cons g120.k2 lamAll_nil) (fun z => (z.1.1.1, z.2.1.1)) fun x => by kernel_rfl
def g87.G : List FSpec := [g120.sp]
theorem g87.G_ok : ∀ sp ∈ g87.G, FOk Tryz.prog sp := allOk_cons g120.ok allOk_nil
noncomputable def g87.f (b0 : Int) (b1 : ByteArray) : Option Bool :=
  if (65535 : Int) < (nz b1.size) then some false
  else (g120.f b1 0 (nz b1.size) b0 0).bind fun (y1 : Bool × Int) =>
  if y1.1 = true then some (decide (y1.2 = (nz b1.size)))
  else some false
def g87.sp : FSpec := ⟨87, [zoI, zoS], [], [zoB], [], Bool, fun x => g87.f x.1.1.1 x.1.2.1.1, fun y => (((y, ()), ()), ())⟩
theorem g87.ok : FOk Tryz.prog g87.sp := fokz g87.G_ok Tryz.f87 lamAll_nil (fun z => z.1.1.1) fun x => by kernel_rfl
def g167.G : List FSpec := [g178.sp]
theorem g167.G_ok : ∀ sp ∈ g167.G, FOk Tryz.prog sp := allOk_cons g178.ok allOk_nil
noncomputable def g167.f (b0 : ByteArray) (b1 : List Int) : Option (Int × List Int) :=
  (g178.f b1).bind fun (y1 : List Int) =>
  if nz y1.length + nz ((strBytes b0).length) ≤ room Tryz.prog 5 then some (nz b0.size, y1 ++ (strBytes b0)) else none
def g167.sp : FSpec := ⟨167, [(false, [.ptr 0 0]), zoS], [some (.cells [.np 0, .sl 1] 172), some (.lst 5 (.int .u8))], [zoI, (false, [.ci])], [some (.cells [.np 0, .sl 2] 172), none, some (.lst 5 (.int .u8))], Int × List Int, fun x => g167.f x.1.2.1.1 x.2.2.1, fun y => (((y.1, ()), ((), ()), ()), (((), (), ()), y.2, ()))⟩
theorem g167.ok : FOk Tryz.prog g167.sp := fokz g167.G_ok Tryz.f167 lamAll_nil (fun z => (z.1.1.1, z.2.2.1)) fun x => by kernel_rfl
def g176.G : List FSpec := [g150.sp, g167.sp]
theorem g176.G_ok : ∀ sp ∈ g176.G, FOk Tryz.prog sp := allOk_cons g150.ok (allOk_cons g167.ok allOk_nil)
noncomputable def g176.f (b0 : Int) (b1 : ByteArray) (b2 : List Int) : Option (List Int) :=
  if b0 = (-1) then ((g150.f b1).bind fun (y1 : ByteArray) =>
   (g167.f y1 b2).bind fun (y2 : Int × List Int) =>
   some y2.2)
  else if b0 = (-2) then ((g150.f b1).bind fun (y3 : ByteArray) =>
   (g167.f y3 b2).bind fun (y4 : Int × List Int) =>
   some y4.2)
  else (g167.f b1 b2).bind fun (y5 : Int × List Int) =>
  some y5.2
def g176.sp : FSpec := ⟨176, [zoI, zoS, (false, [.ptr 0 0])], [some (.cells [.np 0, .sl 1] 172), some (.lst 5 (.int .u8))], [], [some (.cells [.np 0, .sl 2] 172), none, some (.lst 5 (.int .u8))], List Int, fun x => g176.f x.1.1.1 x.1.2.1.1 x.2.2.1, fun y => ((), (((), (), ()), y, ()))⟩
theorem g176.ok : FOk Tryz.prog g176.sp := fokz g176.G_ok Tryz.f176 lamAll_nil (fun z => z.2.2.1) fun x => by kernel_rfl
def g120v1.G : List FSpec := [g146.sp, g147.sp, g176.sp]
theorem g120v1.G_ok : ∀ sp ∈ g120v1.G, FOk Tryz.prog sp := allOk_cons g146.ok (allOk_cons g147.ok (allOk_cons g176.ok allOk_nil))
noncomputable def g120v1.s2 (again : ByteArray → Int → Int → List Int → Int → Int → List Int → Option ((Bool × List Int) ⊕ (Int × Int × List Int))) (a0 : ByteArray) (a1 : Int) (a2 : Int) (a3 : List Int) (a4 : Int) (a5 : Int) (a6 : List Int) : Option ((Bool × List Int) ⊕ (Int × Int × List Int)) :=
  if a5 < a4 then (if 0 ≤ a5 then if a5 < nz a3.length then (match a3[a5.toNat]? with
   | some x2 => (g147.f a0 a1 a2 x2).bind fun (y3 : ByteArray × Int × Bool) =>
    if (!y3.2.2) = true then some (.inl (false, a6))
    else (g176.f x2 y3.1 a6).bind fun (y4 : List Int) =>
    again a0 y3.2.1 a2 a3 a4 (wrap64 (a5 + 1)) y4
   | none => none)
   else none
   else none)
  else some (.inr (a1, a2, a6))
noncomputable def g120v1.l2 : Nat → ByteArray → Int → Int → List Int → Int → Int → List Int → Option ((Bool × List Int) ⊕ (Int × Int × List Int))
  | 0, _, _, _, _, _, _, _ => none
  | k + 1, a0, a1, a2, a3, a4, a5, a6 => g120v1.s2 (g120v1.l2 k) a0 a1 a2 a3 a4 a5 a6
def g120v1.n2 : Norm := ⟨[0, 1, 2, 4, 17, 18, 19], [zoS, zoI, zoI, (false, [.clo 176 [0]]), (false, [.k (.list 3 (.int .i64))]), zoI, zoI], [some (.cells [.np 0, .sl 1] 172), some (.lst 5 (.int .u8))]⟩
def g120v1.x2 : List ExitS := [{ e := .ret, n := ⟨[10], [zoB], [some (.cells [.np 0, .sl 1] 172), some (.lst 5 (.int .u8))]⟩, raw := Bool × List Int, ret := fun y => (((y.1, ()), ()), (((), (), ()), y.2, ())), un := fun z => (z.1.1.1, z.2.2.1) },
  { e := .exit 0, n := ⟨[1, 2], [zoI, zoI], [some (.cells [.np 0, .sl 1] 172), some (.lst 5 (.int .u8))]⟩, raw := Int × Int × List Int, ret := fun y => (((y.1, ()), (y.2.1, ()), ()), (((), (), ()), y.2.2, ())), un := fun z => (z.1.1.1, z.1.2.1.1, z.2.2.1) }]
def g120v1.m2 (k : Nat) (x : g120v1.n2.X) : Option (SumR g120v1.x2) := g120v1.l2 k x.1.1.1 x.1.2.1.1 x.1.2.2.1.1 x.1.2.2.2.2.1.1 x.1.2.2.2.2.2.1.1 x.1.2.2.2.2.2.2.1.1 x.2.2.1
def g120v1.L2 : LSpec := ⟨2, g120v1.n2, g120v1.x2, g120v1.m2 9223372036854775808⟩
theorem g120v1.e2 : ∀ k x, g120v1.m2 (k + 1) x = roundS Tryz.prog kap g120v1.G [] (loopAt Tryz.f120 2) 43 1 g120v1.n2 g120v1.x2 (g120v1.m2 k) x := fun k x => by kernel_rfl
theorem g120v1.k2 : LOk Tryz.prog 1 43 g120v1.L2 (loopAt Tryz.f120 2) := LOk.of (κ := kap) (l := g120v1.L2) g120v1.G_ok follows (L := []) (lam_by (fn := Tryz.f120) (by kernel_rfl) lamAll_nil) g120v1.m2 (unAll_cons (fun _ => rfl) (unAll_cons (fun _ => rfl) unAll_nil)) (fun _ => rfl) g120v1.e2 9223372036854775808 rfl
noncomputable def g120v1.f (b0 : ByteArray) (b1 : Int) (b2 : Int) (b3 : Int) : Option (Bool × List Int) :=
  (g146.f b3).bind fun (y1 : List Int) =>
  (g120v1.l2 9223372036854775808 b0 b1 b2 y1 (nz y1.length) 0 ([] : List Int)).bind fun (y5 : (Bool × List Int) ⊕ (Int × Int × List Int)) =>
  (match y5 with
  | .inl y6 => some y6
  | .inr y7 => some (decide (y7.1 = y7.2.1), y7.2.2))
def g120v1.sp : FSpec := ⟨120, [zoS, zoI, zoI, zoI, (false, [.clo 176 [0]])], [some (.cells [.np 0, .cn] 172)], [zoB], [some (.cells [.np 0, .sl 1] 172), some (.lst 5 (.int .u8))], Bool × List Int, fun x => g120v1.f x.1.1.1 x.1.2.1.1 x.1.2.2.1.1 x.1.2.2.2.1.1, fun y => (((y.1, ()), ()), (((), (), ()), y.2, ()))⟩
theorem g120v1.ok : FOk Tryz.prog g120v1.sp := fokz g120v1.G_ok Tryz.f120 (lamAll_cons g120v1.k2 lamAll_nil) (fun z => (z.1.1.1, z.2.2.1)) fun x => by kernel_rfl
def g155.G : List FSpec := [g87.sp, g120v1.sp, g168.sp]
theorem g155.G_ok : ∀ sp ∈ g155.G, FOk Tryz.prog sp := allOk_cons g87.ok (allOk_cons g120v1.ok (allOk_cons g168.ok allOk_nil))
noncomputable def g155.f (b0 : Int) (b1 : ByteArray) : Option ByteArray :=
  (g87.f b0 b1).bind fun (y1 : Bool) =>
  if (!y1) = true then some (⟨#[]⟩ : ByteArray)
  else (g120v1.f b1 0 (nz b1.size) b0).bind fun (y2 : Bool × List Int) =>
  (g168.f y2.2).bind fun (y3 : ByteArray) =>
  some y3
def g155.sp : FSpec := ⟨155, [zoI, zoS], [], [zoS], [], ByteArray, fun x => g155.f x.1.1.1 x.1.2.1.1, fun y => (((y, ()), ()), ())⟩
theorem g155.ok : FOk Tryz.prog g155.sp := fokz g155.G_ok Tryz.f155 lamAll_nil (fun z => z.1.1.1) fun x => by kernel_rfl
def g86.G : List FSpec := []
theorem g86.G_ok : ∀ sp ∈ g86.G, FOk Tryz.prog sp := allOk_nil
noncomputable def g86.f (b0 : ByteArray × Int × Int × Int × ByteArray) : Option Bool :=
  if b0.2.2.1 = 1 then some true
  else if b0.2.2.1 = 254 then some (!decide (b0.2.2.2.2 = (⟨#[]⟩ : ByteArray)))
  else some false
def g86.sp : FSpec := ⟨86, [zoR], [], [zoB], [], Bool, fun x => g86.f x.1.1.1, fun y => (((y, ()), ()), ())⟩
theorem g86.ok : FOk Tryz.prog g86.sp := fokz g86.G_ok Tryz.f86 lamAll_nil (fun z => z.1.1.1) fun x => by kernel_rfl
def g47.G : List FSpec := [g44.sp, g86.sp, g87.sp]
theorem g47.G_ok : ∀ sp ∈ g47.G, FOk Tryz.prog sp := allOk_cons g44.ok (allOk_cons g86.ok (allOk_cons g87.ok allOk_nil))
noncomputable def g47.f (b0 : ByteArray × Int × Int × Int × ByteArray) : Option Bool :=
  (g44.f b0.1).bind fun (y1 : Bool) =>
  if (!y1) = true then some false
  else if b0.2.1 < 0 then some false
  else if (65535 : Int) < b0.2.1 then some false
  else if b0.2.2.1 < 0 then some false
  else if (65535 : Int) < b0.2.2.1 then some false
  else if b0.2.2.2.1 < 0 then some false
  else if (2147483647 : Int) < b0.2.2.2.1 then some false
  else if (65535 : Int) < (nz b0.2.2.2.2.size) then some false
  else (g86.f b0).bind fun (y2 : Bool) =>
  if (!y2) = true then some true
  else (g87.f b0.2.1 b0.2.2.2.2).bind fun (y3 : Bool) =>
  some y3
def g47.sp : FSpec := ⟨47, [zoR], [], [zoB], [], Bool, fun x => g47.f x.1.1.1, fun y => (((y, ()), ()), ())⟩
theorem g47.ok : FOk Tryz.prog g47.sp := fokz g47.G_ok Tryz.f47 lamAll_nil (fun z => z.1.1.1) fun x => by kernel_rfl
def g79.G : List FSpec := []
theorem g79.G_ok : ∀ sp ∈ g79.G, FOk Tryz.prog sp := allOk_nil
noncomputable def g79.f (b0 : Int) (b1 : Int) : Option Bool :=
  if (0 : Int) ≤ b0 then some (decide (b0 ≤ b1))
  else some false
def g79.sp : FSpec := ⟨79, [zoI, zoI], [], [zoB], [], Bool, fun x => g79.f x.1.1.1 x.1.2.1.1, fun y => (((y, ()), ()), ())⟩
theorem g79.ok : FOk Tryz.prog g79.sp := fokz g79.G_ok Tryz.f79 lamAll_nil (fun z => z.1.1.1) fun x => by kernel_rfl
def g80.G : List FSpec := [g56.sp]
theorem g80.G_ok : ∀ sp ∈ g80.G, FOk Tryz.prog sp := allOk_cons g56.ok allOk_nil
noncomputable def g80.s2 (again : ZL → Int → Option (Bool ⊕ (ZL))) (a0 : ZL) (a1 : Int) : Option (Bool ⊕ (ZL)) :=
  if a1 < (nz a0.length) then (if 0 ≤ a1 then if a1 < nz a0.length then (match a0[a1.toNat]? with
   | some x1 => (g56.f x1).bind fun (y2 : Bool) =>
    if (!y2) = true then some (.inl false)
    else again a0 (wrap64 (a1 + 1))
   | none => none)
   else none
   else none)
  else some (.inr a0)
noncomputable def g80.l2 : Nat → ZL → Int → Option (Bool ⊕ (ZL))
  | 0, _, _ => none
  | k + 1, a0, a1 => g80.s2 (g80.l2 k) a0 a1
def g80.n2 : Norm := ⟨[0, 3], [zoL, zoI], []⟩
def g80.x2 : List ExitS := [{ e := .ret, n := ⟨[2], [zoB], []⟩, raw := Bool, ret := fun y => (((y, ()), ()), ()), un := fun z => z.1.1.1 },
  { e := .exit 0, n := ⟨[0], [zoL], []⟩, raw := (ZL), ret := fun y => (((y, ()), ()), ()), un := fun z => z.1.1.1 }]
def g80.m2 (k : Nat) (x : g80.n2.X) : Option (SumR g80.x2) := g80.l2 k x.1.1.1 x.1.2.1.1
def g80.L2 : LSpec := ⟨2, g80.n2, g80.x2, g80.m2 9223372036854775808⟩
theorem g80.e2 : ∀ k x, g80.m2 (k + 1) x = roundS Tryz.prog kap g80.G [] (loopAt Tryz.f80 2) 19 0 g80.n2 g80.x2 (g80.m2 k) x := fun k x => by kernel_rfl
theorem g80.k2 : LOk Tryz.prog 0 19 g80.L2 (loopAt Tryz.f80 2) := LOk.of (κ := kap) (l := g80.L2) g80.G_ok follows (L := []) (lam_by (fn := Tryz.f80) (by kernel_rfl) lamAll_nil) g80.m2 (unAll_cons (fun _ => rfl) (unAll_cons (fun _ => rfl) unAll_nil)) (fun _ => rfl) g80.e2 9223372036854775808 rfl
noncomputable def g80.f (b0 : ZL) : Option Bool :=
  (g80.l2 9223372036854775808 b0 0).bind fun (y3 : Bool ⊕ (ZL)) =>
  (match y3 with
  | .inl y4 => some y4
  | .inr y5 => some (decide ((nz y5.length) ≤ 65535)))
def g80.sp : FSpec := ⟨80, [zoL], [], [zoB], [], Bool, fun x => g80.f x.1.1.1, fun y => (((y, ()), ()), ())⟩
theorem g80.ok : FOk Tryz.prog g80.sp := fokz g80.G_ok Tryz.f80 (lamAll_cons g80.k2 lamAll_nil) (fun z => z.1.1.1) fun x => by kernel_rfl
def g36.G : List FSpec := [g31.sp, g79.sp, g80.sp]
theorem g36.G_ok : ∀ sp ∈ g36.G, FOk Tryz.prog sp := allOk_cons g31.ok (allOk_cons g79.ok (allOk_cons g80.ok allOk_nil))
noncomputable def g36.s2 (again : Int → Int × Bool × Int × Bool × Bool × Bool × Bool × Int × Int × List (ByteArray × Int × Int) × ZL × ZL × ZL → Option (Bool ⊕ ZM)) (a0 : Int) (a1 : Int × Bool × Int × Bool × Bool × Bool × Bool × Int × Int × List (ByteArray × Int × Int) × ZL × ZL × ZL) : Option (Bool ⊕ ZM) :=
  if a0 < (nz a1.2.2.2.2.2.2.2.2.2.1.length) then (if 0 ≤ a0 then if a0 < nz a1.2.2.2.2.2.2.2.2.2.1.length then (match a1.2.2.2.2.2.2.2.2.2.1[a0.toNat]? with
   | some x1 => (g31.f x1.1).bind fun (y2 : Bool) =>
    if (!y2) = true then some (.inl false)
    else if 0 ≤ a0 then if a0 < nz a1.2.2.2.2.2.2.2.2.2.1.length then (match a1.2.2.2.2.2.2.2.2.2.1[a0.toNat]? with
    | some x3 => (g79.f x3.2.1 65535).bind fun (y4 : Bool) =>
     if (!y4) = true then some (.inl false)
     else if 0 ≤ a0 then if a0 < nz a1.2.2.2.2.2.2.2.2.2.1.length then (match a1.2.2.2.2.2.2.2.2.2.1[a0.toNat]? with
     | some x5 => (g79.f x5.2.2 65535).bind fun (y6 : Bool) =>
      if (!y6) = true then some (.inl false)
      else again (wrap64 (a0 + 1)) a1
     | none => none)
     else none
     else none
    | none => none)
    else none
    else none
   | none => none)
   else none
   else none)
  else some (.inr a1)
noncomputable def g36.l2 : Nat → Int → Int × Bool × Int × Bool × Bool × Bool × Bool × Int × Int × List (ByteArray × Int × Int) × ZL × ZL × ZL → Option (Bool ⊕ ZM)
  | 0, _, _ => none
  | k + 1, a0, a1 => g36.s2 (g36.l2 k) a0 a1
def g36.n2 : Norm := ⟨[1, 3], [(false, [.ptr 0 0]), zoI], [some (.cells [.k zkM] 62)]⟩
def g36.x2 : List ExitS := [{ e := .ret, n := ⟨[2], [zoB], []⟩, raw := Bool, ret := fun y => (((y, ()), ()), ()), un := fun z => z.1.1.1 },
  { e := .exit 0, n := ⟨[1], [(false, [.ptr 0 0])], [some (.cells [.k zkM] 62)]⟩, raw := ZM, ret := fun y => ((((), ()), ()), ((y, ()), ())), un := fun z => z.2.1.1 }]
def g36.m2 (k : Nat) (x : g36.n2.X) : Option (SumR g36.x2) := g36.l2 k x.1.2.1.1 x.2.1.1
def g36.L2 : LSpec := ⟨2, g36.n2, g36.x2, g36.m2 9223372036854775808⟩
theorem g36.e2 : ∀ k x, g36.m2 (k + 1) x = roundS Tryz.prog kap g36.G [] (loopAt Tryz.f36 2) 78 0 g36.n2 g36.x2 (g36.m2 k) x := fun k x => by kernel_rfl
theorem g36.k2 : LOk Tryz.prog 0 78 g36.L2 (loopAt Tryz.f36 2) := LOk.of (κ := kap) (l := g36.L2) g36.G_ok follows (L := []) (lam_by (fn := Tryz.f36) (by kernel_rfl) lamAll_nil) g36.m2 (unAll_cons (fun _ => rfl) (unAll_cons (fun _ => rfl) unAll_nil)) (fun _ => rfl) g36.e2 9223372036854775808 rfl
noncomputable def g36.f (b0 : Int × Bool × Int × Bool × Bool × Bool × Bool × Int × Int × List (ByteArray × Int × Int) × ZL × ZL × ZL) : Option Bool :=
  (g36.l2 9223372036854775808 0 b0).bind fun (y7 : Bool ⊕ ZM) =>
  (match y7 with
  | .inl y8 => some y8
  | .inr y9 => (g79.f y9.1 65535).bind fun (y10 : Bool) =>
   if y10 = true then ((g79.f y9.2.2.1 15).bind fun (y11 : Bool) =>
    if y11 = true then ((g79.f y9.2.2.2.2.2.2.2.1 7).bind fun (y12 : Bool) =>
     if y12 = true then ((g79.f y9.2.2.2.2.2.2.2.2.1 15).bind fun (y13 : Bool) =>
      if y13 = true then (if (nz y9.2.2.2.2.2.2.2.2.2.1.length) ≤ 65535 then ((g80.f y9.2.2.2.2.2.2.2.2.2.2.1).bind fun (y14 : Bool) =>
        if y14 = true then ((g80.f y9.2.2.2.2.2.2.2.2.2.2.2.1).bind fun (y15 : Bool) =>
         if y15 = true then ((g80.f y9.2.2.2.2.2.2.2.2.2.2.2.2).bind fun (y16 : Bool) =>
          some y16)
         else some false)
        else some false)
       else some false)
      else some false)
     else some false)
    else some false)
   else some false)
def g36.sp : FSpec := ⟨36, [(true, [.k zkM])], [], [zoB], [], Bool, fun x => g36.f x.1.1.1, fun y => (((y, ()), ()), ())⟩
theorem g36.ok : FOk Tryz.prog g36.sp := fokz g36.G_ok Tryz.f36 (lamAll_cons g36.k2 lamAll_nil) (fun z => z.1.1.1) fun x => by kernel_rfl
def g35.G : List FSpec := []
theorem g35.G_ok : ∀ sp ∈ g35.G, FOk Tryz.prog sp := allOk_nil
noncomputable def g35.s3 (again : Int → Int × Bool × Int × Bool × Bool × Bool × Bool × Int × Int × List (ByteArray × Int × Int) × ZL × ZL × ZL → ZL → Option (Bool ⊕ (ZM × (ZL)))) (a0 : Int) (a1 : Int × Bool × Int × Bool × Bool × Bool × Bool × Int × Int × List (ByteArray × Int × Int) × ZL × ZL × ZL) (a2 : ZL) : Option (Bool ⊕ (ZM × (ZL))) :=
  if a0 < (nz a2.length) then (if 0 ≤ a0 then if a0 < nz a2.length then (match a2[a0.toNat]? with
   | some x1 => if (600 : Int) < (nz x1.1.size) then some (.inl false)
    else if 0 ≤ a0 then if a0 < nz a2.length then (match a2[a0.toNat]? with
    | some x2 => if (2000 : Int) < (nz x2.2.2.2.2.size) then some (.inl false)
     else again (wrap64 (a0 + 1)) a1 a2
    | none => none)
    else none
    else none
   | none => none)
   else none
   else none)
  else some (.inr (a1, a2))
noncomputable def g35.l3 : Nat → Int → Int × Bool × Int × Bool × Bool × Bool × Bool × Int × Int × List (ByteArray × Int × Int) × ZL × ZL × ZL → ZL → Option (Bool ⊕ (ZM × (ZL)))
  | 0, _, _, _ => none
  | k + 1, a0, a1, a2 => g35.s3 (g35.l3 k) a0 a1 a2
def g35.n3 : Norm := ⟨[1, 3, 4], [(false, [.ptr 0 0]), (false, [.sl 1]), zoI], [some (.cells [.k zkM] 62), some (.lst 49 zkR)]⟩
def g35.x3 : List ExitS := [{ e := .ret, n := ⟨[2], [zoB], []⟩, raw := Bool, ret := fun y => (((y, ()), ()), ()), un := fun z => z.1.1.1 },
  { e := .exit 0, n := ⟨[1, 3], [(false, [.ptr 0 0]), (false, [.sl 1])], [some (.cells [.k zkM] 62), some (.lst 49 zkR)]⟩, raw := ZM × (ZL), ret := fun y => ((((), ()), ((), ()), ()), ((y.1, ()), y.2, ())), un := fun z => (z.2.1.1, z.2.2.1) }]
def g35.m3 (k : Nat) (x : g35.n3.X) : Option (SumR g35.x3) := g35.l3 k x.1.2.2.1.1 x.2.1.1 x.2.2.1
def g35.L3 : LSpec := ⟨3, g35.n3, g35.x3, g35.m3 9223372036854775808⟩
theorem g35.e3 : ∀ k x, g35.m3 (k + 1) x = roundS Tryz.prog kap g35.G [] (loopAt Tryz.f35 3) 46 0 g35.n3 g35.x3 (g35.m3 k) x := fun k x => by kernel_rfl
theorem g35.k3 : LOk Tryz.prog 0 46 g35.L3 (loopAt Tryz.f35 3) := LOk.of (κ := kap) (l := g35.L3) g35.G_ok follows (L := []) (lam_by (fn := Tryz.f35) (by kernel_rfl) lamAll_nil) g35.m3 (unAll_cons (fun _ => rfl) (unAll_cons (fun _ => rfl) unAll_nil)) (fun _ => rfl) g35.e3 9223372036854775808 rfl
noncomputable def g35.f (b0 : Int × Bool × Int × Bool × Bool × Bool × Bool × Int × Int × List (ByteArray × Int × Int) × ZL × ZL × ZL) : Option Bool :=
  if nz (([] : ZL).length) + nz b0.2.2.2.2.2.2.2.2.2.2.1.length ≤ room Tryz.prog 49 then if nz ((([] : ZL) ++ b0.2.2.2.2.2.2.2.2.2.2.1).length) + nz b0.2.2.2.2.2.2.2.2.2.2.2.1.length ≤ room Tryz.prog 49 then if nz (((([] : ZL) ++ b0.2.2.2.2.2.2.2.2.2.2.1) ++ b0.2.2.2.2.2.2.2.2.2.2.2.1).length) + nz b0.2.2.2.2.2.2.2.2.2.2.2.2.length ≤ room Tryz.prog 49 then (g35.l3 9223372036854775808 0 b0 (((([] : ZL) ++ b0.2.2.2.2.2.2.2.2.2.2.1) ++ b0.2.2.2.2.2.2.2.2.2.2.2.1) ++ b0.2.2.2.2.2.2.2.2.2.2.2.2)).bind fun (y3 : Bool ⊕ (ZM × (ZL))) =>
  (match y3 with
  | .inl y4 => some y4
  | .inr y5 => if (nz y5.2.length) ≤ 30 then some (decide ((nz y5.1.2.2.2.2.2.2.2.2.2.1.length) ≤ 10))
   else some false)
  else none
  else none
  else none
def g35.sp : FSpec := ⟨35, [(true, [.k zkM])], [], [zoB], [], Bool, fun x => g35.f x.1.1.1, fun y => (((y, ()), ()), ())⟩
theorem g35.ok : FOk Tryz.prog g35.sp := fokz g35.G_ok Tryz.f35 (lamAll_cons g35.k3 lamAll_nil) (fun z => z.1.1.1) fun x => by kernel_rfl
def g24.G : List FSpec := []
theorem g24.G_ok : ∀ sp ∈ g24.G, FOk Tryz.prog sp := allOk_nil
noncomputable def g24.s4 (again : ZL → ZL → Int → Option (Bool ⊕ Unit)) (a0 : ZL) (a1 : ZL) (a2 : Int) : Option (Bool ⊕ Unit) :=
  if a2 < (nz a0.length) then (if 0 ≤ a2 then if a2 < nz a0.length then (match a0[a2.toNat]? with
   | some x1 => if 0 ≤ a2 then if a2 < nz a1.length then (match a1[a2.toNat]? with
    | some x2 => if x1.1 = x2.1 ∧ x1.2.1 = x2.2.1 ∧ x1.2.2.1 = x2.2.2.1 ∧ x1.2.2.2.1 = x2.2.2.2.1 ∧ x1.2.2.2.2 = x2.2.2.2.2 ∧ True then again a0 a1 (wrap64 (a2 + 1))
     else some (.inl false)
    | none => none)
    else none
    else none
   | none => none)
   else none
   else none)
  else some (.inr ())
noncomputable def g24.l4 : Nat → ZL → ZL → Int → Option (Bool ⊕ Unit)
  | 0, _, _, _ => none
  | k + 1, a0, a1, a2 => g24.s4 (g24.l4 k) a0 a1 a2
def g24.n4 : Norm := ⟨[0, 1, 5], [zoL, zoL, zoI], []⟩
def g24.x4 : List ExitS := [{ e := .ret, n := ⟨[4], [zoB], []⟩, raw := Bool, ret := fun y => (((y, ()), ()), ()), un := fun z => z.1.1.1 },
  { e := .exit 0, n := ⟨[], [], []⟩, raw := Unit, ret := fun y => ((), ()), un := fun z => () }]
def g24.m4 (k : Nat) (x : g24.n4.X) : Option (SumR g24.x4) := g24.l4 k x.1.1.1 x.1.2.1.1 x.1.2.2.1.1
def g24.L4 : LSpec := ⟨4, g24.n4, g24.x4, g24.m4 9223372036854775808⟩
theorem g24.e4 : ∀ k x, g24.m4 (k + 1) x = roundS Tryz.prog kap g24.G [] (loopAt Tryz.f24 4) 26 0 g24.n4 g24.x4 (g24.m4 k) x := fun k x => by kernel_rfl
theorem g24.k4 : LOk Tryz.prog 0 26 g24.L4 (loopAt Tryz.f24 4) := LOk.of (κ := kap) (l := g24.L4) g24.G_ok follows (L := []) (lam_by (fn := Tryz.f24) (by kernel_rfl) lamAll_nil) g24.m4 (unAll_cons (fun _ => rfl) (unAll_cons (fun _ => rfl) unAll_nil)) (fun _ => rfl) g24.e4 9223372036854775808 rfl
noncomputable def g24.f (b0 : ZL) (b1 : ZL) : Option Bool :=
  if (nz b0.length) = (nz b1.length) then ((g24.l4 9223372036854775808 b0 b1 0).bind fun (y3 : Bool ⊕ Unit) =>
   (match y3 with
   | .inl y4 => some y4
   | .inr y5 => some true))
  else some false
def g24.sp : FSpec := ⟨24, [zoL, zoL], [], [zoB], [], Bool, fun x => g24.f x.1.1.1 x.1.2.1.1, fun y => (((y, ()), ()), ())⟩
theorem g24.ok : FOk Tryz.prog g24.sp := fokz g24.G_ok Tryz.f24 (lamAll_cons g24.k4 lamAll_nil) (fun z => z.1.1.1) fun x => by kernel_rfl
def g37.G : List FSpec := [g24.sp]
theorem g37.G_ok : ∀ sp ∈ g37.G, FOk Tryz.prog sp := allOk_cons g24.ok allOk_nil
noncomputable def g37.s4 (again : Int → Int × Bool × Int × Bool × Bool × Bool × Bool × Int × Int × List (ByteArray × Int × Int) × ZL × ZL × ZL → Int × Bool × Int × Bool × Bool × Bool × Bool × Int × Int × List (ByteArray × Int × Int) × ZL × ZL × ZL → Option (Bool ⊕ (ZM × ZM))) (a0 : Int) (a1 : Int × Bool × Int × Bool × Bool × Bool × Bool × Int × Int × List (ByteArray × Int × Int) × ZL × ZL × ZL) (a2 : Int × Bool × Int × Bool × Bool × Bool × Bool × Int × Int × List (ByteArray × Int × Int) × ZL × ZL × ZL) : Option (Bool ⊕ (ZM × ZM)) :=
  if a0 < (nz a1.2.2.2.2.2.2.2.2.2.1.length) then (if 0 ≤ a0 then if a0 < nz a1.2.2.2.2.2.2.2.2.2.1.length then (match a1.2.2.2.2.2.2.2.2.2.1[a0.toNat]? with
   | some x1 => if 0 ≤ a0 then if a0 < nz a2.2.2.2.2.2.2.2.2.2.1.length then (match a2.2.2.2.2.2.2.2.2.2.1[a0.toNat]? with
    | some x2 => if x1.1 = x2.1 ∧ x1.2.1 = x2.2.1 ∧ x1.2.2 = x2.2.2 ∧ True then again (wrap64 (a0 + 1)) a1 a2
     else some (.inl false)
    | none => none)
    else none
    else none
   | none => none)
   else none
   else none)
  else some (.inr (a1, a2))
noncomputable def g37.l4 : Nat → Int → Int × Bool × Int × Bool × Bool × Bool × Bool × Int × Int × List (ByteArray × Int × Int) × ZL × ZL × ZL → Int × Bool × Int × Bool × Bool × Bool × Bool × Int × Int × List (ByteArray × Int × Int) × ZL × ZL × ZL → Option (Bool ⊕ (ZM × ZM))
  | 0, _, _, _ => none
  | k + 1, a0, a1, a2 => g37.s4 (g37.l4 k) a0 a1 a2
def g37.n4 : Norm := ⟨[2, 3, 5], [(false, [.ptr 0 0]), (false, [.ptr 1 0]), zoI], [some (.cells [.k zkM] 62), some (.cells [.k zkM] 62)]⟩
def g37.x4 : List ExitS := [{ e := .ret, n := ⟨[4], [zoB], []⟩, raw := Bool, ret := fun y => (((y, ()), ()), ()), un := fun z => z.1.1.1 },
  { e := .exit 0, n := ⟨[2, 3], [(false, [.ptr 0 0]), (false, [.ptr 1 0])], [some (.cells [.k zkM] 62), some (.cells [.k zkM] 62)]⟩, raw := ZM × ZM, ret := fun y => ((((), ()), ((), ()), ()), ((y.1, ()), (y.2, ()), ())), un := fun z => (z.2.1.1, z.2.2.1.1) }]
def g37.m4 (k : Nat) (x : g37.n4.X) : Option (SumR g37.x4) := g37.l4 k x.1.2.2.1.1 x.2.1.1 x.2.2.1.1
def g37.L4 : LSpec := ⟨4, g37.n4, g37.x4, g37.m4 9223372036854775808⟩
theorem g37.e4 : ∀ k x, g37.m4 (k + 1) x = roundS Tryz.prog kap g37.G [] (loopAt Tryz.f37 4) 113 0 g37.n4 g37.x4 (g37.m4 k) x := fun k x => by kernel_rfl
theorem g37.k4 : LOk Tryz.prog 0 113 g37.L4 (loopAt Tryz.f37 4) := LOk.of (κ := kap) (l := g37.L4) g37.G_ok follows (L := []) (lam_by (fn := Tryz.f37) (by kernel_rfl) lamAll_nil) g37.m4 (unAll_cons (fun _ => rfl) (unAll_cons (fun _ => rfl) unAll_nil)) (fun _ => rfl) g37.e4 9223372036854775808 rfl
noncomputable def g37.f (b0 : Int × Bool × Int × Bool × Bool × Bool × Bool × Int × Int × List (ByteArray × Int × Int) × ZL × ZL × ZL) (b1 : Int × Bool × Int × Bool × Bool × Bool × Bool × Int × Int × List (ByteArray × Int × Int) × ZL × ZL × ZL) : Option Bool :=
  if b0.1 = b1.1 then (if b0.2.1 = b1.2.1 then (if b0.2.2.1 = b1.2.2.1 then (if b0.2.2.2.1 = b1.2.2.2.1 then (if b0.2.2.2.2.1 = b1.2.2.2.2.1 then (if b0.2.2.2.2.2.1 = b1.2.2.2.2.2.1 then (if b0.2.2.2.2.2.2.1 = b1.2.2.2.2.2.2.1 then (if b0.2.2.2.2.2.2.2.1 = b1.2.2.2.2.2.2.2.1 then (if b0.2.2.2.2.2.2.2.2.1 = b1.2.2.2.2.2.2.2.2.1 then (if (nz b0.2.2.2.2.2.2.2.2.2.1.length) = (nz b1.2.2.2.2.2.2.2.2.2.1.length) then ((g37.l4 9223372036854775808 0 b0 b1).bind fun (y3 : Bool ⊕ (ZM × ZM)) =>
            (match y3 with
            | .inl y4 => some y4
            | .inr y5 => (g24.f y5.1.2.2.2.2.2.2.2.2.2.2.1 y5.2.2.2.2.2.2.2.2.2.2.2.1).bind fun (y6 : Bool) =>
             if y6 = true then ((g24.f y5.1.2.2.2.2.2.2.2.2.2.2.2.1 y5.2.2.2.2.2.2.2.2.2.2.2.2.1).bind fun (y7 : Bool) =>
              if y7 = true then ((g24.f y5.1.2.2.2.2.2.2.2.2.2.2.2.2 y5.2.2.2.2.2.2.2.2.2.2.2.2.2).bind fun (y8 : Bool) =>
               some y8)
              else some false)
             else some false))
           else some false)
          else some false)
         else some false)
        else some false)
       else some false)
      else some false)
     else some false)
    else some false)
   else some false)
  else some false
def g37.sp : FSpec := ⟨37, [(true, [.k zkM]), (true, [.k zkM])], [], [zoB], [], Bool, fun x => g37.f x.1.1.1 x.1.2.1.1, fun y => (((y, ()), ()), ())⟩
theorem g37.ok : FOk Tryz.prog g37.sp := fokz g37.G_ok Tryz.f37 (lamAll_cons g37.k4 lamAll_nil) (fun z => z.1.1.1) fun x => by kernel_rfl
end
end Go.Proofs.YtpbakampjiihfaaGreat.E
