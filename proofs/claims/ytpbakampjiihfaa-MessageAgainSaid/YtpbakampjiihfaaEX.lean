/- PRINTED BY eng.py: functions, run by the engine. -/
import Derived.Test.YtpbakampjiihfaaEB
import Derived.Test.YtpbakampjiihfaaGvB2
import Derived.Test.YtpbakampjiihfaaGX
import Derived.Test.YtpbakampjiihfaaEO
import Derived.Test.YtpbakampjiihfaaProg
set_option maxRecDepth 100000
set_option maxHeartbeats 0
namespace Go.Proofs.Ytpbakampjiihfaa.E
set_option linter.unusedVariables false
set_option linter.unusedSimpArgs false
open Go Go.Eng Go.RowKit Go.Lib Go.Proofs
noncomputable section
set_option warn.classDefReducibility false
attribute [local instance 2000] dLe dLt dEq dEqS dAnd
/-! ### beadroll/pack.at -/
noncomputable def g90.G : List FSpec := [g102.sp, g24.sp]
theorem g90.G_ok : ∀ sp ∈ g90.G, FOk Try.prog sp := allOk_cons g102.ok (allOk_cons g24.ok allOk_nil)
noncomputable def g90.f (b0 : ByteArray) (b1 : Int) : Option ((ByteArray × Int × Int) × Bool) :=
  if (0 : Int) ≤ b1 then if b1 ≤ (nz b0.size) then (g102.f (b0.extract b1.toNat b0.size) 1).bind fun (y1 : ByteArray × ByteArray × Int) =>
  if y1.2.2 = 0 then (if (nz y1.1.size) ≤ 63 then (if (0 : Int) ≤ (wrap64 ((nz b0.size) - (nz y1.2.1.size))) then if (wrap64 ((nz b0.size) - (nz y1.2.1.size))) ≤ (nz b0.size) then if (0 : Int) ≤ b1 then if b1 ≤ (wrap64 ((nz b0.size) - (nz y1.2.1.size))) then some ((b0.extract b1.toNat ((wrap64 ((nz b0.size) - (nz y1.2.1.size))).toNat), (-1), wrap64 ((nz b0.size) - (nz y1.2.1.size))), true) else none
    else none
    else none
    else none)
   else if (0 : Int) ≤ b1 then if b1 ≤ (nz b0.size) then (g24.f (b0.extract b1.toNat b0.size) ([2] : List Int)).bind fun (y2 : List Int × ByteArray × Int) =>
   if y2.2.2 = 0 then (if (0 : Int) < nz y2.1.length then (match y2.1[0]? with
    | some x3 => if x3 < 49152 then some (((⟨#[]⟩ : ByteArray), 0, 0), false)
     else if (0 : Int) < nz y2.1.length then (match y2.1[0]? with
     | some x4 => some (((⟨#[]⟩ : ByteArray), wrap64 (IntKind.wrap .u64 (x4 - 49152)), wrap64 (b1 + 2)), true)
     | none => none)
     else none
    | none => none)
    else none)
   else some (((⟨#[]⟩ : ByteArray), 0, 0), false)
   else none
   else none)
  else if (0 : Int) ≤ b1 then if b1 ≤ (nz b0.size) then (g24.f (b0.extract b1.toNat b0.size) ([2] : List Int)).bind fun (y5 : List Int × ByteArray × Int) =>
  if y5.2.2 = 0 then (if (0 : Int) < nz y5.1.length then (match y5.1[0]? with
   | some x6 => if x6 < 49152 then some (((⟨#[]⟩ : ByteArray), 0, 0), false)
    else if (0 : Int) < nz y5.1.length then (match y5.1[0]? with
    | some x7 => some (((⟨#[]⟩ : ByteArray), wrap64 (IntKind.wrap .u64 (x7 - 49152)), wrap64 (b1 + 2)), true)
    | none => none)
    else none
   | none => none)
   else none)
  else some (((⟨#[]⟩ : ByteArray), 0, 0), false)
  else none
  else none
  else none
  else none
noncomputable def g90.sp : FSpec := { f := 90, ins := [(false, [.k .str]), (false, [.k (.int .i64)])], inE := [], outs := [(true, [.k (.pair .str (.pair (.int .i64) (.int .i64)))]), (false, [.k .bool])], outE := [], raw := (ByteArray × Int × Int) × Bool, sem := fun x => g90.f x.1.1.1 x.1.2.1.1, ret := fun y => (((y.1, ()), (y.2, ()), ()), ()) }
theorem g90.ok : FOk Try.prog g90.sp := fn_ok (κ := kap) g90.G_ok follows (L := []) (fn := Try.f90) (c := bodyOf Try.f90) rfl (by decide) rfl (lam_by (fn := Try.f90) (by kernel_rfl) lamAll_nil) (un := fun z => (z.1.1.1, z.1.2.1.1)) (fun _ => rfl) (by decide) (fun x => by kernel_rfl)
/-! ### beadroll/pack.Read -/
noncomputable def g61.G : List FSpec := [g90.sp, g79.sp]
theorem g61.G_ok : ∀ sp ∈ g61.G, FOk Try.prog sp := allOk_cons g90.ok (allOk_cons g79.ok allOk_nil)
noncomputable def g61.s4 (again : ByteArray → Int → ByteArray → Int → Int → Option ((ByteArray × Int × Int) ⊕ (Int × ByteArray × Int))) (a0 : ByteArray) (a1 : Int) (a2 : ByteArray) (a3 : Int) (a4 : Int) : Option ((ByteArray × Int × Int) ⊕ (Int × ByteArray × Int)) :=
  if (nz a2.size) ≤ 255 then ((g90.f a0 a1).bind fun (y1 : (ByteArray × Int × Int) × Bool) =>
   if (!y1.2) = true then some (.inl ((⟨#[]⟩ : ByteArray), 0, 2))
   else if a4 ≤ y1.1.2.1 then some (.inl ((⟨#[]⟩ : ByteArray), 0, 2))
   else if (0 : Int) ≤ y1.1.2.1 then (if a3 < 0 then again a0 y1.1.2.1 a2 y1.1.2.2 y1.1.2.1
    else again a0 y1.1.2.1 a2 a3 y1.1.2.1)
   else if (nz a2.size) + (nz y1.1.1.size) ≤ 9223372036854775807 then if y1.1.1 = (⟨#[0]⟩ : ByteArray) then some (.inr (y1.1.2.2, a2 ++ y1.1.1, a3))
   else again a0 y1.1.2.2 (a2 ++ y1.1.1) a3 a4
   else none)
  else some (.inr (a1, a2, a3))
noncomputable def g61.l4 : Nat → ByteArray → Int → ByteArray → Int → Int → Option ((ByteArray × Int × Int) ⊕ (Int × ByteArray × Int))
  | 0, _, _, _, _, _ => none
  | k + 1, a0, a1, a2, a3, a4 => g61.s4 (g61.l4 k) a0 a1 a2 a3 a4
def g61.n4 : Norm := ⟨[0, 1, 7, 8, 9], [(false, [.k .str]), (false, [.k (.int .i64)]), (false, [.k .str]), (false, [.k (.int .i64)]), (false, [.k (.int .i64)])], []⟩
def g61.x4 : List ExitS := [{ e := .ret, n := ⟨[4, 5, 6], [(false, [.k .str]), (false, [.k (.int .i64)]), (false, [.k (.int .i64)])], []⟩, raw := ByteArray × Int × Int, ret := fun y => (((y.1, ()), (y.2.1, ()), (y.2.2, ()), ()), ()), un := fun z => (z.1.1.1, z.1.2.1.1, z.1.2.2.1.1) },
  { e := .exit 0, n := ⟨[1, 7, 8], [(false, [.k (.int .i64)]), (false, [.k .str]), (false, [.k (.int .i64)])], []⟩, raw := Int × ByteArray × Int, ret := fun y => (((y.1, ()), (y.2.1, ()), (y.2.2, ()), ()), ()), un := fun z => (z.1.1.1, z.1.2.1.1, z.1.2.2.1.1) }]
noncomputable def g61.m4 (k : Nat) (x : g61.n4.X) : Option (SumR g61.x4) := g61.l4 k x.1.1.1 x.1.2.1.1 x.1.2.2.1.1 x.1.2.2.2.1.1 x.1.2.2.2.2.1.1
noncomputable def g61.L4 : LSpec := { id := 4, n := g61.n4, exits := g61.x4, sem := g61.m4 9223372036854775808 }
theorem g61.e4 : ∀ k x, g61.m4 (k + 1) x = roundS Try.prog kap g61.G [] (loopAt Try.f61 4) 68 0 g61.n4 g61.x4 (g61.m4 k) x := fun k x => by kernel_rfl
theorem g61.k4 : LOk Try.prog 0 68 g61.L4 (loopAt Try.f61 4) := LOk.of (κ := kap) (l := g61.L4) g61.G_ok follows (L := []) (lam_by (fn := Try.f61) (by kernel_rfl) lamAll_nil) g61.m4 (unAll_cons (fun _ => rfl) (unAll_cons (fun _ => rfl) unAll_nil)) (fun _ => rfl) g61.e4 9223372036854775808 rfl
noncomputable def g61.f (b0 : ByteArray) (b1 : Int) : Option (ByteArray × Int × Int) :=
  if b1 < 0 then some ((⟨#[]⟩ : ByteArray), 0, 1)
  else if (nz b0.size) < b1 then some ((⟨#[]⟩ : ByteArray), 0, 1)
  else (g61.l4 9223372036854775808 b0 b1 (⟨#[]⟩ : ByteArray) (-1) b1).bind fun (y2 : (ByteArray × Int × Int) ⊕ (Int × ByteArray × Int)) =>
  (match y2 with
  | .inl y3 => some y3
  | .inr y4 => (g79.f y4.2.1).bind fun (y5 : Bool) =>
   if (!y5) = true then some ((⟨#[]⟩ : ByteArray), 0, 2)
   else if y4.2.2 < 0 then some (y4.2.1, y4.1, 0)
   else some (y4.2.1, y4.2.2, 0))
noncomputable def g61.sp : FSpec := { f := 61, ins := [(false, [.k .str]), (false, [.k (.int .i64)])], inE := [], outs := [(false, [.k .str]), (false, [.k (.int .i64)]), (false, [.k (.int .i64)])], outE := [], raw := ByteArray × Int × Int, sem := fun x => g61.f x.1.1.1 x.1.2.1.1, ret := fun y => (((y.1, ()), (y.2.1, ()), (y.2.2, ()), ()), ()) }
theorem g61.ok : FOk Try.prog g61.sp := fn_ok (κ := kap) g61.G_ok follows (L := [g61.L4]) (fn := Try.f61) (c := bodyOf Try.f61) rfl (by decide) rfl (lam_by (fn := Try.f61) (by kernel_rfl) (lamAll_cons g61.k4 lamAll_nil)) (un := fun z => (z.1.1.1, z.1.2.1.1, z.1.2.2.1.1)) (fun _ => rfl) (by decide) (fun x => by kernel_rfl)
/-! ### beadroll/beadrollref07.Labels -/
/-! ### beadroll/beadrollref07.Right -/
/-! ### beadroll/beadrollref09.Read -/
/-! ### beadroll/beadrollref10.Parts -/
noncomputable def g105.f (b0 : Int) : Option ByteArray :=
  if b0 = 1 then some (⟨#[52]⟩ : ByteArray)
  else if b0 = 28 then some (⟨#[104]⟩ : ByteArray)
  else if b0 = 2 then (if b0 = 2 then some (⟨#[110]⟩ : ByteArray)
   else if b0 = 15 then some (⟨#[50, 110]⟩ : ByteArray)
   else if b0 = 6 then some (⟨#[110, 110, 52, 52, 52, 52, 52]⟩ : ByteArray)
   else if b0 = 16 then some (⟨#[116]⟩ : ByteArray)
   else if b0 = 33 then some (⟨#[50, 50, 50, 117]⟩ : ByteArray)
   else some (⟨#[111]⟩ : ByteArray))
  else if b0 = 5 then (if b0 = 5 then some (⟨#[110]⟩ : ByteArray)
   else if b0 = 15 then some (⟨#[50, 110]⟩ : ByteArray)
   else if b0 = 6 then some (⟨#[110, 110, 52, 52, 52, 52, 52]⟩ : ByteArray)
   else if b0 = 16 then some (⟨#[116]⟩ : ByteArray)
   else if b0 = 33 then some (⟨#[50, 50, 50, 117]⟩ : ByteArray)
   else some (⟨#[111]⟩ : ByteArray))
  else if b0 = 12 then some (⟨#[110]⟩ : ByteArray)
  else if b0 = 15 then some (⟨#[50, 110]⟩ : ByteArray)
  else if b0 = 6 then some (⟨#[110, 110, 52, 52, 52, 52, 52]⟩ : ByteArray)
  else if b0 = 16 then some (⟨#[116]⟩ : ByteArray)
  else if b0 = 33 then some (⟨#[50, 50, 50, 117]⟩ : ByteArray)
  else some (⟨#[111]⟩ : ByteArray)
/-! ### beadroll/beadrollref01.Width -/
/-! ### beadroll/beadrollref01.Number -/
/-! ### beadroll/beadrollref01.Cut -/
/-! ### beadroll/beadrollref01.Pieces -/
/-! ### beadroll/beadrollref10.Read -/
/-! ### beadroll/beadrollref10.join -/
/-! ### beadroll/beadrollref10.Whole -/
/-! ### beadroll/beadrollref10.Right -/
/-! ### beadroll/beadrollref11.typed -/
/-! ### beadroll/beadrollref11.Right -/
/-! ### beadroll/rdata.parts -/
noncomputable def g103.G : List FSpec := []
theorem g103.G_ok : ∀ sp ∈ g103.G, FOk Try.prog sp := allOk_nil
noncomputable def g103.f (b0 : Int) : Option (List Int) :=
  if b0 = 1 then some ([4] : List Int)
  else if b0 = 28 then some ([16] : List Int)
  else if b0 = 2 then (if b0 = 2 then some ([(-1)] : List Int)
   else if b0 = 15 then some ([2, (-1)] : List Int)
   else if b0 = 6 then some ([(-1), (-1), 4, 4, 4, 4, 4] : List Int)
   else if b0 = 16 then some ([(-3)] : List Int)
   else if b0 = 33 then some ([2, 2, 2, (-2)] : List Int)
   else some ([(-4)] : List Int))
  else if b0 = 5 then (if b0 = 5 then some ([(-1)] : List Int)
   else if b0 = 15 then some ([2, (-1)] : List Int)
   else if b0 = 6 then some ([(-1), (-1), 4, 4, 4, 4, 4] : List Int)
   else if b0 = 16 then some ([(-3)] : List Int)
   else if b0 = 33 then some ([2, 2, 2, (-2)] : List Int)
   else some ([(-4)] : List Int))
  else if b0 = 12 then some ([(-1)] : List Int)
  else if b0 = 15 then some ([2, (-1)] : List Int)
  else if b0 = 6 then some ([(-1), (-1), 4, 4, 4, 4, 4] : List Int)
  else if b0 = 16 then some ([(-3)] : List Int)
  else if b0 = 33 then some ([2, 2, 2, (-2)] : List Int)
  else some ([(-4)] : List Int)
noncomputable def g103.sp : FSpec := { f := 103, ins := [(false, [.k (.int .i64)])], inE := [], outs := [(false, [.k (.list 3 (.int .i64))])], outE := [], raw := List Int, sem := fun x => g103.f x.1.1.1, ret := fun y => (((y, ()), ()), ()) }
theorem g103.ok : FOk Try.prog g103.sp := fn_ok (κ := kap) g103.G_ok follows (L := []) (fn := Try.f103) (c := bodyOf Try.f103) rfl (by decide) rfl (lam_by (fn := Try.f103) (by kernel_rfl) lamAll_nil) (un := fun z => z.1.1.1) (fun _ => rfl) (by decide) (fun x => by kernel_rfl)
/-! ### beadroll/rdata.part -/
noncomputable def g104.G : List FSpec := [g61.sp, g26.sp]
theorem g104.G_ok : ∀ sp ∈ g104.G, FOk Try.prog sp := allOk_cons g61.ok (allOk_cons g26.ok allOk_nil)
noncomputable def g104.f (b0 : ByteArray) (b1 : Int) (b2 : Int) (b3 : Int) : Option (ByteArray × Int × Bool) :=
  if b3 = (-1) then (if b3 = (-1) then (if (0 : Int) ≤ b2 then if b2 ≤ (nz b0.size) then (g61.f (b0.extract 0 b2.toNat) b1).bind fun (y1 : ByteArray × Int × Int) =>
    if y1.2.2 = 0 then (if b3 = (-1) then some (y1.1, y1.2.1, true)
     else if (0 : Int) ≤ y1.2.1 then if y1.2.1 ≤ (nz b0.size) then if (0 : Int) ≤ b1 then if b1 ≤ y1.2.1 then some (y1.1, y1.2.1, decide (y1.1 = (b0.extract b1.toNat y1.2.1.toNat))) else none
     else none
     else none
     else none)
    else some (y1.1, y1.2.1, false)
    else none
    else none)
   else if b3 = (-3) then (if (0 : Int) ≤ b2 then if b2 ≤ (nz b0.size) then if (0 : Int) ≤ b1 then if b1 ≤ b2 then (g26.f (b0.extract b1.toNat b2.toNat) 1).bind fun (y2 : List ByteArray × Int) =>
    if (0 : Int) ≤ b2 then if b2 ≤ (nz b0.size) then if (0 : Int) ≤ b1 then if b1 ≤ b2 then if y2.2 = 0 then some (b0.extract b1.toNat b2.toNat, b2, decide ((0 : Int) < (nz y2.1.length)))
    else some (b0.extract b1.toNat b2.toNat, b2, false)
    else none
    else none
    else none
    else none
    else none
    else none
    else none
    else none)
   else if b3 = (-4) then (if (0 : Int) ≤ b2 then if b2 ≤ (nz b0.size) then if (0 : Int) ≤ b1 then if b1 ≤ b2 then some (b0.extract b1.toNat b2.toNat, b2, true) else none
    else none
    else none
    else none)
   else if (wrap64 (b2 - b1)) < b3 then some ((⟨#[]⟩ : ByteArray), 0, false)
   else if (0 : Int) ≤ (wrap64 (b1 + b3)) then if (wrap64 (b1 + b3)) ≤ (nz b0.size) then if (0 : Int) ≤ b1 then if b1 ≤ (wrap64 (b1 + b3)) then some (b0.extract b1.toNat ((wrap64 (b1 + b3)).toNat), wrap64 (b1 + b3), true) else none
   else none
   else none
   else none)
  else if b3 = (-2) then (if (0 : Int) ≤ b2 then if b2 ≤ (nz b0.size) then (g61.f (b0.extract 0 b2.toNat) b1).bind fun (y3 : ByteArray × Int × Int) =>
   if y3.2.2 = 0 then (if b3 = (-1) then some (y3.1, y3.2.1, true)
    else if (0 : Int) ≤ y3.2.1 then if y3.2.1 ≤ (nz b0.size) then if (0 : Int) ≤ b1 then if b1 ≤ y3.2.1 then some (y3.1, y3.2.1, decide (y3.1 = (b0.extract b1.toNat y3.2.1.toNat))) else none
    else none
    else none
    else none)
   else some (y3.1, y3.2.1, false)
   else none
   else none)
  else if b3 = (-3) then (if (0 : Int) ≤ b2 then if b2 ≤ (nz b0.size) then if (0 : Int) ≤ b1 then if b1 ≤ b2 then (g26.f (b0.extract b1.toNat b2.toNat) 1).bind fun (y4 : List ByteArray × Int) =>
   if (0 : Int) ≤ b2 then if b2 ≤ (nz b0.size) then if (0 : Int) ≤ b1 then if b1 ≤ b2 then if y4.2 = 0 then some (b0.extract b1.toNat b2.toNat, b2, decide ((0 : Int) < (nz y4.1.length)))
   else some (b0.extract b1.toNat b2.toNat, b2, false)
   else none
   else none
   else none
   else none
   else none
   else none
   else none
   else none)
  else if b3 = (-4) then (if (0 : Int) ≤ b2 then if b2 ≤ (nz b0.size) then if (0 : Int) ≤ b1 then if b1 ≤ b2 then some (b0.extract b1.toNat b2.toNat, b2, true) else none
   else none
   else none
   else none)
  else if (wrap64 (b2 - b1)) < b3 then some ((⟨#[]⟩ : ByteArray), 0, false)
  else if (0 : Int) ≤ (wrap64 (b1 + b3)) then if (wrap64 (b1 + b3)) ≤ (nz b0.size) then if (0 : Int) ≤ b1 then if b1 ≤ (wrap64 (b1 + b3)) then some (b0.extract b1.toNat ((wrap64 (b1 + b3)).toNat), wrap64 (b1 + b3), true) else none
  else none
  else none
  else none
noncomputable def g104.sp : FSpec := { f := 104, ins := [(false, [.k .str]), (false, [.k (.int .i64)]), (false, [.k (.int .i64)]), (false, [.k (.int .i64)])], inE := [], outs := [(false, [.k .str]), (false, [.k (.int .i64)]), (false, [.k .bool])], outE := [], raw := ByteArray × Int × Bool, sem := fun x => g104.f x.1.1.1 x.1.2.1.1 x.1.2.2.1.1 x.1.2.2.2.1.1, ret := fun y => (((y.1, ()), (y.2.1, ()), (y.2.2, ()), ()), ()) }
theorem g104.ok : FOk Try.prog g104.sp := fn_ok (κ := kap) g104.G_ok follows (L := []) (fn := Try.f104) (c := bodyOf Try.f104) rfl (by decide) rfl (lam_by (fn := Try.f104) (by kernel_rfl) lamAll_nil) (un := fun z => (z.1.1.1, z.1.2.1.1, z.1.2.2.1.1)) (fun _ => rfl) (by decide) (fun x => by kernel_rfl)
/-! ### beadroll/rdata.Right$1 -/
noncomputable def g101.G : List FSpec := []
theorem g101.G_ok : ∀ sp ∈ g101.G, FOk Try.prog sp := allOk_nil
noncomputable def g101.f (b0 : Int) (b1 : ByteArray) (b2 : Int) : Option Int :=
  some (wrap64 (b2 + (nz b1.size)))
noncomputable def g101.sp : FSpec := { f := 101, ins := [(false, [.k (.int .i64)]), (false, [.k .str]), (false, [.ptr 0 0])], inE := [some (.cells [.k (.int .i64)] 3)], outs := [], outE := [some (.cells [.k (.int .i64)] 3)], raw := Int, sem := fun x => g101.f x.1.1.1 x.1.2.1.1 x.2.1.1, ret := fun y => ((), ((y, ()), ())) }
theorem g101.ok : FOk Try.prog g101.sp := fn_ok (κ := kap) g101.G_ok follows (L := []) (fn := Try.f101) (c := bodyOf Try.f101) rfl (by decide) rfl (lam_by (fn := Try.f101) (by kernel_rfl) lamAll_nil) (un := fun z => z.2.1.1) (fun _ => rfl) (by decide) (fun x => by kernel_rfl)
/-! ### beadroll/rdata.walk -/
noncomputable def g91.G : List FSpec := [g103.sp, g104.sp, g101.sp]
theorem g91.G_ok : ∀ sp ∈ g91.G, FOk Try.prog sp := allOk_cons g103.ok (allOk_cons g104.ok (allOk_cons g101.ok allOk_nil))
noncomputable def g91.s2 (again : ByteArray → Int → Int → List Int → Int → Int → Int → Option ((Bool × Int) ⊕ (Int × Int × Int))) (a0 : ByteArray) (a1 : Int) (a2 : Int) (a3 : List Int) (a4 : Int) (a5 : Int) (a6 : Int) : Option ((Bool × Int) ⊕ (Int × Int × Int)) :=
  if a5 < a4 then (if 0 ≤ a5 then if a5 < nz a3.length then (match a3[a5.toNat]? with
   | some x2 => (g104.f a0 a1 a2 x2).bind fun (y3 : ByteArray × Int × Bool) =>
    if (!y3.2.2) = true then some (.inl (false, a6))
    else (g101.f x2 y3.1 a6).bind fun (y4 : Int) =>
    again a0 y3.2.1 a2 a3 a4 (wrap64 (a5 + 1)) y4
   | none => none)
   else none
   else none)
  else some (.inr (a1, a2, a6))
noncomputable def g91.l2 : Nat → ByteArray → Int → Int → List Int → Int → Int → Int → Option ((Bool × Int) ⊕ (Int × Int × Int))
  | 0, _, _, _, _, _, _, _ => none
  | k + 1, a0, a1, a2, a3, a4, a5, a6 => g91.s2 (g91.l2 k) a0 a1 a2 a3 a4 a5 a6
def g91.n2 : Norm := ⟨[0, 1, 2, 4, 17, 18, 19], [(false, [.k .str]), (false, [.k (.int .i64)]), (false, [.k (.int .i64)]), (false, [.clo 101 [0]]), (false, [.k (.list 3 (.int .i64))]), (false, [.k (.int .i64)]), (false, [.k (.int .i64)])], [some (.cells [.k (.int .i64)] 3)]⟩
def g91.x2 : List ExitS := [{ e := .ret, n := ⟨[10], [(false, [.k .bool])], [some (.cells [.k (.int .i64)] 3)]⟩, raw := Bool × Int, ret := fun y => (((y.1, ()), ()), ((y.2, ()), ())), un := fun z => (z.1.1.1, z.2.1.1) },
  { e := .exit 0, n := ⟨[1, 2], [(false, [.k (.int .i64)]), (false, [.k (.int .i64)])], [some (.cells [.k (.int .i64)] 3)]⟩, raw := Int × Int × Int, ret := fun y => (((y.1, ()), (y.2.1, ()), ()), ((y.2.2, ()), ())), un := fun z => (z.1.1.1, z.1.2.1.1, z.2.1.1) }]
noncomputable def g91.m2 (k : Nat) (x : g91.n2.X) : Option (SumR g91.x2) := g91.l2 k x.1.1.1 x.1.2.1.1 x.1.2.2.1.1 x.1.2.2.2.2.1.1 x.1.2.2.2.2.2.1.1 x.1.2.2.2.2.2.2.1.1 x.2.1.1
noncomputable def g91.L2 : LSpec := { id := 2, n := g91.n2, exits := g91.x2, sem := g91.m2 9223372036854775808 }
theorem g91.e2 : ∀ k x, g91.m2 (k + 1) x = roundS Try.prog kap g91.G [] (loopAt Try.f91 2) 43 1 g91.n2 g91.x2 (g91.m2 k) x := fun k x => by kernel_rfl
theorem g91.k2 : LOk Try.prog 1 43 g91.L2 (loopAt Try.f91 2) := LOk.of (κ := kap) (l := g91.L2) g91.G_ok follows (L := []) (lam_by (fn := Try.f91) (by kernel_rfl) lamAll_nil) g91.m2 (unAll_cons (fun _ => rfl) (unAll_cons (fun _ => rfl) unAll_nil)) (fun _ => rfl) g91.e2 9223372036854775808 rfl
noncomputable def g91.f (b0 : ByteArray) (b1 : Int) (b2 : Int) (b3 : Int) (b4 : Int) : Option (Bool × Int) :=
  (g103.f b3).bind fun (y1 : List Int) =>
  (g91.l2 9223372036854775808 b0 b1 b2 y1 (nz y1.length) 0 b4).bind fun (y5 : (Bool × Int) ⊕ (Int × Int × Int)) =>
  (match y5 with
  | .inl y6 => some y6
  | .inr y7 => some (decide (y7.1 = y7.2.1), y7.2.2))
noncomputable def g91.sp : FSpec := { f := 91, ins := [(false, [.k .str]), (false, [.k (.int .i64)]), (false, [.k (.int .i64)]), (false, [.k (.int .i64)]), (false, [.clo 101 [0]])], inE := [some (.cells [.k (.int .i64)] 3)], outs := [(false, [.k .bool])], outE := [some (.cells [.k (.int .i64)] 3)], raw := Bool × Int, sem := fun x => g91.f x.1.1.1 x.1.2.1.1 x.1.2.2.1.1 x.1.2.2.2.1.1 x.2.1.1, ret := fun y => (((y.1, ()), ()), ((y.2, ()), ())) }
theorem g91.ok : FOk Try.prog g91.sp := fn_ok (κ := kap) g91.G_ok follows (L := [g91.L2]) (fn := Try.f91) (c := bodyOf Try.f91) rfl (by decide) rfl (lam_by (fn := Try.f91) (by kernel_rfl) (lamAll_cons g91.k2 lamAll_nil)) (un := fun z => (z.1.1.1, z.2.1.1)) (fun _ => rfl) (by decide) (fun x => by kernel_rfl)
/-! ### beadroll/rdata.Right -/
noncomputable def g85.G : List FSpec := [g91.sp]
theorem g85.G_ok : ∀ sp ∈ g85.G, FOk Try.prog sp := allOk_cons g91.ok allOk_nil
noncomputable def g85.f (b0 : Int) (b1 : ByteArray) : Option Bool :=
  if (65535 : Int) < (nz b1.size) then some false
  else (g91.f b1 0 (nz b1.size) b0 0).bind fun (y1 : Bool × Int) =>
  if y1.1 = true then some (decide (y1.2 = (nz b1.size)))
  else some false
noncomputable def g85.sp : FSpec := { f := 85, ins := [(false, [.k (.int .i64)]), (false, [.k .str])], inE := [], outs := [(false, [.k .bool])], outE := [], raw := Bool, sem := fun x => g85.f x.1.1.1 x.1.2.1.1, ret := fun y => (((y, ()), ()), ()) }
theorem g85.ok : FOk Try.prog g85.sp := fn_ok (κ := kap) g85.G_ok follows (L := []) (fn := Try.f85) (c := bodyOf Try.f85) rfl (by decide) rfl (lam_by (fn := Try.f85) (by kernel_rfl) lamAll_nil) (un := fun z => z.1.1.1) (fun _ => rfl) (by decide) (fun x => by kernel_rfl)
/-! ### (*strings.Builder).WriteString -/
noncomputable def g72.G : List FSpec := [g96.sp]
theorem g72.G_ok : ∀ sp ∈ g72.G, FOk Try.prog sp := allOk_cons g96.ok allOk_nil
noncomputable def g72.f (b0 : ByteArray) (b1 : List Int) : Option (Int × List Int) :=
  (g96.f b1).bind fun (y1 : List Int) =>
  if nz y1.length + nz ((strBytes b0).length) ≤ room Try.prog 5 then some (nz b0.size, y1 ++ (strBytes b0)) else none
noncomputable def g72.sp : FSpec := { f := 72, ins := [(false, [.ptr 0 0]), (false, [.k .str])], inE := [some (.cells [.np 0, .sl 1] 112), some (.lst 5 (.int .u8))], outs := [(false, [.k (.int .i64)]), (false, [.ci])], outE := [some (.cells [.np 0, .sl 2] 112), none, some (.lst 5 (.int .u8))], raw := Int × List Int, sem := fun x => g72.f x.1.2.1.1 x.2.2.1, ret := fun y => (((y.1, ()), ((), ()), ()), (((), (), ()), y.2, ())) }
theorem g72.ok : FOk Try.prog g72.sp := fn_ok (κ := kap) g72.G_ok follows (L := []) (fn := Try.f72) (c := bodyOf Try.f72) rfl (by decide) rfl (lam_by (fn := Try.f72) (by kernel_rfl) lamAll_nil) (un := fun z => (z.1.1.1, z.2.2.1)) (fun _ => rfl) (by decide) (fun x => by kernel_rfl)
/-! ### beadroll/rdata.Read$1 -/
noncomputable def g92.G : List FSpec := [g72.sp]
theorem g92.G_ok : ∀ sp ∈ g92.G, FOk Try.prog sp := allOk_cons g72.ok allOk_nil
noncomputable def g92.f (b0 : Int) (b1 : ByteArray) (b2 : List Int) : Option (List Int) :=
  (g72.f b1 b2).bind fun (y1 : Int × List Int) =>
  some y1.2
noncomputable def g92.sp : FSpec := { f := 92, ins := [(false, [.k (.int .i64)]), (false, [.k .str]), (false, [.ptr 0 0])], inE := [some (.cells [.np 0, .sl 1] 112), some (.lst 5 (.int .u8))], outs := [], outE := [some (.cells [.np 0, .sl 2] 112), none, some (.lst 5 (.int .u8))], raw := List Int, sem := fun x => g92.f x.1.1.1 x.1.2.1.1 x.2.2.1, ret := fun y => ((), (((), (), ()), y, ())) }
theorem g92.ok : FOk Try.prog g92.sp := fn_ok (κ := kap) g92.G_ok follows (L := []) (fn := Try.f92) (c := bodyOf Try.f92) rfl (by decide) rfl (lam_by (fn := Try.f92) (by kernel_rfl) lamAll_nil) (un := fun z => z.2.2.1) (fun _ => rfl) (by decide) (fun x => by kernel_rfl)
/-! ### beadroll/rdata.walk -/
noncomputable def g91v1.G : List FSpec := [g103.sp, g104.sp, g92.sp]
theorem g91v1.G_ok : ∀ sp ∈ g91v1.G, FOk Try.prog sp := allOk_cons g103.ok (allOk_cons g104.ok (allOk_cons g92.ok allOk_nil))
noncomputable def g91v1.s2 (again : ByteArray → Int → Int → List Int → Int → Int → List Int → Option ((Bool × List Int) ⊕ (Int × Int × List Int))) (a0 : ByteArray) (a1 : Int) (a2 : Int) (a3 : List Int) (a4 : Int) (a5 : Int) (a6 : List Int) : Option ((Bool × List Int) ⊕ (Int × Int × List Int)) :=
  if a5 < a4 then (if 0 ≤ a5 then if a5 < nz a3.length then (match a3[a5.toNat]? with
   | some x2 => (g104.f a0 a1 a2 x2).bind fun (y3 : ByteArray × Int × Bool) =>
    if (!y3.2.2) = true then some (.inl (false, a6))
    else (g92.f x2 y3.1 a6).bind fun (y4 : List Int) =>
    again a0 y3.2.1 a2 a3 a4 (wrap64 (a5 + 1)) y4
   | none => none)
   else none
   else none)
  else some (.inr (a1, a2, a6))
noncomputable def g91v1.l2 : Nat → ByteArray → Int → Int → List Int → Int → Int → List Int → Option ((Bool × List Int) ⊕ (Int × Int × List Int))
  | 0, _, _, _, _, _, _, _ => none
  | k + 1, a0, a1, a2, a3, a4, a5, a6 => g91v1.s2 (g91v1.l2 k) a0 a1 a2 a3 a4 a5 a6
def g91v1.n2 : Norm := ⟨[0, 1, 2, 4, 17, 18, 19], [(false, [.k .str]), (false, [.k (.int .i64)]), (false, [.k (.int .i64)]), (false, [.clo 92 [0]]), (false, [.k (.list 3 (.int .i64))]), (false, [.k (.int .i64)]), (false, [.k (.int .i64)])], [some (.cells [.np 0, .sl 1] 112), some (.lst 5 (.int .u8))]⟩
def g91v1.x2 : List ExitS := [{ e := .ret, n := ⟨[10], [(false, [.k .bool])], [some (.cells [.np 0, .sl 1] 112), some (.lst 5 (.int .u8))]⟩, raw := Bool × List Int, ret := fun y => (((y.1, ()), ()), (((), (), ()), y.2, ())), un := fun z => (z.1.1.1, z.2.2.1) },
  { e := .exit 0, n := ⟨[1, 2], [(false, [.k (.int .i64)]), (false, [.k (.int .i64)])], [some (.cells [.np 0, .sl 1] 112), some (.lst 5 (.int .u8))]⟩, raw := Int × Int × List Int, ret := fun y => (((y.1, ()), (y.2.1, ()), ()), (((), (), ()), y.2.2, ())), un := fun z => (z.1.1.1, z.1.2.1.1, z.2.2.1) }]
noncomputable def g91v1.m2 (k : Nat) (x : g91v1.n2.X) : Option (SumR g91v1.x2) := g91v1.l2 k x.1.1.1 x.1.2.1.1 x.1.2.2.1.1 x.1.2.2.2.2.1.1 x.1.2.2.2.2.2.1.1 x.1.2.2.2.2.2.2.1.1 x.2.2.1
noncomputable def g91v1.L2 : LSpec := { id := 2, n := g91v1.n2, exits := g91v1.x2, sem := g91v1.m2 9223372036854775808 }
theorem g91v1.e2 : ∀ k x, g91v1.m2 (k + 1) x = roundS Try.prog kap g91v1.G [] (loopAt Try.f91 2) 43 1 g91v1.n2 g91v1.x2 (g91v1.m2 k) x := fun k x => by kernel_rfl
theorem g91v1.k2 : LOk Try.prog 1 43 g91v1.L2 (loopAt Try.f91 2) := LOk.of (κ := kap) (l := g91v1.L2) g91v1.G_ok follows (L := []) (lam_by (fn := Try.f91) (by kernel_rfl) lamAll_nil) g91v1.m2 (unAll_cons (fun _ => rfl) (unAll_cons (fun _ => rfl) unAll_nil)) (fun _ => rfl) g91v1.e2 9223372036854775808 rfl
noncomputable def g91v1.f (b0 : ByteArray) (b1 : Int) (b2 : Int) (b3 : Int) : Option (Bool × List Int) :=
  (g103.f b3).bind fun (y1 : List Int) =>
  (g91v1.l2 9223372036854775808 b0 b1 b2 y1 (nz y1.length) 0 ([] : List Int)).bind fun (y5 : (Bool × List Int) ⊕ (Int × Int × List Int)) =>
  (match y5 with
  | .inl y6 => some y6
  | .inr y7 => some (decide (y7.1 = y7.2.1), y7.2.2))
noncomputable def g91v1.sp : FSpec := { f := 91, ins := [(false, [.k .str]), (false, [.k (.int .i64)]), (false, [.k (.int .i64)]), (false, [.k (.int .i64)]), (false, [.clo 92 [0]])], inE := [some (.cells [.np 0, .cn] 112)], outs := [(false, [.k .bool])], outE := [some (.cells [.np 0, .sl 1] 112), some (.lst 5 (.int .u8))], raw := Bool × List Int, sem := fun x => g91v1.f x.1.1.1 x.1.2.1.1 x.1.2.2.1.1 x.1.2.2.2.1.1, ret := fun y => (((y.1, ()), ()), (((), (), ()), y.2, ())) }
theorem g91v1.ok : FOk Try.prog g91v1.sp := fn_ok (κ := kap) g91v1.G_ok follows (L := [g91v1.L2]) (fn := Try.f91) (c := bodyOf Try.f91) rfl (by decide) rfl (lam_by (fn := Try.f91) (by kernel_rfl) (lamAll_cons g91v1.k2 lamAll_nil)) (un := fun z => (z.1.1.1, z.2.2.1)) (fun _ => rfl) (by decide) (fun x => by kernel_rfl)
/-! ### (*strings.Builder).Len -/
noncomputable def g93.G : List FSpec := []
theorem g93.G_ok : ∀ sp ∈ g93.G, FOk Try.prog sp := allOk_nil
noncomputable def g93.f (b0 : List Int) : Option (Int × List Int) :=
  some (nz b0.length, b0)
noncomputable def g93.sp : FSpec := { f := 93, ins := [(false, [.ptr 0 0])], inE := [some (.cells [.np 0, .sl 1] 112), some (.lst 5 (.int .u8))], outs := [(false, [.k (.int .i64)])], outE := [some (.cells [.np 0, .sl 2] 112), none, some (.lst 5 (.int .u8))], raw := Int × List Int, sem := fun x => g93.f x.2.2.1, ret := fun y => (((y.1, ()), ()), (((), (), ()), y.2, ())) }
theorem g93.ok : FOk Try.prog g93.sp := fn_ok (κ := kap) g93.G_ok follows (L := []) (fn := Try.f93) (c := bodyOf Try.f93) rfl (by decide) rfl (lam_by (fn := Try.f93) (by kernel_rfl) lamAll_nil) (un := fun z => (z.1.1.1, z.2.2.1)) (fun _ => rfl) (by decide) (fun x => by kernel_rfl)
/-! ### beadroll/rdata.Read -/
noncomputable def g63.G : List FSpec := [g91v1.sp, g93.sp, g73.sp]
theorem g63.G_ok : ∀ sp ∈ g63.G, FOk Try.prog sp := allOk_cons g91v1.ok (allOk_cons g93.ok (allOk_cons g73.ok allOk_nil))
noncomputable def g63.f (b0 : ByteArray) (b1 : Int) (b2 : Int) (b3 : Int) : Option (ByteArray × Int) :=
  if b1 < 0 then some ((⟨#[]⟩ : ByteArray), 1)
  else if b2 < 0 then some ((⟨#[]⟩ : ByteArray), 1)
  else if (nz b0.size) < b1 then some ((⟨#[]⟩ : ByteArray), 1)
  else if (wrap64 ((nz b0.size) - b1)) < b2 then some ((⟨#[]⟩ : ByteArray), 1)
  else (g91v1.f b0 b1 (wrap64 (b1 + b2)) b3).bind fun (y1 : Bool × List Int) =>
  if (!y1.1) = true then some ((⟨#[]⟩ : ByteArray), 2)
  else (g93.f y1.2).bind fun (y2 : Int × List Int) =>
  if (65535 : Int) < y2.1 then some ((⟨#[]⟩ : ByteArray), 2)
  else (g73.f y2.2).bind fun (y3 : ByteArray) =>
  some (y3, 0)
noncomputable def g63.sp : FSpec := { f := 63, ins := [(false, [.k .str]), (false, [.k (.int .i64)]), (false, [.k (.int .i64)]), (false, [.k (.int .i64)])], inE := [], outs := [(false, [.k .str]), (false, [.k (.int .i64)])], outE := [], raw := ByteArray × Int, sem := fun x => g63.f x.1.1.1 x.1.2.1.1 x.1.2.2.1.1 x.1.2.2.2.1.1, ret := fun y => (((y.1, ()), (y.2, ()), ()), ()) }
theorem g63.ok : FOk Try.prog g63.sp := fn_ok (κ := kap) g63.G_ok follows (L := []) (fn := Try.f63) (c := bodyOf Try.f63) rfl (by decide) rfl (lam_by (fn := Try.f63) (by kernel_rfl) lamAll_nil) (un := fun z => (z.1.1.1, z.1.2.1.1)) (fun _ => rfl) (by decide) (fun x => by kernel_rfl)
/-! ### beadroll/record.typed -/
noncomputable def g62.G : List FSpec := []
theorem g62.G_ok : ∀ sp ∈ g62.G, FOk Try.prog sp := allOk_nil
noncomputable def g62.f (b0 : ByteArray × Int × Int × Int × ByteArray) : Option Bool :=
  if b0.2.2.1 = 1 then some true
  else if b0.2.2.1 = 254 then some (!decide (b0.2.2.2.2 = (⟨#[]⟩ : ByteArray)))
  else some false
noncomputable def g62.sp : FSpec := { f := 62, ins := [(true, [.k (.pair .str (.pair (.int .i64) (.pair (.int .i64) (.pair (.int .i64) .str))))])], inE := [], outs := [(false, [.k .bool])], outE := [], raw := Bool, sem := fun x => g62.f x.1.1.1, ret := fun y => (((y, ()), ()), ()) }
theorem g62.ok : FOk Try.prog g62.sp := fn_ok (κ := kap) g62.G_ok follows (L := []) (fn := Try.f62) (c := bodyOf Try.f62) rfl (by decide) rfl (lam_by (fn := Try.f62) (by kernel_rfl) lamAll_nil) (un := fun z => z.1.1.1) (fun _ => rfl) (by decide) (fun x => by kernel_rfl)
/-! ### beadroll/record.Right -/
noncomputable def g50.G : List FSpec := [g79.sp, g62.sp, g85.sp]
theorem g50.G_ok : ∀ sp ∈ g50.G, FOk Try.prog sp := allOk_cons g79.ok (allOk_cons g62.ok (allOk_cons g85.ok allOk_nil))
noncomputable def g50.f (b0 : ByteArray × Int × Int × Int × ByteArray) : Option Bool :=
  (g79.f b0.1).bind fun (y1 : Bool) =>
  if (!y1) = true then some false
  else if b0.2.1 < 0 then some false
  else if (65535 : Int) < b0.2.1 then some false
  else if b0.2.2.1 < 0 then some false
  else if (65535 : Int) < b0.2.2.1 then some false
  else if b0.2.2.2.1 < 0 then some false
  else if (2147483647 : Int) < b0.2.2.2.1 then some false
  else if (65535 : Int) < (nz b0.2.2.2.2.size) then some false
  else (g62.f b0).bind fun (y2 : Bool) =>
  if (!y2) = true then some true
  else (g85.f b0.2.1 b0.2.2.2.2).bind fun (y3 : Bool) =>
  some y3
noncomputable def g50.sp : FSpec := { f := 50, ins := [(true, [.k (.pair .str (.pair (.int .i64) (.pair (.int .i64) (.pair (.int .i64) .str))))])], inE := [], outs := [(false, [.k .bool])], outE := [], raw := Bool, sem := fun x => g50.f x.1.1.1, ret := fun y => (((y, ()), ()), ()) }
theorem g50.ok : FOk Try.prog g50.sp := fn_ok (κ := kap) g50.G_ok follows (L := []) (fn := Try.f50) (c := bodyOf Try.f50) rfl (by decide) rfl (lam_by (fn := Try.f50) (by kernel_rfl) lamAll_nil) (un := fun z => z.1.1.1) (fun _ => rfl) (by decide) (fun x => by kernel_rfl)
/-! ### beadroll/pack.New -/
noncomputable def g37.G : List FSpec := []
theorem g37.G_ok : ∀ sp ∈ g37.G, FOk Try.prog sp := allOk_nil
noncomputable def g37.f : Option (List Int × (List (ByteArray × Int))) :=
  some (([] : List Int), ([] : List (ByteArray × Int)))
noncomputable def g37.sp : FSpec := { f := 37, ins := [], inE := [], outs := [(false, [.ptr 0 0])], outE := [some (.cells [.sl 1, .mp 2] 126), some (.lst 5 (.int .u8)), some (.map 124 .str (.int .i64))], raw := List Int × (List (ByteArray × Int)), sem := fun x => g37.f, ret := fun y => ((((), ()), ()), (((), (), ()), y.1, y.2, ())) }
theorem g37.ok : FOk Try.prog g37.sp := fn_ok (κ := kap) g37.G_ok follows (L := []) (fn := Try.f37) (c := bodyOf Try.f37) rfl (by decide) rfl (lam_by (fn := Try.f37) (by kernel_rfl) lamAll_nil) (un := fun z => (z.2.2.1, z.2.2.2.1)) (fun _ => rfl) (by decide) (fun x => by kernel_rfl)
/-! ### beadroll/octets.most -/
noncomputable def g75.G : List FSpec := []
theorem g75.G_ok : ∀ sp ∈ g75.G, FOk Try.prog sp := allOk_nil
noncomputable def g75.f (b0 : Int) : Option Int :=
  if (wrap64 ((64 : Int) - (wrap64 ((8 : Int) * b0)))) < 0 then none
  else some ((18446744073709551615 : Int).fdiv (2 ^ min (wrap64 ((64 : Int) - (wrap64 ((8 : Int) * b0)))).toNat 64))
noncomputable def g75.sp : FSpec := { f := 75, ins := [(false, [.k (.int .i64)])], inE := [], outs := [(false, [.k (.int .u64)])], outE := [], raw := Int, sem := fun x => g75.f x.1.1.1, ret := fun y => (((y, ()), ()), ()) }
theorem g75.ok : FOk Try.prog g75.sp := fn_ok (κ := kap) g75.G_ok follows (L := []) (fn := Try.f75) (c := bodyOf Try.f75) rfl (by decide) rfl (lam_by (fn := Try.f75) (by kernel_rfl) lamAll_nil) (un := fun z => z.1.1.1) (fun _ => rfl) (by decide) (fun x => by kernel_rfl)
/-! ### beadroll/octets.bytes -/
noncomputable def g76.G : List FSpec := []
theorem g76.G_ok : ∀ sp ∈ g76.G, FOk Try.prog sp := allOk_nil
noncomputable def g76.s3 (again : Int → Int → List Int → Option (List Int)) (a0 : Int) (a1 : Int) (a2 : List Int) : Option (List Int) :=
  if (0 : Int) ≤ a1 then (if (wrap64 ((8 : Int) * a1)) < 0 then none
   else if nz a2.length + nz (([IntKind.wrap .u8 (a0.fdiv (2 ^ min (wrap64 ((8 : Int) * a1)).toNat 64))] : List Int).length) ≤ room Try.prog 5 then again a0 (wrap64 (a1 - 1)) (a2 ++ ([IntKind.wrap .u8 (a0.fdiv (2 ^ min (wrap64 ((8 : Int) * a1)).toNat 64))] : List Int)) else none)
  else some a2
noncomputable def g76.l3 : Nat → Int → Int → List Int → Option (List Int)
  | 0, _, _, _ => none
  | k + 1, a0, a1, a2 => g76.s3 (g76.l3 k) a0 a1 a2
def g76.n3 : Norm := ⟨[0, 5, 6], [(false, [.k (.int .u64)]), (false, [.sl 0]), (false, [.k (.int .i64)])], [some (.lst 5 (.int .u8))]⟩
def g76.x3 : List ExitS := [{ e := .exit 0, n := ⟨[5], [(false, [.sl 0])], [some (.lst 5 (.int .u8))]⟩, raw := List Int, ret := fun y => ((((), ()), ()), (y, ())), un := fun z => z.2.1 }]
noncomputable def g76.m3 (k : Nat) (x : g76.n3.X) : Option (SumR g76.x3) := g76.l3 k x.1.1.1 x.1.2.2.1.1 x.2.1
noncomputable def g76.L3 : LSpec := { id := 3, n := g76.n3, exits := g76.x3, sem := g76.m3 9223372036854775808 }
theorem g76.e3 : ∀ k x, g76.m3 (k + 1) x = roundS Try.prog kap g76.G [] (loopAt Try.f76 3) 22 0 g76.n3 g76.x3 (g76.m3 k) x := fun k x => by kernel_rfl
theorem g76.k3 : LOk Try.prog 0 22 g76.L3 (loopAt Try.f76 3) := LOk.of (κ := kap) (l := g76.L3) g76.G_ok follows (L := []) (lam_by (fn := Try.f76) (by kernel_rfl) lamAll_nil) g76.m3 (unAll_cons (fun _ => rfl) unAll_nil) (fun _ => rfl) g76.e3 9223372036854775808 rfl
noncomputable def g76.f (b0 : Int) (b1 : Int) : Option (List Int) :=
  (g76.l3 9223372036854775808 b0 (wrap64 (b1 - 1)) ([] : List Int)).bind fun (y1 : List Int) =>
  some y1
noncomputable def g76.sp : FSpec := { f := 76, ins := [(false, [.k (.int .u64)]), (false, [.k (.int .i64)])], inE := [], outs := [(false, [.k (.list 5 (.int .u8))])], outE := [], raw := List Int, sem := fun x => g76.f x.1.1.1 x.1.2.1.1, ret := fun y => (((y, ()), ()), ()) }
theorem g76.ok : FOk Try.prog g76.sp := fn_ok (κ := kap) g76.G_ok follows (L := [g76.L3]) (fn := Try.f76) (c := bodyOf Try.f76) rfl (by decide) rfl (lam_by (fn := Try.f76) (by kernel_rfl) (lamAll_cons g76.k3 lamAll_nil)) (un := fun z => z.1.1.1) (fun _ => rfl) (by decide) (fun x => by kernel_rfl)
/-! ### beadroll/octets.Join -/
noncomputable def g33.G : List FSpec := [g54.sp, g75.sp, g76.sp]
theorem g33.G_ok : ∀ sp ∈ g33.G, FOk Try.prog sp := allOk_cons g54.ok (allOk_cons g75.ok (allOk_cons g76.ok allOk_nil))
noncomputable def g33.s5 (again : List Int → List Int → Int → Int → List Int → Option ((ByteArray × Int) ⊕ List Int)) (a0 : List Int) (a1 : List Int) (a2 : Int) (a3 : Int) (a4 : List Int) : Option ((ByteArray × Int) ⊕ List Int) :=
  if a3 < a2 then (if 0 ≤ a3 then if a3 < nz a1.length then (match a1[a3.toNat]? with
   | some x2 => if 0 ≤ a3 then if a3 < nz a0.length then (match a0[a3.toNat]? with
    | some x3 => (g75.f x2).bind fun (y4 : Int) =>
     if y4 < x3 then some (.inl ((⟨#[]⟩ : ByteArray), 1))
     else if 0 ≤ a3 then if a3 < nz a0.length then (match a0[a3.toNat]? with
     | some x5 => (g76.f x5 x2).bind fun (y6 : List Int) =>
      if nz a4.length + nz y6.length ≤ room Try.prog 5 then again a0 a1 a2 (wrap64 (a3 + 1)) (a4 ++ y6) else none
     | none => none)
     else none
     else none
    | none => none)
    else none
    else none
   | none => none)
   else none
   else none)
  else some (.inr a4)
noncomputable def g33.l5 : Nat → List Int → List Int → Int → Int → List Int → Option ((ByteArray × Int) ⊕ List Int)
  | 0, _, _, _, _, _ => none
  | k + 1, a0, a1, a2, a3, a4 => g33.s5 (g33.l5 k) a0 a1 a2 a3 a4
def g33.n5 : Norm := ⟨[0, 6, 19, 20, 21], [(false, [.k (.list 57 (.int .u64))]), (false, [.sl 0]), (false, [.k (.list 3 (.int .i64))]), (false, [.k (.int .i64)]), (false, [.k (.int .i64)])], [some (.lst 5 (.int .u8))]⟩
def g33.x5 : List ExitS := [{ e := .ret, n := ⟨[4, 5], [(false, [.k .str]), (false, [.k (.int .i64)])], []⟩, raw := ByteArray × Int, ret := fun y => (((y.1, ()), (y.2, ()), ()), ()), un := fun z => (z.1.1.1, z.1.2.1.1) },
  { e := .exit 0, n := ⟨[6], [(false, [.sl 0])], [some (.lst 5 (.int .u8))]⟩, raw := List Int, ret := fun y => ((((), ()), ()), (y, ())), un := fun z => z.2.1 }]
noncomputable def g33.m5 (k : Nat) (x : g33.n5.X) : Option (SumR g33.x5) := g33.l5 k x.1.1.1 x.1.2.2.1.1 x.1.2.2.2.1.1 x.1.2.2.2.2.1.1 x.2.1
noncomputable def g33.L5 : LSpec := { id := 5, n := g33.n5, exits := g33.x5, sem := g33.m5 9223372036854775808 }
theorem g33.e5 : ∀ k x, g33.m5 (k + 1) x = roundS Try.prog kap g33.G [] (loopAt Try.f33 5) 44 0 g33.n5 g33.x5 (g33.m5 k) x := fun k x => by kernel_rfl
theorem g33.k5 : LOk Try.prog 0 44 g33.L5 (loopAt Try.f33 5) := LOk.of (κ := kap) (l := g33.L5) g33.G_ok follows (L := []) (lam_by (fn := Try.f33) (by kernel_rfl) lamAll_nil) g33.m5 (unAll_cons (fun _ => rfl) (unAll_cons (fun _ => rfl) unAll_nil)) (fun _ => rfl) g33.e5 9223372036854775808 rfl
noncomputable def g33.f (b0 : List Int) (b1 : List Int) : Option (ByteArray × Int) :=
  (g54.f b1).bind fun (y1 : Bool) =>
  if (!y1) = true then some ((⟨#[]⟩ : ByteArray), 1)
  else if (nz b0.length) = (nz b1.length) then ((g33.l5 9223372036854775808 b0 b1 (nz b1.length) 0 ([] : List Int)).bind fun (y7 : (ByteArray × Int) ⊕ List Int) =>
   (match y7 with
   | .inl y8 => some y8
   | .inr y9 => some (bytesStr y9, 0)))
  else some ((⟨#[]⟩ : ByteArray), 1)
noncomputable def g33.sp : FSpec := { f := 33, ins := [(false, [.k (.list 57 (.int .u64))]), (false, [.k (.list 3 (.int .i64))])], inE := [], outs := [(false, [.k .str]), (false, [.k (.int .i64)])], outE := [], raw := ByteArray × Int, sem := fun x => g33.f x.1.1.1 x.1.2.1.1, ret := fun y => (((y.1, ()), (y.2, ()), ()), ()) }
theorem g33.ok : FOk Try.prog g33.sp := fn_ok (κ := kap) g33.G_ok follows (L := [g33.L5]) (fn := Try.f33) (c := bodyOf Try.f33) rfl (by decide) rfl (lam_by (fn := Try.f33) (by kernel_rfl) (lamAll_cons g33.k5 lamAll_nil)) (un := fun z => (z.1.1.1, z.1.2.1.1)) (fun _ => rfl) (by decide) (fun x => by kernel_rfl)
/-! ### (*beadroll/pack.Packer).Raw -/
noncomputable def g39.G : List FSpec := []
theorem g39.G_ok : ∀ sp ∈ g39.G, FOk Try.prog sp := allOk_nil
noncomputable def g39.f (b0 : ByteArray) (b1 : List Int) (b2 : List (ByteArray × Int)) : Option ((List (ByteArray × Int)) × List Int) :=
  if nz b1.length + nz ((strBytes b0).length) ≤ room Try.prog 5 then some (b2, b1 ++ (strBytes b0)) else none
noncomputable def g39.sp : FSpec := { f := 39, ins := [(false, [.ptr 0 0]), (false, [.k .str])], inE := [some (.cells [.sl 1, .mp 2] 126), some (.lst 5 (.int .u8)), some (.map 124 .str (.int .i64))], outs := [], outE := [some (.cells [.sl 3, .mp 2] 126), none, some (.map 124 .str (.int .i64)), some (.lst 5 (.int .u8))], raw := (List (ByteArray × Int)) × List Int, sem := fun x => g39.f x.1.2.1.1 x.2.2.1 x.2.2.2.1, ret := fun y => ((), (((), (), ()), y.1, y.2, ())) }
theorem g39.ok : FOk Try.prog g39.sp := fn_ok (κ := kap) g39.G_ok follows (L := []) (fn := Try.f39) (c := bodyOf Try.f39) rfl (by decide) rfl (lam_by (fn := Try.f39) (by kernel_rfl) lamAll_nil) (un := fun z => (z.2.2.1, z.2.2.2.1)) (fun _ => rfl) (by decide) (fun x => by kernel_rfl)
/-! ### (*beadroll/pack.Packer).Name -/
noncomputable def g40.G : List FSpec := [g79.sp, g33.sp, g39.sp, g80.sp]
theorem g40.G_ok : ∀ sp ∈ g40.G, FOk Try.prog sp := allOk_cons g79.ok (allOk_cons g33.ok (allOk_cons g39.ok (allOk_cons g80.ok allOk_nil)))
noncomputable def g40.s3 (again : ByteArray → Bool → List (ByteArray × Int) → List Int → Option (((List (ByteArray × Int)) × List Int) ⊕ (Int × (List (ByteArray × Int)) × List Int))) (a0 : ByteArray) (a1 : Bool) (a2 : List (ByteArray × Int)) (a3 : List Int) : Option (((List (ByteArray × Int)) × List Int) ⊕ (Int × (List (ByteArray × Int)) × List Int)) :=
  if a0 = (⟨#[0]⟩ : ByteArray) then some (.inl (a2, a3))
  else (match assocS a0 a2 with
  | some x2 => if a1 = true then ((g33.f ([IntKind.wrap .u64 (wrap64 ((49152 : Int) + x2))] : List Int) ([2] : List Int)).bind fun (y3 : ByteArray × Int) =>
    (g39.f y3.1 a3 a2).bind fun (y4 : (List (ByteArray × Int)) × List Int) =>
    some (.inr (0, y4)))
   else (g80.f a0).bind fun (y5 : ByteArray × Bool) =>
   if (0 : Int) ≤ (wrap64 ((nz a0.size) - (nz y5.1.size))) then if (wrap64 ((nz a0.size) - (nz y5.1.size))) ≤ (nz a0.size) then (g39.f (a0.extract 0 ((wrap64 ((nz a0.size) - (nz y5.1.size))).toNat)) a3 a2).bind fun (y6 : (List (ByteArray × Int)) × List Int) =>
   again y5.1 a1 y6.1 y6.2
   else none
   else none
  | none => if (nz a3.length) < 16384 then ((g80.f a0).bind fun (y7 : ByteArray × Bool) =>
    if (0 : Int) ≤ (wrap64 ((nz a0.size) - (nz y7.1.size))) then if (wrap64 ((nz a0.size) - (nz y7.1.size))) ≤ (nz a0.size) then (g39.f (a0.extract 0 ((wrap64 ((nz a0.size) - (nz y7.1.size))).toNat)) a3 (assocSetS a0 (nz a3.length) a2)).bind fun (y8 : (List (ByteArray × Int)) × List Int) =>
    again y7.1 a1 y8.1 y8.2
    else none
    else none)
   else (g80.f a0).bind fun (y9 : ByteArray × Bool) =>
   if (0 : Int) ≤ (wrap64 ((nz a0.size) - (nz y9.1.size))) then if (wrap64 ((nz a0.size) - (nz y9.1.size))) ≤ (nz a0.size) then (g39.f (a0.extract 0 ((wrap64 ((nz a0.size) - (nz y9.1.size))).toNat)) a3 a2).bind fun (y10 : (List (ByteArray × Int)) × List Int) =>
   again y9.1 a1 y10.1 y10.2
   else none
   else none)
noncomputable def g40.l3 : Nat → ByteArray → Bool → List (ByteArray × Int) → List Int → Option (((List (ByteArray × Int)) × List Int) ⊕ (Int × (List (ByteArray × Int)) × List Int))
  | 0, _, _, _, _ => none
  | k + 1, a0, a1, a2, a3 => g40.s3 (g40.l3 k) a0 a1 a2 a3
def g40.n3 : Norm := ⟨[0, 1, 2], [(false, [.ptr 0 0]), (false, [.k .str]), (false, [.k .bool])], [some (.cells [.sl 3, .mp 2] 126), none, some (.map 124 .str (.int .i64)), some (.lst 5 (.int .u8))]⟩
def g40.x3 : List ExitS := [{ e := .exit 0, n := ⟨[0], [(false, [.ptr 0 0])], [some (.cells [.sl 3, .mp 2] 126), none, some (.map 124 .str (.int .i64)), some (.lst 5 (.int .u8))]⟩, raw := (List (ByteArray × Int)) × List Int, ret := fun y => ((((), ()), ()), (((), (), ()), y.1, y.2, ())), un := fun z => (z.2.2.1, z.2.2.2.1) },
  { e := .ret, n := ⟨[6], [(false, [.k (.int .i64)])], [some (.cells [.sl 3, .mp 2] 126), none, some (.map 124 .str (.int .i64)), some (.lst 5 (.int .u8))]⟩, raw := Int × (List (ByteArray × Int)) × List Int, ret := fun y => (((y.1, ()), ()), (((), (), ()), y.2.1, y.2.2, ())), un := fun z => (z.1.1.1, z.2.2.1, z.2.2.2.1) }]
noncomputable def g40.m3 (k : Nat) (x : g40.n3.X) : Option (SumR g40.x3) := g40.l3 k x.1.2.1.1 x.1.2.2.1.1 x.2.2.1 x.2.2.2.1
noncomputable def g40.L3 : LSpec := { id := 3, n := g40.n3, exits := g40.x3, sem := g40.m3 9223372036854775808 }
theorem g40.e3 : ∀ k x, g40.m3 (k + 1) x = roundS Try.prog kap g40.G [] (loopAt Try.f40 3) 80 3 g40.n3 g40.x3 (g40.m3 k) x := fun k x => by kernel_rfl
theorem g40.k3 : LOk Try.prog 3 80 g40.L3 (loopAt Try.f40 3) := LOk.of (κ := kap) (l := g40.L3) g40.G_ok follows (L := []) (lam_by (fn := Try.f40) (by kernel_rfl) lamAll_nil) g40.m3 (unAll_cons (fun _ => rfl) (unAll_cons (fun _ => rfl) unAll_nil)) (fun _ => rfl) g40.e3 9223372036854775808 rfl
noncomputable def g40.f (b0 : ByteArray) (b1 : Bool) (b2 : List Int) (b3 : List (ByteArray × Int)) : Option (Int × (List (ByteArray × Int)) × List Int) :=
  (g79.f b0).bind fun (y1 : Bool) =>
  if (!y1) = true then some (2, b3, b2)
  else (g40.l3 9223372036854775808 b0 b1 b3 b2).bind fun (y11 : ((List (ByteArray × Int)) × List Int) ⊕ (Int × (List (ByteArray × Int)) × List Int)) =>
  (match y11 with
  | .inl y12 => (g39.f (⟨#[0]⟩ : ByteArray) y12.2 y12.1).bind fun (y14 : (List (ByteArray × Int)) × List Int) =>
   some (0, y14)
  | .inr y13 => some y13)
noncomputable def g40.sp : FSpec := { f := 40, ins := [(false, [.ptr 0 0]), (false, [.k .str]), (false, [.k .bool])], inE := [some (.cells [.sl 1, .mp 2] 126), some (.lst 5 (.int .u8)), some (.map 124 .str (.int .i64))], outs := [(false, [.k (.int .i64)])], outE := [some (.cells [.sl 3, .mp 2] 126), none, some (.map 124 .str (.int .i64)), some (.lst 5 (.int .u8))], raw := Int × (List (ByteArray × Int)) × List Int, sem := fun x => g40.f x.1.2.1.1 x.1.2.2.1.1 x.2.2.1 x.2.2.2.1, ret := fun y => (((y.1, ()), ()), (((), (), ()), y.2.1, y.2.2, ())) }
theorem g40.ok : FOk Try.prog g40.sp := fn_ok (κ := kap) g40.G_ok follows (L := [g40.L3]) (fn := Try.f40) (c := bodyOf Try.f40) rfl (by decide) rfl (lam_by (fn := Try.f40) (by kernel_rfl) (lamAll_cons g40.k3 lamAll_nil)) (un := fun z => (z.1.1.1, z.2.2.1, z.2.2.2.1)) (fun _ => rfl) (by decide) (fun x => by kernel_rfl)
/-! ### (*beadroll/pack.Packer).Clone -/
noncomputable def g81.G : List FSpec := [g98.sp, g99.sp]
theorem g81.G_ok : ∀ sp ∈ g81.G, FOk Try.prog sp := allOk_cons g98.ok (allOk_cons g99.ok allOk_nil)
noncomputable def g81.f (b0 : List Int) (b1 : List (ByteArray × Int)) : Option (List Int × (List (ByteArray × Int)) × List Int × (List (ByteArray × Int))) :=
  (g98.f b0).bind fun (y1 : List Int) =>
  (g99.f b1).bind fun (y2 : (List (ByteArray × Int)) × (List (ByteArray × Int))) =>
  some (b0, y2.1, y1, y2.2)
noncomputable def g81.sp : FSpec := { f := 81, ins := [(false, [.ptr 0 0])], inE := [some (.cells [.sl 1, .mp 2] 126), some (.lst 5 (.int .u8)), some (.map 124 .str (.int .i64))], outs := [(false, [.ptr 3 0])], outE := [some (.cells [.sl 1, .mp 2] 126), some (.lst 5 (.int .u8)), some (.map 124 .str (.int .i64)), some (.cells [.sl 4, .mp 5] 126), some (.lst 5 (.int .u8)), some (.map 124 .str (.int .i64))], raw := List Int × (List (ByteArray × Int)) × List Int × (List (ByteArray × Int)), sem := fun x => g81.f x.2.2.1 x.2.2.2.1, ret := fun y => ((((), ()), ()), (((), (), ()), y.1, y.2.1, ((), (), ()), y.2.2.1, y.2.2.2, ())) }
theorem g81.ok : FOk Try.prog g81.sp := fn_ok (κ := kap) g81.G_ok follows (L := []) (fn := Try.f81) (c := bodyOf Try.f81) rfl (by decide) rfl (lam_by (fn := Try.f81) (by kernel_rfl) lamAll_nil) (un := fun z => (z.2.2.1, z.2.2.2.1, z.2.2.2.2.2.1, z.2.2.2.2.2.2.1)) (fun _ => rfl) (by decide) (fun x => by kernel_rfl)
/-! ### (*beadroll/pack.Packer).Len -/
noncomputable def g42.G : List FSpec := []
theorem g42.G_ok : ∀ sp ∈ g42.G, FOk Try.prog sp := allOk_nil
noncomputable def g42.f (b0 : List Int) (b1 : List (ByteArray × Int)) : Option (Int × (List (ByteArray × Int)) × List Int) :=
  some (nz b0.length, b1, b0)
noncomputable def g42.sp : FSpec := { f := 42, ins := [(false, [.ptr 0 0])], inE := [some (.cells [.sl 1, .mp 2] 126), some (.lst 5 (.int .u8)), some (.map 124 .str (.int .i64))], outs := [(false, [.k (.int .i64)])], outE := [some (.cells [.sl 3, .mp 2] 126), none, some (.map 124 .str (.int .i64)), some (.lst 5 (.int .u8))], raw := Int × (List (ByteArray × Int)) × List Int, sem := fun x => g42.f x.2.2.1 x.2.2.2.1, ret := fun y => (((y.1, ()), ()), (((), (), ()), y.2.1, y.2.2, ())) }
theorem g42.ok : FOk Try.prog g42.sp := fn_ok (κ := kap) g42.G_ok follows (L := []) (fn := Try.f42) (c := bodyOf Try.f42) rfl (by decide) rfl (lam_by (fn := Try.f42) (by kernel_rfl) lamAll_nil) (un := fun z => (z.1.1.1, z.2.2.1, z.2.2.2.1)) (fun _ => rfl) (by decide) (fun x => by kernel_rfl)
/-! ### beadroll/rdata.Write$1 -/
noncomputable def g109.G : List FSpec := [g40.sp, g39.sp]
theorem g109.G_ok : ∀ sp ∈ g109.G, FOk Try.prog sp := allOk_cons g40.ok (allOk_cons g39.ok allOk_nil)
noncomputable def g109.f (b0 : Int) (b1 : ByteArray) (b2 : List Int) (b3 : List (ByteArray × Int)) : Option ((List (ByteArray × Int)) × List Int) :=
  if b0 = (-1) then ((g40.f b1 (decide (b0 = (-1))) b2 b3).bind fun (y1 : Int × (List (ByteArray × Int)) × List Int) =>
   some y1.2)
  else if b0 = (-2) then ((g40.f b1 (decide (b0 = (-1))) b2 b3).bind fun (y2 : Int × (List (ByteArray × Int)) × List Int) =>
   some y2.2)
  else (g39.f b1 b2 b3).bind fun (y3 : (List (ByteArray × Int)) × List Int) =>
  some y3
noncomputable def g109.sp : FSpec := { f := 109, ins := [(false, [.k (.int .i64)]), (false, [.k .str]), (false, [.ptr 0 0])], inE := [some (.cells [.ptr 1 0] 74), some (.cells [.sl 2, .mp 3] 126), some (.lst 5 (.int .u8)), some (.map 124 .str (.int .i64))], outs := [], outE := [some (.cells [.ptr 1 0] 74), some (.cells [.sl 4, .mp 3] 126), none, some (.map 124 .str (.int .i64)), some (.lst 5 (.int .u8))], raw := (List (ByteArray × Int)) × List Int, sem := fun x => g109.f x.1.1.1 x.1.2.1.1 x.2.2.2.1 x.2.2.2.2.1, ret := fun y => ((), (((), ()), ((), (), ()), y.1, y.2, ())) }
theorem g109.ok : FOk Try.prog g109.sp := fn_ok (κ := kap) g109.G_ok follows (L := []) (fn := Try.f109) (c := bodyOf Try.f109) rfl (by decide) rfl (lam_by (fn := Try.f109) (by kernel_rfl) lamAll_nil) (un := fun z => (z.2.2.2.1, z.2.2.2.2.1)) (fun _ => rfl) (by decide) (fun x => by kernel_rfl)
/-! ### beadroll/rdata.walk -/
noncomputable def g91v2.G : List FSpec := [g103.sp, g104.sp, g109.sp]
theorem g91v2.G_ok : ∀ sp ∈ g91v2.G, FOk Try.prog sp := allOk_cons g103.ok (allOk_cons g104.ok (allOk_cons g109.ok allOk_nil))
noncomputable def g91v2.s2 (again : ByteArray → Int → Int → List Int → Int → Int → List (ByteArray × Int) → List Int → Option ((Bool × (List (ByteArray × Int)) × List Int) ⊕ (Int × Int × (List (ByteArray × Int)) × List Int))) (a0 : ByteArray) (a1 : Int) (a2 : Int) (a3 : List Int) (a4 : Int) (a5 : Int) (a6 : List (ByteArray × Int)) (a7 : List Int) : Option ((Bool × (List (ByteArray × Int)) × List Int) ⊕ (Int × Int × (List (ByteArray × Int)) × List Int)) :=
  if a5 < a4 then (if 0 ≤ a5 then if a5 < nz a3.length then (match a3[a5.toNat]? with
   | some x2 => (g104.f a0 a1 a2 x2).bind fun (y3 : ByteArray × Int × Bool) =>
    if (!y3.2.2) = true then some (.inl (false, a6, a7))
    else (g109.f x2 y3.1 a7 a6).bind fun (y4 : (List (ByteArray × Int)) × List Int) =>
    again a0 y3.2.1 a2 a3 a4 (wrap64 (a5 + 1)) y4.1 y4.2
   | none => none)
   else none
   else none)
  else some (.inr (a1, a2, a6, a7))
noncomputable def g91v2.l2 : Nat → ByteArray → Int → Int → List Int → Int → Int → List (ByteArray × Int) → List Int → Option ((Bool × (List (ByteArray × Int)) × List Int) ⊕ (Int × Int × (List (ByteArray × Int)) × List Int))
  | 0, _, _, _, _, _, _, _, _ => none
  | k + 1, a0, a1, a2, a3, a4, a5, a6, a7 => g91v2.s2 (g91v2.l2 k) a0 a1 a2 a3 a4 a5 a6 a7
def g91v2.n2 : Norm := ⟨[0, 1, 2, 4, 17, 18, 19], [(false, [.k .str]), (false, [.k (.int .i64)]), (false, [.k (.int .i64)]), (false, [.clo 109 [0]]), (false, [.k (.list 3 (.int .i64))]), (false, [.k (.int .i64)]), (false, [.k (.int .i64)])], [some (.cells [.ptr 1 0] 74), some (.cells [.sl 4, .mp 3] 126), none, some (.map 124 .str (.int .i64)), some (.lst 5 (.int .u8))]⟩
def g91v2.x2 : List ExitS := [{ e := .ret, n := ⟨[10], [(false, [.k .bool])], [some (.cells [.ptr 1 0] 74), some (.cells [.sl 4, .mp 3] 126), none, some (.map 124 .str (.int .i64)), some (.lst 5 (.int .u8))]⟩, raw := Bool × (List (ByteArray × Int)) × List Int, ret := fun y => (((y.1, ()), ()), (((), ()), ((), (), ()), y.2.1, y.2.2, ())), un := fun z => (z.1.1.1, z.2.2.2.1, z.2.2.2.2.1) },
  { e := .exit 0, n := ⟨[1, 2], [(false, [.k (.int .i64)]), (false, [.k (.int .i64)])], [some (.cells [.ptr 1 0] 74), some (.cells [.sl 4, .mp 3] 126), none, some (.map 124 .str (.int .i64)), some (.lst 5 (.int .u8))]⟩, raw := Int × Int × (List (ByteArray × Int)) × List Int, ret := fun y => (((y.1, ()), (y.2.1, ()), ()), (((), ()), ((), (), ()), y.2.2.1, y.2.2.2, ())), un := fun z => (z.1.1.1, z.1.2.1.1, z.2.2.2.1, z.2.2.2.2.1) }]
noncomputable def g91v2.m2 (k : Nat) (x : g91v2.n2.X) : Option (SumR g91v2.x2) := g91v2.l2 k x.1.1.1 x.1.2.1.1 x.1.2.2.1.1 x.1.2.2.2.2.1.1 x.1.2.2.2.2.2.1.1 x.1.2.2.2.2.2.2.1.1 x.2.2.2.1 x.2.2.2.2.1
noncomputable def g91v2.L2 : LSpec := { id := 2, n := g91v2.n2, exits := g91v2.x2, sem := g91v2.m2 9223372036854775808 }
theorem g91v2.e2 : ∀ k x, g91v2.m2 (k + 1) x = roundS Try.prog kap g91v2.G [] (loopAt Try.f91 2) 43 4 g91v2.n2 g91v2.x2 (g91v2.m2 k) x := fun k x => by kernel_rfl
theorem g91v2.k2 : LOk Try.prog 4 43 g91v2.L2 (loopAt Try.f91 2) := LOk.of (κ := kap) (l := g91v2.L2) g91v2.G_ok follows (L := []) (lam_by (fn := Try.f91) (by kernel_rfl) lamAll_nil) g91v2.m2 (unAll_cons (fun _ => rfl) (unAll_cons (fun _ => rfl) unAll_nil)) (fun _ => rfl) g91v2.e2 9223372036854775808 rfl
noncomputable def g91v2.f (b0 : ByteArray) (b1 : Int) (b2 : Int) (b3 : Int) (b4 : List Int) (b5 : List (ByteArray × Int)) : Option (Bool × (List (ByteArray × Int)) × List Int) :=
  (g103.f b3).bind fun (y1 : List Int) =>
  (g91v2.l2 9223372036854775808 b0 b1 b2 y1 (nz y1.length) 0 b5 b4).bind fun (y5 : (Bool × (List (ByteArray × Int)) × List Int) ⊕ (Int × Int × (List (ByteArray × Int)) × List Int)) =>
  (match y5 with
  | .inl y6 => some y6
  | .inr y7 => some (decide (y7.1 = y7.2.1), y7.2.2))
noncomputable def g91v2.sp : FSpec := { f := 91, ins := [(false, [.k .str]), (false, [.k (.int .i64)]), (false, [.k (.int .i64)]), (false, [.k (.int .i64)]), (false, [.clo 109 [0]])], inE := [some (.cells [.ptr 1 0] 74), some (.cells [.sl 2, .mp 3] 126), some (.lst 5 (.int .u8)), some (.map 124 .str (.int .i64))], outs := [(false, [.k .bool])], outE := [some (.cells [.ptr 1 0] 74), some (.cells [.sl 4, .mp 3] 126), none, some (.map 124 .str (.int .i64)), some (.lst 5 (.int .u8))], raw := Bool × (List (ByteArray × Int)) × List Int, sem := fun x => g91v2.f x.1.1.1 x.1.2.1.1 x.1.2.2.1.1 x.1.2.2.2.1.1 x.2.2.2.1 x.2.2.2.2.1, ret := fun y => (((y.1, ()), ()), (((), ()), ((), (), ()), y.2.1, y.2.2, ())) }
theorem g91v2.ok : FOk Try.prog g91v2.sp := fn_ok (κ := kap) g91v2.G_ok follows (L := [g91v2.L2]) (fn := Try.f91) (c := bodyOf Try.f91) rfl (by decide) rfl (lam_by (fn := Try.f91) (by kernel_rfl) (lamAll_cons g91v2.k2 lamAll_nil)) (un := fun z => (z.1.1.1, z.2.2.2.1, z.2.2.2.2.1)) (fun _ => rfl) (by decide) (fun x => by kernel_rfl)
/-! ### beadroll/rdata.Write -/
noncomputable def g100.G : List FSpec := [g85.sp, g91v2.sp]
theorem g100.G_ok : ∀ sp ∈ g100.G, FOk Try.prog sp := allOk_cons g85.ok (allOk_cons g91v2.ok allOk_nil)
noncomputable def g100.f (b0 : Int) (b1 : ByteArray) (b2 : List Int) (b3 : List (ByteArray × Int)) : Option (Int × (List (ByteArray × Int)) × List Int) :=
  (g85.f b0 b1).bind fun (y1 : Bool) =>
  if (!y1) = true then some (2, b3, b2)
  else (g91v2.f b1 0 (nz b1.size) b0 b2 b3).bind fun (y2 : Bool × (List (ByteArray × Int)) × List Int) =>
  some (0, y2.2)
noncomputable def g100.sp : FSpec := { f := 100, ins := [(false, [.ptr 0 0]), (false, [.k (.int .i64)]), (false, [.k .str])], inE := [some (.cells [.sl 1, .mp 2] 126), some (.lst 5 (.int .u8)), some (.map 124 .str (.int .i64))], outs := [(false, [.k (.int .i64)])], outE := [some (.cells [.sl 3, .mp 2] 126), none, some (.map 124 .str (.int .i64)), some (.lst 5 (.int .u8))], raw := Int × (List (ByteArray × Int)) × List Int, sem := fun x => g100.f x.1.2.1.1 x.1.2.2.1.1 x.2.2.1 x.2.2.2.1, ret := fun y => (((y.1, ()), ()), (((), (), ()), y.2.1, y.2.2, ())) }
theorem g100.ok : FOk Try.prog g100.sp := fn_ok (κ := kap) g100.G_ok follows (L := []) (fn := Try.f100) (c := bodyOf Try.f100) rfl (by decide) rfl (lam_by (fn := Try.f100) (by kernel_rfl) lamAll_nil) (un := fun z => (z.1.1.1, z.2.2.1, z.2.2.2.1)) (fun _ => rfl) (by decide) (fun x => by kernel_rfl)
/-! ### beadroll/record.data -/
noncomputable def g82.G : List FSpec := [g62.sp, g100.sp, g39.sp]
theorem g82.G_ok : ∀ sp ∈ g82.G, FOk Try.prog sp := allOk_cons g62.ok (allOk_cons g100.ok (allOk_cons g39.ok allOk_nil))
noncomputable def g82.f (b0 : ByteArray × Int × Int × Int × ByteArray) (b1 : List Int) (b2 : List (ByteArray × Int)) : Option ((List (ByteArray × Int)) × List Int) :=
  (g62.f b0).bind fun (y1 : Bool) =>
  if y1 = true then ((g100.f b0.2.1 b0.2.2.2.2 b1 b2).bind fun (y2 : Int × (List (ByteArray × Int)) × List Int) =>
   some y2.2)
  else (g39.f b0.2.2.2.2 b1 b2).bind fun (y3 : (List (ByteArray × Int)) × List Int) =>
  some y3
noncomputable def g82.sp : FSpec := { f := 82, ins := [(false, [.ptr 0 0]), (true, [.k (.pair .str (.pair (.int .i64) (.pair (.int .i64) (.pair (.int .i64) .str))))])], inE := [some (.cells [.sl 1, .mp 2] 126), some (.lst 5 (.int .u8)), some (.map 124 .str (.int .i64))], outs := [], outE := [some (.cells [.sl 3, .mp 2] 126), none, some (.map 124 .str (.int .i64)), some (.lst 5 (.int .u8))], raw := (List (ByteArray × Int)) × List Int, sem := fun x => g82.f x.1.2.1.1 x.2.2.1 x.2.2.2.1, ret := fun y => ((), (((), (), ()), y.1, y.2, ())) }
theorem g82.ok : FOk Try.prog g82.sp := fn_ok (κ := kap) g82.G_ok follows (L := []) (fn := Try.f82) (c := bodyOf Try.f82) rfl (by decide) rfl (lam_by (fn := Try.f82) (by kernel_rfl) lamAll_nil) (un := fun z => (z.2.2.1, z.2.2.2.1)) (fun _ => rfl) (by decide) (fun x => by kernel_rfl)
/-! ### beadroll/record.Write -/
noncomputable def g43.G : List FSpec := [g50.sp, g40.sp, g81.sp, g39.sp, g42.sp, g82.sp, g33.sp]
theorem g43.G_ok : ∀ sp ∈ g43.G, FOk Try.prog sp := allOk_cons g50.ok (allOk_cons g40.ok (allOk_cons g81.ok (allOk_cons g39.ok (allOk_cons g42.ok (allOk_cons g82.ok (allOk_cons g33.ok allOk_nil))))))
noncomputable def g43.f (b0 : ByteArray × Int × Int × Int × ByteArray) (b1 : List Int) (b2 : List (ByteArray × Int)) : Option (Int × (List (ByteArray × Int)) × List Int) :=
  (g50.f b0).bind fun (y1 : Bool) =>
  if (!y1) = true then some (2, b2, b1)
  else (g40.f b0.1 true b1 b2).bind fun (y2 : Int × (List (ByteArray × Int)) × List Int) =>
  (g81.f y2.2.2 y2.2.1).bind fun (y3 : List Int × (List (ByteArray × Int)) × List Int × (List (ByteArray × Int))) =>
  (g39.f (⟨#[0, 0, 0, 0, 0, 0, 0, 0, 0, 0]⟩ : ByteArray) y3.2.2.1 y3.2.2.2).bind fun (y4 : (List (ByteArray × Int)) × List Int) =>
  (g42.f y4.2 y4.1).bind fun (y5 : Int × (List (ByteArray × Int)) × List Int) =>
  (g82.f b0 y5.2.2 y5.2.1).bind fun (y6 : (List (ByteArray × Int)) × List Int) =>
  (g42.f y6.2 y6.1).bind fun (y7 : Int × (List (ByteArray × Int)) × List Int) =>
  (g33.f ([IntKind.wrap .u64 b0.2.1, IntKind.wrap .u64 b0.2.2.1, IntKind.wrap .u64 b0.2.2.2.1, IntKind.wrap .u64 (wrap64 (y7.1 - y5.1))] : List Int) ([2, 2, 4, 2] : List Int)).bind fun (y8 : ByteArray × Int) =>
  (g39.f y8.1 y3.1 y3.2.1).bind fun (y9 : (List (ByteArray × Int)) × List Int) =>
  (g82.f b0 y9.2 y9.1).bind fun (y10 : (List (ByteArray × Int)) × List Int) =>
  some (0, y10)
noncomputable def g43.sp : FSpec := { f := 43, ins := [(false, [.ptr 0 0]), (true, [.k (.pair .str (.pair (.int .i64) (.pair (.int .i64) (.pair (.int .i64) .str))))])], inE := [some (.cells [.sl 1, .mp 2] 126), some (.lst 5 (.int .u8)), some (.map 124 .str (.int .i64))], outs := [(false, [.k (.int .i64)])], outE := [some (.cells [.sl 3, .mp 2] 126), none, some (.map 124 .str (.int .i64)), some (.lst 5 (.int .u8))], raw := Int × (List (ByteArray × Int)) × List Int, sem := fun x => g43.f x.1.2.1.1 x.2.2.1 x.2.2.2.1, ret := fun y => (((y.1, ()), ()), (((), (), ()), y.2.1, y.2.2, ())) }
theorem g43.ok : FOk Try.prog g43.sp := fn_ok (κ := kap) g43.G_ok follows (L := []) (fn := Try.f43) (c := bodyOf Try.f43) rfl (by decide) rfl (lam_by (fn := Try.f43) (by kernel_rfl) lamAll_nil) (un := fun z => (z.1.1.1, z.2.2.1, z.2.2.2.1)) (fun _ => rfl) (by decide) (fun x => by kernel_rfl)
/-! ### (*beadroll/pack.Packer).Bytes -/
noncomputable def g44.G : List FSpec := []
theorem g44.G_ok : ∀ sp ∈ g44.G, FOk Try.prog sp := allOk_nil
noncomputable def g44.f (b0 : List Int) (b1 : List (ByteArray × Int)) : Option (ByteArray × (List (ByteArray × Int)) × List Int) :=
  some (bytesStr b0, b1, b0)
noncomputable def g44.sp : FSpec := { f := 44, ins := [(false, [.ptr 0 0])], inE := [some (.cells [.sl 1, .mp 2] 126), some (.lst 5 (.int .u8)), some (.map 124 .str (.int .i64))], outs := [(false, [.k .str])], outE := [some (.cells [.sl 3, .mp 2] 126), none, some (.map 124 .str (.int .i64)), some (.lst 5 (.int .u8))], raw := ByteArray × (List (ByteArray × Int)) × List Int, sem := fun x => g44.f x.2.2.1 x.2.2.2.1, ret := fun y => (((y.1, ()), ()), (((), (), ()), y.2.1, y.2.2, ())) }
theorem g44.ok : FOk Try.prog g44.sp := fn_ok (κ := kap) g44.G_ok follows (L := []) (fn := Try.f44) (c := bodyOf Try.f44) rfl (by decide) rfl (lam_by (fn := Try.f44) (by kernel_rfl) lamAll_nil) (un := fun z => (z.1.1.1, z.2.2.1, z.2.2.2.1)) (fun _ => rfl) (by decide) (fun x => by kernel_rfl)
/-! ### beadroll/entry.Own -/
/-! ### slices.Grow[[]beadroll/api.RR,beadroll/api.RR] -/
/-! ### slices.Concat[[]beadroll/api.RR,beadroll/api.RR] -/
/-! ### beadroll/octets.Piece -/
/-! ### beadroll/entry.pieces -/
/-! ### beadroll/entry.Bytes -/
/-! ### beadroll/beadrollref17.Formed -/
/-! ### beadroll/beadrollref17.Few -/
/-! ### beadroll/message.within -/
noncomputable def g47.G : List FSpec := []
theorem g47.G_ok : ∀ sp ∈ g47.G, FOk Try.prog sp := allOk_nil
noncomputable def g47.f (b0 : Int) (b1 : Int) : Option Bool :=
  if (0 : Int) ≤ b0 then some (decide (b0 ≤ b1))
  else some false
noncomputable def g47.sp : FSpec := { f := 47, ins := [(false, [.k (.int .i64)]), (false, [.k (.int .i64)])], inE := [], outs := [(false, [.k .bool])], outE := [], raw := Bool, sem := fun x => g47.f x.1.1.1 x.1.2.1.1, ret := fun y => (((y, ()), ()), ()) }
theorem g47.ok : FOk Try.prog g47.sp := fn_ok (κ := kap) g47.G_ok follows (L := []) (fn := Try.f47) (c := bodyOf Try.f47) rfl (by decide) rfl (lam_by (fn := Try.f47) (by kernel_rfl) lamAll_nil) (un := fun z => z.1.1.1) (fun _ => rfl) (by decide) (fun x => by kernel_rfl)
/-! ### (*beadroll/message.Msg).sections -/
noncomputable def g41.G : List FSpec := []
theorem g41.G_ok : ∀ sp ∈ g41.G, FOk Try.prog sp := allOk_nil
noncomputable def g41.f (b0 : Int × Bool × Int × Bool × Bool × Bool × Bool × Int × Int × List (ByteArray × Int × Int) × List (ByteArray × Int × Int × Int × ByteArray) × List (ByteArray × Int × Int × Int × ByteArray) × List (ByteArray × Int × Int × Int × ByteArray)) : Option (Int × Bool × Int × Bool × Bool × Bool × Bool × Int × Int × List (ByteArray × Int × Int) × List (ByteArray × Int × Int × Int × ByteArray) × List (ByteArray × Int × Int × Int × ByteArray) × List (ByteArray × Int × Int × Int × ByteArray)) :=
  some b0
noncomputable def g41.sp : FSpec := { f := 41, ins := [(false, [.ptr 0 0])], inE := [some (.cells [.k (.pair (.int .i64) (.pair .bool (.pair (.int .i64) (.pair .bool (.pair .bool (.pair .bool (.pair .bool (.pair (.int .i64) (.pair (.int .i64) (.pair (.list 71 (.pair .str (.pair (.int .i64) (.int .i64)))) (.pair (.list 63 (.pair .str (.pair (.int .i64) (.pair (.int .i64) (.pair (.int .i64) .str))))) (.pair (.list 63 (.pair .str (.pair (.int .i64) (.pair (.int .i64) (.pair (.int .i64) .str))))) (.list 63 (.pair .str (.pair (.int .i64) (.pair (.int .i64) (.pair (.int .i64) .str)))))))))))))))))] 45)], outs := [(true, [.ptr 0 10, .ptr 0 11, .ptr 0 12])], outE := [some (.cells [.k (.pair (.int .i64) (.pair .bool (.pair (.int .i64) (.pair .bool (.pair .bool (.pair .bool (.pair .bool (.pair (.int .i64) (.pair (.int .i64) (.pair (.list 71 (.pair .str (.pair (.int .i64) (.int .i64)))) (.pair (.list 63 (.pair .str (.pair (.int .i64) (.pair (.int .i64) (.pair (.int .i64) .str))))) (.pair (.list 63 (.pair .str (.pair (.int .i64) (.pair (.int .i64) (.pair (.int .i64) .str))))) (.list 63 (.pair .str (.pair (.int .i64) (.pair (.int .i64) (.pair (.int .i64) .str)))))))))))))))))] 45)], raw := (Int × Bool × Int × Bool × Bool × Bool × Bool × Int × Int × List (ByteArray × Int × Int) × List (ByteArray × Int × Int × Int × ByteArray) × List (ByteArray × Int × Int × Int × ByteArray) × List (ByteArray × Int × Int × Int × ByteArray)), sem := fun x => g41.f x.2.1.1, ret := fun y => ((((), (), (), ()), ()), ((y, ()), ())) }
theorem g41.ok : FOk Try.prog g41.sp := fn_ok (κ := kap) g41.G_ok follows (L := []) (fn := Try.f41) (c := bodyOf Try.f41) rfl (by decide) rfl (lam_by (fn := Try.f41) (by kernel_rfl) lamAll_nil) (un := fun z => z.2.1.1) (fun _ => rfl) (by decide) (fun x => by kernel_rfl)
/-! ### beadroll/message.Formed$1 -/
noncomputable def g49.G : List FSpec := [g50.sp]
theorem g49.G_ok : ∀ sp ∈ g49.G, FOk Try.prog sp := allOk_cons g50.ok allOk_nil
noncomputable def g49.f (b0 : ByteArray × Int × Int × Int × ByteArray) : Option Bool :=
  (g50.f b0).bind fun (y1 : Bool) =>
  some (!y1)
noncomputable def g49.sp : FSpec := { f := 49, ins := [(true, [.k (.pair .str (.pair (.int .i64) (.pair (.int .i64) (.pair (.int .i64) .str))))])], inE := [], outs := [(false, [.k .bool])], outE := [], raw := Bool, sem := fun x => g49.f x.1.1.1, ret := fun y => (((y, ()), ()), ()) }
theorem g49.ok : FOk Try.prog g49.sp := fn_ok (κ := kap) g49.G_ok follows (L := []) (fn := Try.f49) (c := bodyOf Try.f49) rfl (by decide) rfl (lam_by (fn := Try.f49) (by kernel_rfl) lamAll_nil) (un := fun z => z.1.1.1) (fun _ => rfl) (by decide) (fun x => by kernel_rfl)
/-! ### slices.IndexFunc[[]beadroll/api.RR,beadroll/api.RR] -/
noncomputable def g84.G : List FSpec := [g49.sp]
theorem g84.G_ok : ∀ sp ∈ g84.G, FOk Try.prog sp := allOk_cons g49.ok allOk_nil
noncomputable def g84.s2 (again : List (ByteArray × Int × Int × Int × ByteArray) → Int → Int → Option (Int ⊕ Unit)) (a0 : List (ByteArray × Int × Int × Int × ByteArray)) (a1 : Int) (a2 : Int) : Option (Int ⊕ Unit) :=
  if a2 < a1 then (if 0 ≤ a2 then if a2 < nz a0.length then (match a0[a2.toNat]? with
   | some x1 => (g49.f x1).bind fun (y2 : Bool) =>
    if y2 = true then some (.inl a2)
    else again a0 a1 (wrap64 (a2 + 1))
   | none => none)
   else none
   else none)
  else some (.inr ())
noncomputable def g84.l2 : Nat → List (ByteArray × Int × Int × Int × ByteArray) → Int → Int → Option (Int ⊕ Unit)
  | 0, _, _, _ => none
  | k + 1, a0, a1, a2 => g84.s2 (g84.l2 k) a0 a1 a2
def g84.n2 : Norm := ⟨[0, 1, 7, 8], [(false, [.k (.list 63 (.pair .str (.pair (.int .i64) (.pair (.int .i64) (.pair (.int .i64) .str)))))]), (false, [.clo 49 []]), (false, [.k (.int .i64)]), (false, [.k (.int .i64)])], []⟩
def g84.x2 : List ExitS := [{ e := .ret, n := ⟨[4], [(false, [.k (.int .i64)])], []⟩, raw := Int, ret := fun y => (((y, ()), ()), ()), un := fun z => z.1.1.1 },
  { e := .exit 0, n := ⟨[], [], []⟩, raw := Unit, ret := fun y => ((), ()), un := fun z => () }]
noncomputable def g84.m2 (k : Nat) (x : g84.n2.X) : Option (SumR g84.x2) := g84.l2 k x.1.1.1 x.1.2.2.1.1 x.1.2.2.2.1.1
noncomputable def g84.L2 : LSpec := { id := 2, n := g84.n2, exits := g84.x2, sem := g84.m2 9223372036854775808 }
theorem g84.e2 : ∀ k x, g84.m2 (k + 1) x = roundS Try.prog kap g84.G [] (loopAt Try.f84 2) 19 0 g84.n2 g84.x2 (g84.m2 k) x := fun k x => by kernel_rfl
theorem g84.k2 : LOk Try.prog 0 19 g84.L2 (loopAt Try.f84 2) := LOk.of (κ := kap) (l := g84.L2) g84.G_ok follows (L := []) (lam_by (fn := Try.f84) (by kernel_rfl) lamAll_nil) g84.m2 (unAll_cons (fun _ => rfl) (unAll_cons (fun _ => rfl) unAll_nil)) (fun _ => rfl) g84.e2 9223372036854775808 rfl
noncomputable def g84.f (b0 : List (ByteArray × Int × Int × Int × ByteArray)) : Option Int :=
  (g84.l2 9223372036854775808 b0 (nz b0.length) 0).bind fun (y3 : Int ⊕ Unit) =>
  (match y3 with
  | .inl y4 => some y4
  | .inr y5 => some (-1))
noncomputable def g84.sp : FSpec := { f := 84, ins := [(false, [.k (.list 63 (.pair .str (.pair (.int .i64) (.pair (.int .i64) (.pair (.int .i64) .str)))))]), (false, [.clo 49 []])], inE := [], outs := [(false, [.k (.int .i64)])], outE := [], raw := Int, sem := fun x => g84.f x.1.1.1, ret := fun y => (((y, ()), ()), ()) }
theorem g84.ok : FOk Try.prog g84.sp := fn_ok (κ := kap) g84.G_ok follows (L := [g84.L2]) (fn := Try.f84) (c := bodyOf Try.f84) rfl (by decide) rfl (lam_by (fn := Try.f84) (by kernel_rfl) (lamAll_cons g84.k2 lamAll_nil)) (un := fun z => z.1.1.1) (fun _ => rfl) (by decide) (fun x => by kernel_rfl)
/-! ### slices.ContainsFunc[[]beadroll/api.RR,beadroll/api.RR] -/
noncomputable def g48.G : List FSpec := [g84.sp]
theorem g48.G_ok : ∀ sp ∈ g48.G, FOk Try.prog sp := allOk_cons g84.ok allOk_nil
noncomputable def g48.f (b0 : List (ByteArray × Int × Int × Int × ByteArray)) : Option Bool :=
  (g84.f b0).bind fun (y1 : Int) =>
  some (decide ((0 : Int) ≤ y1))
noncomputable def g48.sp : FSpec := { f := 48, ins := [(false, [.k (.list 63 (.pair .str (.pair (.int .i64) (.pair (.int .i64) (.pair (.int .i64) .str)))))]), (false, [.clo 49 []])], inE := [], outs := [(false, [.k .bool])], outE := [], raw := Bool, sem := fun x => g48.f x.1.1.1, ret := fun y => (((y, ()), ()), ()) }
theorem g48.ok : FOk Try.prog g48.sp := fn_ok (κ := kap) g48.G_ok follows (L := []) (fn := Try.f48) (c := bodyOf Try.f48) rfl (by decide) rfl (lam_by (fn := Try.f48) (by kernel_rfl) lamAll_nil) (un := fun z => z.1.1.1) (fun _ => rfl) (by decide) (fun x => by kernel_rfl)
/-! ### beadroll/message.asked -/
noncomputable def g53.G : List FSpec := [g79.sp, g47.sp]
theorem g53.G_ok : ∀ sp ∈ g53.G, FOk Try.prog sp := allOk_cons g79.ok (allOk_cons g47.ok allOk_nil)
noncomputable def g53.f (b0 : ByteArray × Int × Int) : Option Bool :=
  (g79.f b0.1).bind fun (y1 : Bool) =>
  if y1 = true then ((g47.f b0.2.1 65535).bind fun (y2 : Bool) =>
   if y2 = true then ((g47.f b0.2.2 65535).bind fun (y3 : Bool) =>
    some y3)
   else some false)
  else some false
noncomputable def g53.sp : FSpec := { f := 53, ins := [(true, [.k (.pair .str (.pair (.int .i64) (.int .i64)))])], inE := [], outs := [(false, [.k .bool])], outE := [], raw := Bool, sem := fun x => g53.f x.1.1.1, ret := fun y => (((y, ()), ()), ()) }
theorem g53.ok : FOk Try.prog g53.sp := fn_ok (κ := kap) g53.G_ok follows (L := []) (fn := Try.f53) (c := bodyOf Try.f53) rfl (by decide) rfl (lam_by (fn := Try.f53) (by kernel_rfl) lamAll_nil) (un := fun z => z.1.1.1) (fun _ => rfl) (by decide) (fun x => by kernel_rfl)
/-! ### beadroll/message.Formed$2 -/
noncomputable def g52.G : List FSpec := [g53.sp]
theorem g52.G_ok : ∀ sp ∈ g52.G, FOk Try.prog sp := allOk_cons g53.ok allOk_nil
noncomputable def g52.f (b0 : ByteArray × Int × Int) : Option Bool :=
  (g53.f b0).bind fun (y1 : Bool) =>
  some (!y1)
noncomputable def g52.sp : FSpec := { f := 52, ins := [(true, [.k (.pair .str (.pair (.int .i64) (.int .i64)))])], inE := [], outs := [(false, [.k .bool])], outE := [], raw := Bool, sem := fun x => g52.f x.1.1.1, ret := fun y => (((y, ()), ()), ()) }
theorem g52.ok : FOk Try.prog g52.sp := fn_ok (κ := kap) g52.G_ok follows (L := []) (fn := Try.f52) (c := bodyOf Try.f52) rfl (by decide) rfl (lam_by (fn := Try.f52) (by kernel_rfl) lamAll_nil) (un := fun z => z.1.1.1) (fun _ => rfl) (by decide) (fun x => by kernel_rfl)
/-! ### slices.IndexFunc[[]beadroll/api.Question,beadroll/api.Question] -/
noncomputable def g86.G : List FSpec := [g52.sp]
theorem g86.G_ok : ∀ sp ∈ g86.G, FOk Try.prog sp := allOk_cons g52.ok allOk_nil
noncomputable def g86.s2 (again : List (ByteArray × Int × Int) → Int → Int → Option (Int ⊕ Unit)) (a0 : List (ByteArray × Int × Int)) (a1 : Int) (a2 : Int) : Option (Int ⊕ Unit) :=
  if a2 < a1 then (if 0 ≤ a2 then if a2 < nz a0.length then (match a0[a2.toNat]? with
   | some x1 => (g52.f x1).bind fun (y2 : Bool) =>
    if y2 = true then some (.inl a2)
    else again a0 a1 (wrap64 (a2 + 1))
   | none => none)
   else none
   else none)
  else some (.inr ())
noncomputable def g86.l2 : Nat → List (ByteArray × Int × Int) → Int → Int → Option (Int ⊕ Unit)
  | 0, _, _, _ => none
  | k + 1, a0, a1, a2 => g86.s2 (g86.l2 k) a0 a1 a2
def g86.n2 : Norm := ⟨[0, 1, 7, 8], [(false, [.k (.list 71 (.pair .str (.pair (.int .i64) (.int .i64))))]), (false, [.clo 52 []]), (false, [.k (.int .i64)]), (false, [.k (.int .i64)])], []⟩
def g86.x2 : List ExitS := [{ e := .ret, n := ⟨[4], [(false, [.k (.int .i64)])], []⟩, raw := Int, ret := fun y => (((y, ()), ()), ()), un := fun z => z.1.1.1 },
  { e := .exit 0, n := ⟨[], [], []⟩, raw := Unit, ret := fun y => ((), ()), un := fun z => () }]
noncomputable def g86.m2 (k : Nat) (x : g86.n2.X) : Option (SumR g86.x2) := g86.l2 k x.1.1.1 x.1.2.2.1.1 x.1.2.2.2.1.1
noncomputable def g86.L2 : LSpec := { id := 2, n := g86.n2, exits := g86.x2, sem := g86.m2 9223372036854775808 }
theorem g86.e2 : ∀ k x, g86.m2 (k + 1) x = roundS Try.prog kap g86.G [] (loopAt Try.f86 2) 19 0 g86.n2 g86.x2 (g86.m2 k) x := fun k x => by kernel_rfl
theorem g86.k2 : LOk Try.prog 0 19 g86.L2 (loopAt Try.f86 2) := LOk.of (κ := kap) (l := g86.L2) g86.G_ok follows (L := []) (lam_by (fn := Try.f86) (by kernel_rfl) lamAll_nil) g86.m2 (unAll_cons (fun _ => rfl) (unAll_cons (fun _ => rfl) unAll_nil)) (fun _ => rfl) g86.e2 9223372036854775808 rfl
noncomputable def g86.f (b0 : List (ByteArray × Int × Int)) : Option Int :=
  (g86.l2 9223372036854775808 b0 (nz b0.length) 0).bind fun (y3 : Int ⊕ Unit) =>
  (match y3 with
  | .inl y4 => some y4
  | .inr y5 => some (-1))
noncomputable def g86.sp : FSpec := { f := 86, ins := [(false, [.k (.list 71 (.pair .str (.pair (.int .i64) (.int .i64))))]), (false, [.clo 52 []])], inE := [], outs := [(false, [.k (.int .i64)])], outE := [], raw := Int, sem := fun x => g86.f x.1.1.1, ret := fun y => (((y, ()), ()), ()) }
theorem g86.ok : FOk Try.prog g86.sp := fn_ok (κ := kap) g86.G_ok follows (L := [g86.L2]) (fn := Try.f86) (c := bodyOf Try.f86) rfl (by decide) rfl (lam_by (fn := Try.f86) (by kernel_rfl) (lamAll_cons g86.k2 lamAll_nil)) (un := fun z => z.1.1.1) (fun _ => rfl) (by decide) (fun x => by kernel_rfl)
/-! ### slices.ContainsFunc[[]beadroll/api.Question,beadroll/api.Question] -/
noncomputable def g51.G : List FSpec := [g86.sp]
theorem g51.G_ok : ∀ sp ∈ g51.G, FOk Try.prog sp := allOk_cons g86.ok allOk_nil
noncomputable def g51.f (b0 : List (ByteArray × Int × Int)) : Option Bool :=
  (g86.f b0).bind fun (y1 : Int) =>
  some (decide ((0 : Int) ≤ y1))
noncomputable def g51.sp : FSpec := { f := 51, ins := [(false, [.k (.list 71 (.pair .str (.pair (.int .i64) (.int .i64))))]), (false, [.clo 52 []])], inE := [], outs := [(false, [.k .bool])], outE := [], raw := Bool, sem := fun x => g51.f x.1.1.1, ret := fun y => (((y, ()), ()), ()) }
theorem g51.ok : FOk Try.prog g51.sp := fn_ok (κ := kap) g51.G_ok follows (L := []) (fn := Try.f51) (c := bodyOf Try.f51) rfl (by decide) rfl (lam_by (fn := Try.f51) (by kernel_rfl) lamAll_nil) (un := fun z => z.1.1.1) (fun _ => rfl) (by decide) (fun x => by kernel_rfl)
/-! ### beadroll/message.Formed -/
noncomputable def g23.G : List FSpec := [g47.sp, g41.sp, g48.sp, g51.sp]
theorem g23.G_ok : ∀ sp ∈ g23.G, FOk Try.prog sp := allOk_cons g47.ok (allOk_cons g41.ok (allOk_cons g48.ok (allOk_cons g51.ok allOk_nil)))
noncomputable def g23.s4 (again : Int → Int × Bool × Int × Bool × Bool × Bool × Bool × Int × Int × List (ByteArray × Int × Int) × List (ByteArray × Int × Int × Int × ByteArray) × List (ByteArray × Int × Int × Int × ByteArray) × List (ByteArray × Int × Int × Int × ByteArray) → Option (Bool ⊕ (Int × Bool × Int × Bool × Bool × Bool × Bool × Int × Int × List (ByteArray × Int × Int) × List (ByteArray × Int × Int × Int × ByteArray) × List (ByteArray × Int × Int × Int × ByteArray) × List (ByteArray × Int × Int × Int × ByteArray)))) (a0 : Int) (a1 : Int × Bool × Int × Bool × Bool × Bool × Bool × Int × Int × List (ByteArray × Int × Int) × List (ByteArray × Int × Int × Int × ByteArray) × List (ByteArray × Int × Int × Int × ByteArray) × List (ByteArray × Int × Int × Int × ByteArray)) : Option (Bool ⊕ (Int × Bool × Int × Bool × Bool × Bool × Bool × Int × Int × List (ByteArray × Int × Int) × List (ByteArray × Int × Int × Int × ByteArray) × List (ByteArray × Int × Int × Int × ByteArray) × List (ByteArray × Int × Int × Int × ByteArray))) :=
  if a0 < 3 then (if a0 = 0 then (if (65535 : Int) < (nz a1.2.2.2.2.2.2.2.2.2.2.1.length) then some (.inl false)
    else (g48.f a1.2.2.2.2.2.2.2.2.2.2.1).bind fun (y6 : Bool) =>
    if y6 = true then some (.inl false)
    else again (wrap64 (a0 + 1)) a1)
   else if a0 = 1 then (if (65535 : Int) < (nz a1.2.2.2.2.2.2.2.2.2.2.2.1.length) then some (.inl false)
    else (g48.f a1.2.2.2.2.2.2.2.2.2.2.2.1).bind fun (y7 : Bool) =>
    if y7 = true then some (.inl false)
    else again (wrap64 (a0 + 1)) a1)
   else if a0 = 2 then if (65535 : Int) < (nz a1.2.2.2.2.2.2.2.2.2.2.2.2.length) then some (.inl false)
   else (g48.f a1.2.2.2.2.2.2.2.2.2.2.2.2).bind fun (y8 : Bool) =>
   if y8 = true then some (.inl false)
   else again (wrap64 (a0 + 1)) a1
   else none)
  else some (.inr a1)
noncomputable def g23.l4 : Nat → Int → Int × Bool × Int × Bool × Bool × Bool × Bool × Int × Int × List (ByteArray × Int × Int) × List (ByteArray × Int × Int × Int × ByteArray) × List (ByteArray × Int × Int × Int × ByteArray) × List (ByteArray × Int × Int × Int × ByteArray) → Option (Bool ⊕ (Int × Bool × Int × Bool × Bool × Bool × Bool × Int × Int × List (ByteArray × Int × Int) × List (ByteArray × Int × Int × Int × ByteArray) × List (ByteArray × Int × Int × Int × ByteArray) × List (ByteArray × Int × Int × Int × ByteArray)))
  | 0, _, _ => none
  | k + 1, a0, a1 => g23.s4 (g23.l4 k) a0 a1
def g23.n4 : Norm := ⟨[1, 33, 34], [(false, [.ptr 0 0]), (true, [.ptr 0 10, .ptr 0 11, .ptr 0 12]), (false, [.k (.int .i64)])], [some (.cells [.k (.pair (.int .i64) (.pair .bool (.pair (.int .i64) (.pair .bool (.pair .bool (.pair .bool (.pair .bool (.pair (.int .i64) (.pair (.int .i64) (.pair (.list 71 (.pair .str (.pair (.int .i64) (.int .i64)))) (.pair (.list 63 (.pair .str (.pair (.int .i64) (.pair (.int .i64) (.pair (.int .i64) .str))))) (.pair (.list 63 (.pair .str (.pair (.int .i64) (.pair (.int .i64) (.pair (.int .i64) .str))))) (.list 63 (.pair .str (.pair (.int .i64) (.pair (.int .i64) (.pair (.int .i64) .str)))))))))))))))))] 45)]⟩
def g23.x4 : List ExitS := [{ e := .ret, n := ⟨[2], [(false, [.k .bool])], []⟩, raw := Bool, ret := fun y => (((y, ()), ()), ()), un := fun z => z.1.1.1 },
  { e := .exit 0, n := ⟨[1], [(false, [.ptr 0 0])], [some (.cells [.k (.pair (.int .i64) (.pair .bool (.pair (.int .i64) (.pair .bool (.pair .bool (.pair .bool (.pair .bool (.pair (.int .i64) (.pair (.int .i64) (.pair (.list 71 (.pair .str (.pair (.int .i64) (.int .i64)))) (.pair (.list 63 (.pair .str (.pair (.int .i64) (.pair (.int .i64) (.pair (.int .i64) .str))))) (.pair (.list 63 (.pair .str (.pair (.int .i64) (.pair (.int .i64) (.pair (.int .i64) .str))))) (.list 63 (.pair .str (.pair (.int .i64) (.pair (.int .i64) (.pair (.int .i64) .str)))))))))))))))))] 45)]⟩, raw := (Int × Bool × Int × Bool × Bool × Bool × Bool × Int × Int × List (ByteArray × Int × Int) × List (ByteArray × Int × Int × Int × ByteArray) × List (ByteArray × Int × Int × Int × ByteArray) × List (ByteArray × Int × Int × Int × ByteArray)), ret := fun y => ((((), ()), ()), ((y, ()), ())), un := fun z => z.2.1.1 }]
noncomputable def g23.m4 (k : Nat) (x : g23.n4.X) : Option (SumR g23.x4) := g23.l4 k x.1.2.2.1.1 x.2.1.1
noncomputable def g23.L4 : LSpec := { id := 4, n := g23.n4, exits := g23.x4, sem := g23.m4 9223372036854775808 }
theorem g23.e4 : ∀ k x, g23.m4 (k + 1) x = roundS Try.prog kap g23.G [] (loopAt Try.f23 4) 53 0 g23.n4 g23.x4 (g23.m4 k) x := fun k x => by kernel_rfl
theorem g23.k4 : LOk Try.prog 0 53 g23.L4 (loopAt Try.f23 4) := LOk.of (κ := kap) (l := g23.L4) g23.G_ok follows (L := []) (lam_by (fn := Try.f23) (by kernel_rfl) lamAll_nil) g23.m4 (unAll_cons (fun _ => rfl) (unAll_cons (fun _ => rfl) unAll_nil)) (fun _ => rfl) g23.e4 9223372036854775808 rfl
noncomputable def g23.f (b0 : Int × Bool × Int × Bool × Bool × Bool × Bool × Int × Int × List (ByteArray × Int × Int) × List (ByteArray × Int × Int × Int × ByteArray) × List (ByteArray × Int × Int × Int × ByteArray) × List (ByteArray × Int × Int × Int × ByteArray)) : Option Bool :=
  (g47.f b0.1 65535).bind fun (y1 : Bool) =>
  if (!y1) = true then some false
  else (g47.f b0.2.2.1 15).bind fun (y2 : Bool) =>
  if (!y2) = true then some false
  else (g47.f b0.2.2.2.2.2.2.2.1 7).bind fun (y3 : Bool) =>
  if (!y3) = true then some false
  else (g47.f b0.2.2.2.2.2.2.2.2.1 15).bind fun (y4 : Bool) =>
  if (!y4) = true then some false
  else if (65535 : Int) < (nz b0.2.2.2.2.2.2.2.2.2.1.length) then some false
  else (g41.f b0).bind fun (y5 : (Int × Bool × Int × Bool × Bool × Bool × Bool × Int × Int × List (ByteArray × Int × Int) × List (ByteArray × Int × Int × Int × ByteArray) × List (ByteArray × Int × Int × Int × ByteArray) × List (ByteArray × Int × Int × Int × ByteArray))) =>
  (g23.l4 9223372036854775808 0 y5).bind fun (y9 : Bool ⊕ (Int × Bool × Int × Bool × Bool × Bool × Bool × Int × Int × List (ByteArray × Int × Int) × List (ByteArray × Int × Int × Int × ByteArray) × List (ByteArray × Int × Int × Int × ByteArray) × List (ByteArray × Int × Int × Int × ByteArray))) =>
  (match y9 with
  | .inl y10 => some y10
  | .inr y11 => (g51.f y11.2.2.2.2.2.2.2.2.2.1).bind fun (y12 : Bool) =>
   some (!y12))
noncomputable def g23.sp : FSpec := { f := 23, ins := [(true, [.k (.pair (.int .i64) (.pair .bool (.pair (.int .i64) (.pair .bool (.pair .bool (.pair .bool (.pair .bool (.pair (.int .i64) (.pair (.int .i64) (.pair (.list 71 (.pair .str (.pair (.int .i64) (.int .i64)))) (.pair (.list 63 (.pair .str (.pair (.int .i64) (.pair (.int .i64) (.pair (.int .i64) .str))))) (.pair (.list 63 (.pair .str (.pair (.int .i64) (.pair (.int .i64) (.pair (.int .i64) .str))))) (.list 63 (.pair .str (.pair (.int .i64) (.pair (.int .i64) (.pair (.int .i64) .str)))))))))))))))))])], inE := [], outs := [(false, [.k .bool])], outE := [], raw := Bool, sem := fun x => g23.f x.1.1.1, ret := fun y => (((y, ()), ()), ()) }
theorem g23.ok : FOk Try.prog g23.sp := fn_ok (κ := kap) g23.G_ok follows (L := [g23.L4]) (fn := Try.f23) (c := bodyOf Try.f23) rfl (by decide) rfl (lam_by (fn := Try.f23) (by kernel_rfl) (lamAll_cons g23.k4 lamAll_nil)) (un := fun z => z.1.1.1) (fun _ => rfl) (by decide) (fun x => by kernel_rfl)
/-! ### beadroll/message.bit -/
noncomputable def g78.G : List FSpec := []
theorem g78.G_ok : ∀ sp ∈ g78.G, FOk Try.prog sp := allOk_nil
noncomputable def g78.f (b0 : Bool) (b1 : Int) : Option Int :=
  if b0 = true then (if b1 < 0 then none
   else some (IntKind.wrap .u64 ((1 : Int) * 2 ^ min b1.toNat 64)))
  else some 0
noncomputable def g78.sp : FSpec := { f := 78, ins := [(false, [.k .bool]), (false, [.k (.int .i64)])], inE := [], outs := [(false, [.k (.int .u64)])], outE := [], raw := Int, sem := fun x => g78.f x.1.1.1 x.1.2.1.1, ret := fun y => (((y, ()), ()), ()) }
theorem g78.ok : FOk Try.prog g78.sp := fn_ok (κ := kap) g78.G_ok follows (L := []) (fn := Try.f78) (c := bodyOf Try.f78) rfl (by decide) rfl (lam_by (fn := Try.f78) (by kernel_rfl) lamAll_nil) (un := fun z => z.1.1.1) (fun _ => rfl) (by decide) (fun x => by kernel_rfl)
/-! ### (*beadroll/message.Msg).flags -/
noncomputable def g38.G : List FSpec := [g78.sp]
theorem g38.G_ok : ∀ sp ∈ g38.G, FOk Try.prog sp := allOk_cons g78.ok allOk_nil
noncomputable def g38.f (b0 : Int × Bool × Int × Bool × Bool × Bool × Bool × Int × Int × List (ByteArray × Int × Int) × List (ByteArray × Int × Int × Int × ByteArray) × List (ByteArray × Int × Int × Int × ByteArray) × List (ByteArray × Int × Int × Int × ByteArray)) : Option Int :=
  (g78.f b0.2.1 15).bind fun (y1 : Int) =>
  (g78.f b0.2.2.2.1 10).bind fun (y2 : Int) =>
  (g78.f b0.2.2.2.2.1 9).bind fun (y3 : Int) =>
  (g78.f b0.2.2.2.2.2.1 8).bind fun (y4 : Int) =>
  (g78.f b0.2.2.2.2.2.2.1 7).bind fun (y5 : Int) =>
  some (IntKind.wrap .u64 ((BitVec.ofInt 64 (IntKind.wrap .u64 ((BitVec.ofInt 64 (IntKind.wrap .u64 ((BitVec.ofInt 64 (IntKind.wrap .u64 ((BitVec.ofInt 64 (IntKind.wrap .u64 ((BitVec.ofInt 64 (IntKind.wrap .u64 ((BitVec.ofInt 64 (IntKind.wrap .u64 ((BitVec.ofInt 64 y1 ||| (BitVec.ofInt 64 (IntKind.wrap .u64 ((IntKind.wrap .u64 b0.2.2.1) * 2 ^ 11)))).toNat : Int)) ||| (BitVec.ofInt 64 y2)).toNat : Int)) ||| (BitVec.ofInt 64 y3)).toNat : Int)) ||| (BitVec.ofInt 64 y4)).toNat : Int)) ||| (BitVec.ofInt 64 y5)).toNat : Int)) ||| (BitVec.ofInt 64 (IntKind.wrap .u64 ((IntKind.wrap .u64 b0.2.2.2.2.2.2.2.1) * 2 ^ 4)))).toNat : Int)) ||| (BitVec.ofInt 64 (IntKind.wrap .u64 ((IntKind.wrap .u64 b0.2.2.2.2.2.2.2.2.1) * 2 ^ 0)))).toNat : Int))
noncomputable def g38.sp : FSpec := { f := 38, ins := [(false, [.pe (.pair (.int .i64) (.pair .bool (.pair (.int .i64) (.pair .bool (.pair .bool (.pair .bool (.pair .bool (.pair (.int .i64) (.pair (.int .i64) (.pair (.list 71 (.pair .str (.pair (.int .i64) (.int .i64)))) (.pair (.list 63 (.pair .str (.pair (.int .i64) (.pair (.int .i64) (.pair (.int .i64) .str))))) (.pair (.list 63 (.pair .str (.pair (.int .i64) (.pair (.int .i64) (.pair (.int .i64) .str))))) (.list 63 (.pair .str (.pair (.int .i64) (.pair (.int .i64) (.pair (.int .i64) .str)))))))))))))))))])], inE := [], outs := [(false, [.k (.int .u64)])], outE := [], raw := Int, sem := fun x => g38.f x.1.1.1, ret := fun y => (((y, ()), ()), ()) }
theorem g38.ok : FOk Try.prog g38.sp := fn_ok (κ := kap) g38.G_ok follows (L := []) (fn := Try.f38) (c := bodyOf Try.f38) rfl (by decide) rfl (lam_by (fn := Try.f38) (by kernel_rfl) lamAll_nil) (un := fun z => z.1.1.1) (fun _ => rfl) (by decide) (fun x => by kernel_rfl)
/-! ### beadroll/message.Encode -/
noncomputable def g20.G : List FSpec := [g23.sp, g37.sp, g38.sp, g33.sp, g39.sp, g40.sp, g41.sp, g42.sp, g43.sp, g44.sp]
theorem g20.G_ok : ∀ sp ∈ g20.G, FOk Try.prog sp := allOk_cons g23.ok (allOk_cons g37.ok (allOk_cons g38.ok (allOk_cons g33.ok (allOk_cons g39.ok (allOk_cons g40.ok (allOk_cons g41.ok (allOk_cons g42.ok (allOk_cons g43.ok (allOk_cons g44.ok allOk_nil)))))))))
noncomputable def g20.s7 (again : List (ByteArray × Int × Int) → Int → Int → Int × Bool × Int × Bool × Bool × Bool × Bool × Int × Int × List (ByteArray × Int × Int) × List (ByteArray × Int × Int × Int × ByteArray) × List (ByteArray × Int × Int × Int × ByteArray) × List (ByteArray × Int × Int × Int × ByteArray) → List Int → List (ByteArray × Int) → Option ((Int × Bool × Int × Bool × Bool × Bool × Bool × Int × Int × List (ByteArray × Int × Int) × List (ByteArray × Int × Int × Int × ByteArray) × List (ByteArray × Int × Int × Int × ByteArray) × List (ByteArray × Int × Int × Int × ByteArray)) × List Int × (List (ByteArray × Int)))) (a0 : List (ByteArray × Int × Int)) (a1 : Int) (a2 : Int) (a3 : Int × Bool × Int × Bool × Bool × Bool × Bool × Int × Int × List (ByteArray × Int × Int) × List (ByteArray × Int × Int × Int × ByteArray) × List (ByteArray × Int × Int × Int × ByteArray) × List (ByteArray × Int × Int × Int × ByteArray)) (a4 : List Int) (a5 : List (ByteArray × Int)) : Option ((Int × Bool × Int × Bool × Bool × Bool × Bool × Int × Int × List (ByteArray × Int × Int) × List (ByteArray × Int × Int × Int × ByteArray) × List (ByteArray × Int × Int × Int × ByteArray) × List (ByteArray × Int × Int × Int × ByteArray)) × List Int × (List (ByteArray × Int))) :=
  if a2 < a1 then (if 0 ≤ a2 then if a2 < nz a0.length then (match a0[a2.toNat]? with
   | some x6 => (g40.f x6.1 true a4 a5).bind fun (y7 : Int × (List (ByteArray × Int)) × List Int) =>
    (g33.f ([IntKind.wrap .u64 x6.2.1, IntKind.wrap .u64 x6.2.2] : List Int) ([2, 2] : List Int)).bind fun (y8 : ByteArray × Int) =>
    (g39.f y8.1 y7.2.2 y7.2.1).bind fun (y9 : (List (ByteArray × Int)) × List Int) =>
    again a0 a1 (wrap64 (a2 + 1)) a3 y9.2 y9.1
   | none => none)
   else none
   else none)
  else some (a3, a4, a5)
noncomputable def g20.l7 : Nat → List (ByteArray × Int × Int) → Int → Int → Int × Bool × Int × Bool × Bool × Bool × Bool × Int × Int × List (ByteArray × Int × Int) × List (ByteArray × Int × Int × Int × ByteArray) × List (ByteArray × Int × Int × Int × ByteArray) × List (ByteArray × Int × Int × Int × ByteArray) → List Int → List (ByteArray × Int) → Option ((Int × Bool × Int × Bool × Bool × Bool × Bool × Int × Int × List (ByteArray × Int × Int) × List (ByteArray × Int × Int × Int × ByteArray) × List (ByteArray × Int × Int × Int × ByteArray) × List (ByteArray × Int × Int × Int × ByteArray)) × List Int × (List (ByteArray × Int)))
  | 0, _, _, _, _, _, _ => none
  | k + 1, a0, a1, a2, a3, a4, a5 => g20.s7 (g20.l7 k) a0 a1 a2 a3 a4 a5
def g20.n7 : Norm := ⟨[1, 4, 49, 50, 51], [(false, [.ptr 0 0]), (false, [.ptr 1 0]), (false, [.k (.list 71 (.pair .str (.pair (.int .i64) (.int .i64))))]), (false, [.k (.int .i64)]), (false, [.k (.int .i64)])], [some (.cells [.k (.pair (.int .i64) (.pair .bool (.pair (.int .i64) (.pair .bool (.pair .bool (.pair .bool (.pair .bool (.pair (.int .i64) (.pair (.int .i64) (.pair (.list 71 (.pair .str (.pair (.int .i64) (.int .i64)))) (.pair (.list 63 (.pair .str (.pair (.int .i64) (.pair (.int .i64) (.pair (.int .i64) .str))))) (.pair (.list 63 (.pair .str (.pair (.int .i64) (.pair (.int .i64) (.pair (.int .i64) .str))))) (.list 63 (.pair .str (.pair (.int .i64) (.pair (.int .i64) (.pair (.int .i64) .str)))))))))))))))))] 45), some (.cells [.sl 2, .mp 3] 126), some (.lst 5 (.int .u8)), some (.map 124 .str (.int .i64))]⟩
def g20.x7 : List ExitS := [{ e := .exit 0, n := ⟨[1, 4], [(false, [.ptr 0 0]), (false, [.ptr 1 0])], [some (.cells [.k (.pair (.int .i64) (.pair .bool (.pair (.int .i64) (.pair .bool (.pair .bool (.pair .bool (.pair .bool (.pair (.int .i64) (.pair (.int .i64) (.pair (.list 71 (.pair .str (.pair (.int .i64) (.int .i64)))) (.pair (.list 63 (.pair .str (.pair (.int .i64) (.pair (.int .i64) (.pair (.int .i64) .str))))) (.pair (.list 63 (.pair .str (.pair (.int .i64) (.pair (.int .i64) (.pair (.int .i64) .str))))) (.list 63 (.pair .str (.pair (.int .i64) (.pair (.int .i64) (.pair (.int .i64) .str)))))))))))))))))] 45), some (.cells [.sl 2, .mp 3] 126), some (.lst 5 (.int .u8)), some (.map 124 .str (.int .i64))]⟩, raw := (Int × Bool × Int × Bool × Bool × Bool × Bool × Int × Int × List (ByteArray × Int × Int) × List (ByteArray × Int × Int × Int × ByteArray) × List (ByteArray × Int × Int × Int × ByteArray) × List (ByteArray × Int × Int × Int × ByteArray)) × List Int × (List (ByteArray × Int)), ret := fun y => ((((), ()), ((), ()), ()), ((y.1, ()), ((), (), ()), y.2.1, y.2.2, ())), un := fun z => (z.2.1.1, z.2.2.2.1, z.2.2.2.2.1) }]
noncomputable def g20.m7 (k : Nat) (x : g20.n7.X) : Option (SumR g20.x7) := g20.l7 k x.1.2.2.1.1 x.1.2.2.2.1.1 x.1.2.2.2.2.1.1 x.2.1.1 x.2.2.2.1 x.2.2.2.2.1
noncomputable def g20.L7 : LSpec := { id := 7, n := g20.n7, exits := g20.x7, sem := g20.m7 9223372036854775808 }
theorem g20.e7 : ∀ k x, g20.m7 (k + 1) x = roundS Try.prog kap g20.G [] (loopAt Try.f20 7) 100 0 g20.n7 g20.x7 (g20.m7 k) x := fun k x => by kernel_rfl
theorem g20.k7 : LOk Try.prog 0 100 g20.L7 (loopAt Try.f20 7) := LOk.of (κ := kap) (l := g20.L7) g20.G_ok follows (L := []) (lam_by (fn := Try.f20) (by kernel_rfl) lamAll_nil) g20.m7 (unAll_cons (fun _ => rfl) unAll_nil) (fun _ => rfl) g20.e7 9223372036854775808 rfl
noncomputable def g20.s17 (again : Int → List (ByteArray × Int × Int × Int × ByteArray) → Int → Int → Int × Bool × Int × Bool × Bool × Bool × Bool × Int × Int × List (ByteArray × Int × Int) × List (ByteArray × Int × Int × Int × ByteArray) × List (ByteArray × Int × Int × Int × ByteArray) × List (ByteArray × Int × Int × Int × ByteArray) → List Int → List (ByteArray × Int) → Option ((ByteArray × Int) ⊕ (Int × (Int × Bool × Int × Bool × Bool × Bool × Bool × Int × Int × List (ByteArray × Int × Int) × List (ByteArray × Int × Int × Int × ByteArray) × List (ByteArray × Int × Int × Int × ByteArray) × List (ByteArray × Int × Int × Int × ByteArray)) × List Int × (List (ByteArray × Int))))) (a0 : Int) (a1 : List (ByteArray × Int × Int × Int × ByteArray)) (a2 : Int) (a3 : Int) (a4 : Int × Bool × Int × Bool × Bool × Bool × Bool × Int × Int × List (ByteArray × Int × Int) × List (ByteArray × Int × Int × Int × ByteArray) × List (ByteArray × Int × Int × Int × ByteArray) × List (ByteArray × Int × Int × Int × ByteArray)) (a5 : List Int) (a6 : List (ByteArray × Int)) : Option ((ByteArray × Int) ⊕ (Int × (Int × Bool × Int × Bool × Bool × Bool × Bool × Int × Int × List (ByteArray × Int × Int) × List (ByteArray × Int × Int × Int × ByteArray) × List (ByteArray × Int × Int × Int × ByteArray) × List (ByteArray × Int × Int × Int × ByteArray)) × List Int × (List (ByteArray × Int)))) :=
  if a3 < a2 then (if 0 ≤ a3 then if a3 < nz a1.length then (match a1[a3.toNat]? with
   | some x12 => (g42.f a5 a6).bind fun (y13 : Int × (List (ByteArray × Int)) × List Int) =>
    if (65535 : Int) < y13.1 then some (.inl ((⟨#[]⟩ : ByteArray), 3))
    else (g43.f x12 y13.2.2 y13.2.1).bind fun (y14 : Int × (List (ByteArray × Int)) × List Int) =>
    again a0 a1 a2 (wrap64 (a3 + 1)) a4 y14.2.2 y14.2.1
   | none => none)
   else none
   else none)
  else some (.inr (a0, a4, a5, a6))
noncomputable def g20.l17 : Nat → Int → List (ByteArray × Int × Int × Int × ByteArray) → Int → Int → Int × Bool × Int × Bool × Bool × Bool × Bool × Int × Int × List (ByteArray × Int × Int) × List (ByteArray × Int × Int × Int × ByteArray) × List (ByteArray × Int × Int × Int × ByteArray) × List (ByteArray × Int × Int × Int × ByteArray) → List Int → List (ByteArray × Int) → Option ((ByteArray × Int) ⊕ (Int × (Int × Bool × Int × Bool × Bool × Bool × Bool × Int × Int × List (ByteArray × Int × Int) × List (ByteArray × Int × Int × Int × ByteArray) × List (ByteArray × Int × Int × Int × ByteArray) × List (ByteArray × Int × Int × Int × ByteArray)) × List Int × (List (ByteArray × Int))))
  | 0, _, _, _, _, _, _, _ => none
  | k + 1, a0, a1, a2, a3, a4, a5, a6 => g20.s17 (g20.l17 k) a0 a1 a2 a3 a4 a5 a6
def g20.n17 : Norm := ⟨[4, 75, 76, 81, 82, 83], [(false, [.ptr 0 0]), (true, [.ptr 1 10, .ptr 1 11, .ptr 1 12]), (false, [.k (.int .i64)]), (false, [.k (.list 63 (.pair .str (.pair (.int .i64) (.pair (.int .i64) (.pair (.int .i64) .str)))))]), (false, [.k (.int .i64)]), (false, [.k (.int .i64)])], [some (.cells [.sl 2, .mp 3] 126), some (.cells [.k (.pair (.int .i64) (.pair .bool (.pair (.int .i64) (.pair .bool (.pair .bool (.pair .bool (.pair .bool (.pair (.int .i64) (.pair (.int .i64) (.pair (.list 71 (.pair .str (.pair (.int .i64) (.int .i64)))) (.pair (.list 63 (.pair .str (.pair (.int .i64) (.pair (.int .i64) (.pair (.int .i64) .str))))) (.pair (.list 63 (.pair .str (.pair (.int .i64) (.pair (.int .i64) (.pair (.int .i64) .str))))) (.list 63 (.pair .str (.pair (.int .i64) (.pair (.int .i64) (.pair (.int .i64) .str)))))))))))))))))] 45), some (.lst 5 (.int .u8)), some (.map 124 .str (.int .i64))]⟩
def g20.x17 : List ExitS := [{ e := .ret, n := ⟨[2, 3], [(false, [.k .str]), (false, [.k (.int .i64)])], []⟩, raw := ByteArray × Int, ret := fun y => (((y.1, ()), (y.2, ()), ()), ()), un := fun z => (z.1.1.1, z.1.2.1.1) },
  { e := .exit 4, n := ⟨[4, 75, 76], [(false, [.ptr 0 0]), (true, [.ptr 1 10, .ptr 1 11, .ptr 1 12]), (false, [.k (.int .i64)])], [some (.cells [.sl 2, .mp 3] 126), some (.cells [.k (.pair (.int .i64) (.pair .bool (.pair (.int .i64) (.pair .bool (.pair .bool (.pair .bool (.pair .bool (.pair (.int .i64) (.pair (.int .i64) (.pair (.list 71 (.pair .str (.pair (.int .i64) (.int .i64)))) (.pair (.list 63 (.pair .str (.pair (.int .i64) (.pair (.int .i64) (.pair (.int .i64) .str))))) (.pair (.list 63 (.pair .str (.pair (.int .i64) (.pair (.int .i64) (.pair (.int .i64) .str))))) (.list 63 (.pair .str (.pair (.int .i64) (.pair (.int .i64) (.pair (.int .i64) .str)))))))))))))))))] 45), some (.lst 5 (.int .u8)), some (.map 124 .str (.int .i64))]⟩, raw := Int × (Int × Bool × Int × Bool × Bool × Bool × Bool × Int × Int × List (ByteArray × Int × Int) × List (ByteArray × Int × Int × Int × ByteArray) × List (ByteArray × Int × Int × Int × ByteArray) × List (ByteArray × Int × Int × Int × ByteArray)) × List Int × (List (ByteArray × Int)), ret := fun y => ((((), ()), ((), (), (), ()), (y.1, ()), ()), (((), (), ()), (y.2.1, ()), y.2.2.1, y.2.2.2, ())), un := fun z => (z.1.2.2.1.1, z.2.2.1.1, z.2.2.2.1, z.2.2.2.2.1) }]
noncomputable def g20.m17 (k : Nat) (x : g20.n17.X) : Option (SumR g20.x17) := g20.l17 k x.1.2.2.1.1 x.1.2.2.2.1.1 x.1.2.2.2.2.1.1 x.1.2.2.2.2.2.1.1 x.2.2.1.1 x.2.2.2.1 x.2.2.2.2.1
noncomputable def g20.L17 : LSpec := { id := 17, n := g20.n17, exits := g20.x17, sem := g20.m17 9223372036854775808 }
theorem g20.e17 : ∀ k x, g20.m17 (k + 1) x = roundS Try.prog kap g20.G [] (loopAt Try.f20 17) 100 0 g20.n17 g20.x17 (g20.m17 k) x := fun k x => by kernel_rfl
theorem g20.k17 : LOk Try.prog 0 100 g20.L17 (loopAt Try.f20 17) := LOk.of (κ := kap) (l := g20.L17) g20.G_ok follows (L := []) (lam_by (fn := Try.f20) (by kernel_rfl) lamAll_nil) g20.m17 (unAll_cons (fun _ => rfl) (unAll_cons (fun _ => rfl) unAll_nil)) (fun _ => rfl) g20.e17 9223372036854775808 rfl
noncomputable def g20.s14 (again : Int → Int × Bool × Int × Bool × Bool × Bool × Bool × Int × Int × List (ByteArray × Int × Int) × List (ByteArray × Int × Int × Int × ByteArray) × List (ByteArray × Int × Int × Int × ByteArray) × List (ByteArray × Int × Int × Int × ByteArray) → List Int → List (ByteArray × Int) → Option ((ByteArray × Int) ⊕ (List Int × (List (ByteArray × Int))))) (a0 : Int) (a1 : Int × Bool × Int × Bool × Bool × Bool × Bool × Int × Int × List (ByteArray × Int × Int) × List (ByteArray × Int × Int × Int × ByteArray) × List (ByteArray × Int × Int × Int × ByteArray) × List (ByteArray × Int × Int × Int × ByteArray)) (a2 : List Int) (a3 : List (ByteArray × Int)) : Option ((ByteArray × Int) ⊕ (List Int × (List (ByteArray × Int)))) :=
  if a0 < 3 then (if a0 = 0 then ((g20.l17 9223372036854775808 a0 a1.2.2.2.2.2.2.2.2.2.2.1 (nz a1.2.2.2.2.2.2.2.2.2.2.1.length) 0 a1 a2 a3).bind fun (y15 : (ByteArray × Int) ⊕ (Int × (Int × Bool × Int × Bool × Bool × Bool × Bool × Int × Int × List (ByteArray × Int × Int) × List (ByteArray × Int × Int × Int × ByteArray) × List (ByteArray × Int × Int × Int × ByteArray) × List (ByteArray × Int × Int × Int × ByteArray)) × List Int × (List (ByteArray × Int)))) =>
    (match y15 with
    | .inl y16 => some (.inl y16)
    | .inr y17 => again (wrap64 (y17.1 + 1)) y17.2.1 y17.2.2.1 y17.2.2.2))
   else if a0 = 1 then ((g20.l17 9223372036854775808 a0 a1.2.2.2.2.2.2.2.2.2.2.2.1 (nz a1.2.2.2.2.2.2.2.2.2.2.2.1.length) 0 a1 a2 a3).bind fun (y18 : (ByteArray × Int) ⊕ (Int × (Int × Bool × Int × Bool × Bool × Bool × Bool × Int × Int × List (ByteArray × Int × Int) × List (ByteArray × Int × Int × Int × ByteArray) × List (ByteArray × Int × Int × Int × ByteArray) × List (ByteArray × Int × Int × Int × ByteArray)) × List Int × (List (ByteArray × Int)))) =>
    (match y18 with
    | .inl y19 => some (.inl y19)
    | .inr y20 => again (wrap64 (y20.1 + 1)) y20.2.1 y20.2.2.1 y20.2.2.2))
   else if a0 = 2 then (g20.l17 9223372036854775808 a0 a1.2.2.2.2.2.2.2.2.2.2.2.2 (nz a1.2.2.2.2.2.2.2.2.2.2.2.2.length) 0 a1 a2 a3).bind fun (y21 : (ByteArray × Int) ⊕ (Int × (Int × Bool × Int × Bool × Bool × Bool × Bool × Int × Int × List (ByteArray × Int × Int) × List (ByteArray × Int × Int × Int × ByteArray) × List (ByteArray × Int × Int × Int × ByteArray) × List (ByteArray × Int × Int × Int × ByteArray)) × List Int × (List (ByteArray × Int)))) =>
   (match y21 with
   | .inl y22 => some (.inl y22)
   | .inr y23 => again (wrap64 (y23.1 + 1)) y23.2.1 y23.2.2.1 y23.2.2.2)
   else none)
  else some (.inr (a2, a3))
noncomputable def g20.l14 : Nat → Int → Int × Bool × Int × Bool × Bool × Bool × Bool × Int × Int × List (ByteArray × Int × Int) × List (ByteArray × Int × Int × Int × ByteArray) × List (ByteArray × Int × Int × Int × ByteArray) × List (ByteArray × Int × Int × Int × ByteArray) → List Int → List (ByteArray × Int) → Option ((ByteArray × Int) ⊕ (List Int × (List (ByteArray × Int))))
  | 0, _, _, _, _ => none
  | k + 1, a0, a1, a2, a3 => g20.s14 (g20.l14 k) a0 a1 a2 a3
def g20.n14 : Norm := ⟨[4, 75, 76], [(false, [.ptr 0 0]), (true, [.ptr 1 10, .ptr 1 11, .ptr 1 12]), (false, [.k (.int .i64)])], [some (.cells [.sl 2, .mp 3] 126), some (.cells [.k (.pair (.int .i64) (.pair .bool (.pair (.int .i64) (.pair .bool (.pair .bool (.pair .bool (.pair .bool (.pair (.int .i64) (.pair (.int .i64) (.pair (.list 71 (.pair .str (.pair (.int .i64) (.int .i64)))) (.pair (.list 63 (.pair .str (.pair (.int .i64) (.pair (.int .i64) (.pair (.int .i64) .str))))) (.pair (.list 63 (.pair .str (.pair (.int .i64) (.pair (.int .i64) (.pair (.int .i64) .str))))) (.list 63 (.pair .str (.pair (.int .i64) (.pair (.int .i64) (.pair (.int .i64) .str)))))))))))))))))] 45), some (.lst 5 (.int .u8)), some (.map 124 .str (.int .i64))]⟩
def g20.x14 : List ExitS := [{ e := .ret, n := ⟨[2, 3], [(false, [.k .str]), (false, [.k (.int .i64)])], []⟩, raw := ByteArray × Int, ret := fun y => (((y.1, ()), (y.2, ()), ()), ()), un := fun z => (z.1.1.1, z.1.2.1.1) },
  { e := .exit 2, n := ⟨[4], [(false, [.ptr 0 0])], [some (.cells [.sl 1, .mp 2] 126), some (.lst 5 (.int .u8)), some (.map 124 .str (.int .i64))]⟩, raw := List Int × (List (ByteArray × Int)), ret := fun y => ((((), ()), ()), (((), (), ()), y.1, y.2, ())), un := fun z => (z.2.2.1, z.2.2.2.1) }]
noncomputable def g20.m14 (k : Nat) (x : g20.n14.X) : Option (SumR g20.x14) := g20.l14 k x.1.2.2.1.1 x.2.2.1.1 x.2.2.2.1 x.2.2.2.2.1
noncomputable def g20.L14 : LSpec := { id := 14, n := g20.n14, exits := g20.x14, sem := g20.m14 9223372036854775808 }
theorem g20.e14 : ∀ k x, g20.m14 (k + 1) x = roundS Try.prog kap g20.G [g20.L17] (loopAt Try.f20 14) 100 0 g20.n14 g20.x14 (g20.m14 k) x := fun k x => by kernel_rfl
theorem g20.k14 : LOk Try.prog 0 100 g20.L14 (loopAt Try.f20 14) := LOk.of (κ := kap) (l := g20.L14) g20.G_ok follows (L := [g20.L17]) (lam_by (fn := Try.f20) (by kernel_rfl) (lamAll_cons g20.k17 lamAll_nil)) g20.m14 (unAll_cons (fun _ => rfl) (unAll_cons (fun _ => rfl) unAll_nil)) (fun _ => rfl) g20.e14 9223372036854775808 rfl
noncomputable def g20.f (b0 : Int × Bool × Int × Bool × Bool × Bool × Bool × Int × Int × List (ByteArray × Int × Int) × List (ByteArray × Int × Int × Int × ByteArray) × List (ByteArray × Int × Int × Int × ByteArray) × List (ByteArray × Int × Int × Int × ByteArray)) : Option (ByteArray × Int) :=
  (g23.f b0).bind fun (y1 : Bool) =>
  if (!y1) = true then some ((⟨#[]⟩ : ByteArray), 1)
  else (g37.f).bind fun (y2 : List Int × (List (ByteArray × Int))) =>
  (g38.f b0).bind fun (y3 : Int) =>
  (g33.f ([IntKind.wrap .u64 b0.1, y3, IntKind.wrap .u64 (nz b0.2.2.2.2.2.2.2.2.2.1.length), IntKind.wrap .u64 (nz b0.2.2.2.2.2.2.2.2.2.2.1.length), IntKind.wrap .u64 (nz b0.2.2.2.2.2.2.2.2.2.2.2.1.length), IntKind.wrap .u64 (nz b0.2.2.2.2.2.2.2.2.2.2.2.2.length)] : List Int) ([2, 2, 2, 2, 2, 2] : List Int)).bind fun (y4 : ByteArray × Int) =>
  (g39.f y4.1 y2.1 y2.2).bind fun (y5 : (List (ByteArray × Int)) × List Int) =>
  (g20.l7 9223372036854775808 b0.2.2.2.2.2.2.2.2.2.1 (nz b0.2.2.2.2.2.2.2.2.2.1.length) 0 b0 y5.2 y5.1).bind fun (y10 : ((Int × Bool × Int × Bool × Bool × Bool × Bool × Int × Int × List (ByteArray × Int × Int) × List (ByteArray × Int × Int × Int × ByteArray) × List (ByteArray × Int × Int × Int × ByteArray) × List (ByteArray × Int × Int × Int × ByteArray)) × List Int × (List (ByteArray × Int)))) =>
  (g41.f y10.1).bind fun (y11 : (Int × Bool × Int × Bool × Bool × Bool × Bool × Int × Int × List (ByteArray × Int × Int) × List (ByteArray × Int × Int × Int × ByteArray) × List (ByteArray × Int × Int × Int × ByteArray) × List (ByteArray × Int × Int × Int × ByteArray))) =>
  (g20.l14 9223372036854775808 0 y11 y10.2.1 y10.2.2).bind fun (y24 : (ByteArray × Int) ⊕ (List Int × (List (ByteArray × Int)))) =>
  (match y24 with
  | .inl y25 => some y25
  | .inr y26 => (g42.f y26.1 y26.2).bind fun (y27 : Int × (List (ByteArray × Int)) × List Int) =>
   if (65535 : Int) < y27.1 then some ((⟨#[]⟩ : ByteArray), 3)
   else (g44.f y27.2.2 y27.2.1).bind fun (y28 : ByteArray × (List (ByteArray × Int)) × List Int) =>
   some (y28.1, 0))
noncomputable def g20.sp : FSpec := { f := 20, ins := [(true, [.k (.pair (.int .i64) (.pair .bool (.pair (.int .i64) (.pair .bool (.pair .bool (.pair .bool (.pair .bool (.pair (.int .i64) (.pair (.int .i64) (.pair (.list 71 (.pair .str (.pair (.int .i64) (.int .i64)))) (.pair (.list 63 (.pair .str (.pair (.int .i64) (.pair (.int .i64) (.pair (.int .i64) .str))))) (.pair (.list 63 (.pair .str (.pair (.int .i64) (.pair (.int .i64) (.pair (.int .i64) .str))))) (.list 63 (.pair .str (.pair (.int .i64) (.pair (.int .i64) (.pair (.int .i64) .str)))))))))))))))))])], inE := [], outs := [(false, [.k .str]), (false, [.k (.int .i64)])], outE := [], raw := ByteArray × Int, sem := fun x => g20.f x.1.1.1, ret := fun y => (((y.1, ()), (y.2, ()), ()), ()) }
theorem g20.ok : FOk Try.prog g20.sp := fn_ok (κ := kap) g20.G_ok follows (L := [g20.L7, g20.L17, g20.L14]) (fn := Try.f20) (c := bodyOf Try.f20) rfl (by decide) rfl (lam_by (fn := Try.f20) (by kernel_rfl) (lamAll_cons g20.k7 (lamAll_cons g20.k17 (lamAll_cons g20.k14 lamAll_nil)))) (un := fun z => (z.1.1.1, z.1.2.1.1)) (fun _ => rfl) (by decide) (fun x => by kernel_rfl)
/-! ### beadroll/beadrollref12.in -/
/-! ### beadroll/beadrollref12.rights -/
/-! ### beadroll/beadrollref12.Formed -/
/-! ### beadroll/beadrollref12.Few -/
/-! ### beadroll/record.Read -/
noncomputable def g27.G : List FSpec := [g61.sp, g24.sp, g62.sp, g63.sp]
theorem g27.G_ok : ∀ sp ∈ g27.G, FOk Try.prog sp := allOk_cons g61.ok (allOk_cons g24.ok (allOk_cons g62.ok (allOk_cons g63.ok allOk_nil)))
noncomputable def g27.f (b0 : ByteArray) (b1 : Int) : Option ((ByteArray × Int × Int × Int × ByteArray) × Int × Int) :=
  (g61.f b0 b1).bind fun (y1 : ByteArray × Int × Int) =>
  if y1.2.2 = 0 then (if (0 : Int) ≤ y1.2.1 then if y1.2.1 ≤ (nz b0.size) then (g24.f (b0.extract y1.2.1.toNat b0.size) ([2, 2, 4, 2] : List Int)).bind fun (y2 : List Int × ByteArray × Int) =>
   if y2.2.2 = 0 then (if (3 : Int) < nz y2.1.length then (match y2.1[3]? with
    | some x3 => if (IntKind.wrap .u64 (nz y2.2.1.size)) < x3 then some (((⟨#[]⟩ : ByteArray), 0, 0, 0, (⟨#[]⟩ : ByteArray)), 0, 2)
     else if (0 : Int) < nz y2.1.length then (match y2.1[0]? with
     | some x4 => if (1 : Int) < nz y2.1.length then (match y2.1[1]? with
      | some x5 => if (2 : Int) < nz y2.1.length then (match y2.1[2]? with
       | some x6 => if (2147483647 : Int) < (wrap64 x6) then (if (3 : Int) < nz y2.1.length then (match y2.1[3]? with
         | some x7 => if (0 : Int) ≤ (wrap64 ((wrap64 ((nz b0.size) - (nz y2.2.1.size))) + (wrap64 x7))) then if (wrap64 ((wrap64 ((nz b0.size) - (nz y2.2.1.size))) + (wrap64 x7))) ≤ (nz b0.size) then if (0 : Int) ≤ (wrap64 ((nz b0.size) - (nz y2.2.1.size))) then if (wrap64 ((nz b0.size) - (nz y2.2.1.size))) ≤ (wrap64 ((wrap64 ((nz b0.size) - (nz y2.2.1.size))) + (wrap64 x7))) then (g62.f (y1.1, wrap64 x4, wrap64 x5, 0, b0.extract ((wrap64 ((nz b0.size) - (nz y2.2.1.size))).toNat) ((wrap64 ((wrap64 ((nz b0.size) - (nz y2.2.1.size))) + (wrap64 x7))).toNat))).bind fun (y8 : Bool) =>
          if y8 = true then ((g63.f b0 (wrap64 ((nz b0.size) - (nz y2.2.1.size))) (wrap64 x7) (wrap64 x4)).bind fun (y9 : ByteArray × Int) =>
           if y9.2 = 0 then some ((y1.1, wrap64 x4, wrap64 x5, 0, y9.1), wrap64 ((wrap64 ((nz b0.size) - (nz y2.2.1.size))) + (wrap64 x7)), 0)
           else some (((⟨#[]⟩ : ByteArray), 0, 0, 0, (⟨#[]⟩ : ByteArray)), 0, y9.2))
          else some ((y1.1, wrap64 x4, wrap64 x5, 0, b0.extract ((wrap64 ((nz b0.size) - (nz y2.2.1.size))).toNat) ((wrap64 ((wrap64 ((nz b0.size) - (nz y2.2.1.size))) + (wrap64 x7))).toNat)), wrap64 ((wrap64 ((nz b0.size) - (nz y2.2.1.size))) + (wrap64 x7)), 0)
          else none
          else none
          else none
          else none
         | none => none)
         else none)
        else if (3 : Int) < nz y2.1.length then (match y2.1[3]? with
        | some x10 => if (0 : Int) ≤ (wrap64 ((wrap64 ((nz b0.size) - (nz y2.2.1.size))) + (wrap64 x10))) then if (wrap64 ((wrap64 ((nz b0.size) - (nz y2.2.1.size))) + (wrap64 x10))) ≤ (nz b0.size) then if (0 : Int) ≤ (wrap64 ((nz b0.size) - (nz y2.2.1.size))) then if (wrap64 ((nz b0.size) - (nz y2.2.1.size))) ≤ (wrap64 ((wrap64 ((nz b0.size) - (nz y2.2.1.size))) + (wrap64 x10))) then (g62.f (y1.1, wrap64 x4, wrap64 x5, wrap64 x6, b0.extract ((wrap64 ((nz b0.size) - (nz y2.2.1.size))).toNat) ((wrap64 ((wrap64 ((nz b0.size) - (nz y2.2.1.size))) + (wrap64 x10))).toNat))).bind fun (y11 : Bool) =>
         if y11 = true then ((g63.f b0 (wrap64 ((nz b0.size) - (nz y2.2.1.size))) (wrap64 x10) (wrap64 x4)).bind fun (y12 : ByteArray × Int) =>
          if y12.2 = 0 then some ((y1.1, wrap64 x4, wrap64 x5, wrap64 x6, y12.1), wrap64 ((wrap64 ((nz b0.size) - (nz y2.2.1.size))) + (wrap64 x10)), 0)
          else some (((⟨#[]⟩ : ByteArray), 0, 0, 0, (⟨#[]⟩ : ByteArray)), 0, y12.2))
         else some ((y1.1, wrap64 x4, wrap64 x5, wrap64 x6, b0.extract ((wrap64 ((nz b0.size) - (nz y2.2.1.size))).toNat) ((wrap64 ((wrap64 ((nz b0.size) - (nz y2.2.1.size))) + (wrap64 x10))).toNat)), wrap64 ((wrap64 ((nz b0.size) - (nz y2.2.1.size))) + (wrap64 x10)), 0)
         else none
         else none
         else none
         else none
        | none => none)
        else none
       | none => none)
       else none
      | none => none)
      else none
     | none => none)
     else none
    | none => none)
    else none)
   else some (((⟨#[]⟩ : ByteArray), 0, 0, 0, (⟨#[]⟩ : ByteArray)), 0, 2)
   else none
   else none)
  else some (((⟨#[]⟩ : ByteArray), 0, 0, 0, (⟨#[]⟩ : ByteArray)), 0, y1.2.2)
noncomputable def g27.sp : FSpec := { f := 27, ins := [(false, [.k .str]), (false, [.k (.int .i64)])], inE := [], outs := [(true, [.k (.pair .str (.pair (.int .i64) (.pair (.int .i64) (.pair (.int .i64) .str))))]), (false, [.k (.int .i64)]), (false, [.k (.int .i64)])], outE := [], raw := (ByteArray × Int × Int × Int × ByteArray) × Int × Int, sem := fun x => g27.f x.1.1.1 x.1.2.1.1, ret := fun y => (((y.1, ()), (y.2.1, ()), (y.2.2, ()), ()), ()) }
theorem g27.ok : FOk Try.prog g27.sp := fn_ok (κ := kap) g27.G_ok follows (L := []) (fn := Try.f27) (c := bodyOf Try.f27) rfl (by decide) rfl (lam_by (fn := Try.f27) (by kernel_rfl) lamAll_nil) (un := fun z => (z.1.1.1, z.1.2.1.1, z.1.2.2.1.1)) (fun _ => rfl) (by decide) (fun x => by kernel_rfl)
/-! ### beadroll/entry.Records -/
/-! ### beadroll/entry.Of -/
/-! ### beadroll/beadrollref11.Read -/
/-! ### beadroll/beadrollref17.Records -/
/-! ### beadroll/beadrollref17.Of -/
/-! ### beadroll/beadrollref11.Same -/
noncomputable def g13.G : List FSpec := []
theorem g13.G_ok : ∀ sp ∈ g13.G, FOk Try.prog sp := allOk_nil
noncomputable def g13.s4 (again : List (ByteArray × Int × Int × Int × ByteArray) → List (ByteArray × Int × Int × Int × ByteArray) → Int → Option (Bool ⊕ Unit)) (a0 : List (ByteArray × Int × Int × Int × ByteArray)) (a1 : List (ByteArray × Int × Int × Int × ByteArray)) (a2 : Int) : Option (Bool ⊕ Unit) :=
  if a2 < (nz a0.length) then (if 0 ≤ a2 then if a2 < nz a0.length then (match a0[a2.toNat]? with
   | some x1 => if 0 ≤ a2 then if a2 < nz a1.length then (match a1[a2.toNat]? with
    | some x2 => if x1.1 = x2.1 ∧ x1.2.1 = x2.2.1 ∧ x1.2.2.1 = x2.2.2.1 ∧ x1.2.2.2.1 = x2.2.2.2.1 ∧ x1.2.2.2.2 = x2.2.2.2.2 ∧ True then again a0 a1 (wrap64 (a2 + 1))
     else some (.inl false)
    | none => none)
    else none
    else none
   | none => none)
   else none
   else none)
  else some (.inr ())
noncomputable def g13.l4 : Nat → List (ByteArray × Int × Int × Int × ByteArray) → List (ByteArray × Int × Int × Int × ByteArray) → Int → Option (Bool ⊕ Unit)
  | 0, _, _, _ => none
  | k + 1, a0, a1, a2 => g13.s4 (g13.l4 k) a0 a1 a2
def g13.n4 : Norm := ⟨[0, 1, 5], [(false, [.k (.list 63 (.pair .str (.pair (.int .i64) (.pair (.int .i64) (.pair (.int .i64) .str)))))]), (false, [.k (.list 63 (.pair .str (.pair (.int .i64) (.pair (.int .i64) (.pair (.int .i64) .str)))))]), (false, [.k (.int .i64)])], []⟩
def g13.x4 : List ExitS := [{ e := .ret, n := ⟨[4], [(false, [.k .bool])], []⟩, raw := Bool, ret := fun y => (((y, ()), ()), ()), un := fun z => z.1.1.1 },
  { e := .exit 0, n := ⟨[], [], []⟩, raw := Unit, ret := fun y => ((), ()), un := fun z => () }]
noncomputable def g13.m4 (k : Nat) (x : g13.n4.X) : Option (SumR g13.x4) := g13.l4 k x.1.1.1 x.1.2.1.1 x.1.2.2.1.1
noncomputable def g13.L4 : LSpec := { id := 4, n := g13.n4, exits := g13.x4, sem := g13.m4 9223372036854775808 }
theorem g13.e4 : ∀ k x, g13.m4 (k + 1) x = roundS Try.prog kap g13.G [] (loopAt Try.f13 4) 26 0 g13.n4 g13.x4 (g13.m4 k) x := fun k x => by kernel_rfl
theorem g13.k4 : LOk Try.prog 0 26 g13.L4 (loopAt Try.f13 4) := LOk.of (κ := kap) (l := g13.L4) g13.G_ok follows (L := []) (lam_by (fn := Try.f13) (by kernel_rfl) lamAll_nil) g13.m4 (unAll_cons (fun _ => rfl) (unAll_cons (fun _ => rfl) unAll_nil)) (fun _ => rfl) g13.e4 9223372036854775808 rfl
noncomputable def g13.f (b0 : List (ByteArray × Int × Int × Int × ByteArray)) (b1 : List (ByteArray × Int × Int × Int × ByteArray)) : Option Bool :=
  if (nz b0.length) = (nz b1.length) then ((g13.l4 9223372036854775808 b0 b1 0).bind fun (y3 : Bool ⊕ Unit) =>
   (match y3 with
   | .inl y4 => some y4
   | .inr y5 => some true))
  else some false
noncomputable def g13.sp : FSpec := { f := 13, ins := [(false, [.k (.list 63 (.pair .str (.pair (.int .i64) (.pair (.int .i64) (.pair (.int .i64) .str)))))]), (false, [.k (.list 63 (.pair .str (.pair (.int .i64) (.pair (.int .i64) (.pair (.int .i64) .str)))))])], inE := [], outs := [(false, [.k .bool])], outE := [], raw := Bool, sem := fun x => g13.f x.1.1.1 x.1.2.1.1, ret := fun y => (((y, ()), ()), ()) }
theorem g13.ok : FOk Try.prog g13.sp := fn_ok (κ := kap) g13.G_ok follows (L := [g13.L4]) (fn := Try.f13) (c := bodyOf Try.f13) rfl (by decide) rfl (lam_by (fn := Try.f13) (by kernel_rfl) (lamAll_cons g13.k4 lamAll_nil)) (un := fun z => z.1.1.1) (fun _ => rfl) (by decide) (fun x => by kernel_rfl)
/-! ### beadroll/beadrollref17.Same -/
/-! ### beadroll/message.headed$1 -/
noncomputable def g83.G : List FSpec := []
theorem g83.G_ok : ∀ sp ∈ g83.G, FOk Try.prog sp := allOk_nil
noncomputable def g83.f (b0 : Int) (b1 : Int) : Option Bool :=
  if b0 < 0 then none
  else some (decide ((IntKind.wrap .u64 ((BitVec.ofInt 64 (b1.fdiv (2 ^ min b0.toNat 64)) &&& (BitVec.ofInt 64 1)).toNat : Int)) = 1))
noncomputable def g83.sp : FSpec := { f := 83, ins := [(false, [.k (.int .i64)]), (false, [.pe (.int .u64)])], inE := [], outs := [(false, [.k .bool])], outE := [], raw := Bool, sem := fun x => g83.f x.1.1.1 x.1.2.1.1, ret := fun y => (((y, ()), ()), ()) }
theorem g83.ok : FOk Try.prog g83.sp := fn_ok (κ := kap) g83.G_ok follows (L := []) (fn := Try.f83) (c := bodyOf Try.f83) rfl (by decide) rfl (lam_by (fn := Try.f83) (by kernel_rfl) lamAll_nil) (un := fun z => z.1.1.1) (fun _ => rfl) (by decide) (fun x => by kernel_rfl)
/-! ### beadroll/message.headed -/
noncomputable def g45.G : List FSpec := [g24.sp, g83.sp]
theorem g45.G_ok : ∀ sp ∈ g45.G, FOk Try.prog sp := allOk_cons g24.ok (allOk_cons g83.ok allOk_nil)
noncomputable def g45.f (b0 : ByteArray) : Option (Int × Bool × Int × Bool × Bool × Bool × Bool × Int × Int × List Int × Int) :=
  (g24.f b0 ([2, 2, 2, 2, 2, 2] : List Int)).bind fun (y1 : List Int × ByteArray × Int) =>
  if y1.2.2 = 0 then (if (1 : Int) < nz y1.1.length then (match y1.1[1]? with
   | some x2 => if (0 : Int) < nz y1.1.length then (match y1.1[0]? with
    | some x3 => (g83.f 15 x2).bind fun (y4 : Bool) =>
     (g83.f 10 x2).bind fun (y5 : Bool) =>
     (g83.f 9 x2).bind fun (y6 : Bool) =>
     (g83.f 8 x2).bind fun (y7 : Bool) =>
     (g83.f 7 x2).bind fun (y8 : Bool) =>
     if (2 : Int) ≤ (nz y1.1.length) then some (wrap64 x3, y4, wrap64 (IntKind.wrap .u64 ((BitVec.ofInt 64 (x2.fdiv (2 ^ 11)) &&& (BitVec.ofInt 64 15)).toNat : Int)), y5, y6, y7, y8, wrap64 (IntKind.wrap .u64 ((BitVec.ofInt 64 (x2.fdiv (2 ^ 4)) &&& (BitVec.ofInt 64 7)).toNat : Int)), wrap64 (IntKind.wrap .u64 ((BitVec.ofInt 64 (x2.fdiv (2 ^ 0)) &&& (BitVec.ofInt 64 15)).toNat : Int)), (y1.1.take y1.1.length).drop 2, 0) else none
    | none => none)
    else none
   | none => none)
   else none)
  else some (0, false, 0, false, false, false, false, 0, 0, ([] : List Int), y1.2.2)
noncomputable def g45.sp : FSpec := { f := 45, ins := [(false, [.k .str])], inE := [], outs := [(true, [.k (.int .i64), .k .bool, .k (.int .i64), .k .bool, .k .bool, .k .bool, .k .bool, .k (.int .i64), .k (.int .i64), .cn, .cn, .cn, .cn]), (false, [.k (.list 57 (.int .u64))]), (false, [.k (.int .i64)])], outE := [], raw := Int × Bool × Int × Bool × Bool × Bool × Bool × Int × Int × List Int × Int, sem := fun x => g45.f x.1.1.1, ret := fun y => (((y.1, y.2.1, y.2.2.1, y.2.2.2.1, y.2.2.2.2.1, y.2.2.2.2.2.1, y.2.2.2.2.2.2.1, y.2.2.2.2.2.2.2.1, y.2.2.2.2.2.2.2.2.1, (), (), (), (), ()), (y.2.2.2.2.2.2.2.2.2.1, ()), (y.2.2.2.2.2.2.2.2.2.2, ()), ()), ()) }
theorem g45.ok : FOk Try.prog g45.sp := fn_ok (κ := kap) g45.G_ok follows (L := []) (fn := Try.f45) (c := bodyOf Try.f45) rfl (by decide) rfl (lam_by (fn := Try.f45) (by kernel_rfl) lamAll_nil) (un := fun z => (z.1.1.1, z.1.1.2.1, z.1.1.2.2.1, z.1.1.2.2.2.1, z.1.1.2.2.2.2.1, z.1.1.2.2.2.2.2.1, z.1.1.2.2.2.2.2.2.1, z.1.1.2.2.2.2.2.2.2.1, z.1.1.2.2.2.2.2.2.2.2.1, z.1.2.1.1, z.1.2.2.1.1)) (fun _ => rfl) (by decide) (fun x => by kernel_rfl)
/-! ### beadroll/message.question -/
noncomputable def g46.G : List FSpec := [g61.sp, g24.sp]
theorem g46.G_ok : ∀ sp ∈ g46.G, FOk Try.prog sp := allOk_cons g61.ok (allOk_cons g24.ok allOk_nil)
noncomputable def g46.f (b0 : ByteArray) (b1 : Int) : Option ((ByteArray × Int × Int) × Int × Int) :=
  (g61.f b0 b1).bind fun (y1 : ByteArray × Int × Int) =>
  if y1.2.2 = 0 then (if (0 : Int) ≤ y1.2.1 then if y1.2.1 ≤ (nz b0.size) then (g24.f (b0.extract y1.2.1.toNat b0.size) ([2, 2] : List Int)).bind fun (y2 : List Int × ByteArray × Int) =>
   if y2.2.2 = 0 then (if (0 : Int) < nz y2.1.length then (match y2.1[0]? with
    | some x3 => if (1 : Int) < nz y2.1.length then (match y2.1[1]? with
     | some x4 => some ((y1.1, wrap64 x3, wrap64 x4), wrap64 ((nz b0.size) - (nz y2.2.1.size)), 0)
     | none => none)
     else none
    | none => none)
    else none)
   else some (((⟨#[]⟩ : ByteArray), 0, 0), 0, y2.2.2)
   else none
   else none)
  else some (((⟨#[]⟩ : ByteArray), 0, 0), 0, y1.2.2)
noncomputable def g46.sp : FSpec := { f := 46, ins := [(false, [.k .str]), (false, [.k (.int .i64)])], inE := [], outs := [(true, [.k (.pair .str (.pair (.int .i64) (.int .i64)))]), (false, [.k (.int .i64)]), (false, [.k (.int .i64)])], outE := [], raw := (ByteArray × Int × Int) × Int × Int, sem := fun x => g46.f x.1.1.1 x.1.2.1.1, ret := fun y => (((y.1, ()), (y.2.1, ()), (y.2.2, ()), ()), ()) }
theorem g46.ok : FOk Try.prog g46.sp := fn_ok (κ := kap) g46.G_ok follows (L := []) (fn := Try.f46) (c := bodyOf Try.f46) rfl (by decide) rfl (lam_by (fn := Try.f46) (by kernel_rfl) lamAll_nil) (un := fun z => (z.1.1.1, z.1.2.1.1, z.1.2.2.1.1)) (fun _ => rfl) (by decide) (fun x => by kernel_rfl)
/-! ### (*beadroll/message.Msg).sections -/
noncomputable def g41v1.G : List FSpec := []
theorem g41v1.G_ok : ∀ sp ∈ g41v1.G, FOk Try.prog sp := allOk_nil
noncomputable def g41v1.f (b0 : Int) (b1 : Bool) (b2 : Int) (b3 : Bool) (b4 : Bool) (b5 : Bool) (b6 : Bool) (b7 : Int) (b8 : Int) (b9 : List (ByteArray × Int × Int)) (b10 : List (ByteArray × Int × Int × Int × ByteArray)) (b11 : List (ByteArray × Int × Int × Int × ByteArray)) (b12 : List (ByteArray × Int × Int × Int × ByteArray)) : Option (Int × Bool × Int × Bool × Bool × Bool × Bool × Int × Int × (List (ByteArray × Int × Int)) × (List (ByteArray × Int × Int × Int × ByteArray)) × (List (ByteArray × Int × Int × Int × ByteArray)) × (List (ByteArray × Int × Int × Int × ByteArray))) :=
  some (b0, b1, b2, b3, b4, b5, b6, b7, b8, b9, b10, b11, b12)
noncomputable def g41v1.sp : FSpec := { f := 41, ins := [(false, [.ptr 0 0])], inE := [some (.cells [.k (.int .i64), .k .bool, .k (.int .i64), .k .bool, .k .bool, .k .bool, .k .bool, .k (.int .i64), .k (.int .i64), .sl 1, .sl 2, .sl 3, .sl 4] 45), some (.lst 71 (.pair .str (.pair (.int .i64) (.int .i64)))), some (.lst 63 (.pair .str (.pair (.int .i64) (.pair (.int .i64) (.pair (.int .i64) .str))))), some (.lst 63 (.pair .str (.pair (.int .i64) (.pair (.int .i64) (.pair (.int .i64) .str))))), some (.lst 63 (.pair .str (.pair (.int .i64) (.pair (.int .i64) (.pair (.int .i64) .str)))))], outs := [(true, [.ptr 0 10, .ptr 0 11, .ptr 0 12])], outE := [some (.cells [.k (.int .i64), .k .bool, .k (.int .i64), .k .bool, .k .bool, .k .bool, .k .bool, .k (.int .i64), .k (.int .i64), .sl 1, .sl 2, .sl 3, .sl 4] 45), some (.lst 71 (.pair .str (.pair (.int .i64) (.int .i64)))), some (.lst 63 (.pair .str (.pair (.int .i64) (.pair (.int .i64) (.pair (.int .i64) .str))))), some (.lst 63 (.pair .str (.pair (.int .i64) (.pair (.int .i64) (.pair (.int .i64) .str))))), some (.lst 63 (.pair .str (.pair (.int .i64) (.pair (.int .i64) (.pair (.int .i64) .str)))))], raw := Int × Bool × Int × Bool × Bool × Bool × Bool × Int × Int × (List (ByteArray × Int × Int)) × (List (ByteArray × Int × Int × Int × ByteArray)) × (List (ByteArray × Int × Int × Int × ByteArray)) × (List (ByteArray × Int × Int × Int × ByteArray)), sem := fun x => g41v1.f x.2.1.1 x.2.1.2.1 x.2.1.2.2.1 x.2.1.2.2.2.1 x.2.1.2.2.2.2.1 x.2.1.2.2.2.2.2.1 x.2.1.2.2.2.2.2.2.1 x.2.1.2.2.2.2.2.2.2.1 x.2.1.2.2.2.2.2.2.2.2.1 x.2.2.1 x.2.2.2.1 x.2.2.2.2.1 x.2.2.2.2.2.1, ret := fun y => ((((), (), (), ()), ()), ((y.1, y.2.1, y.2.2.1, y.2.2.2.1, y.2.2.2.2.1, y.2.2.2.2.2.1, y.2.2.2.2.2.2.1, y.2.2.2.2.2.2.2.1, y.2.2.2.2.2.2.2.2.1, (), (), (), (), ()), y.2.2.2.2.2.2.2.2.2.1, y.2.2.2.2.2.2.2.2.2.2.1, y.2.2.2.2.2.2.2.2.2.2.2.1, y.2.2.2.2.2.2.2.2.2.2.2.2, ())) }
theorem g41v1.ok : FOk Try.prog g41v1.sp := fn_ok (κ := kap) g41v1.G_ok follows (L := []) (fn := Try.f41) (c := bodyOf Try.f41) rfl (by decide) rfl (lam_by (fn := Try.f41) (by kernel_rfl) lamAll_nil) (un := fun z => (z.2.1.1, z.2.1.2.1, z.2.1.2.2.1, z.2.1.2.2.2.1, z.2.1.2.2.2.2.1, z.2.1.2.2.2.2.2.1, z.2.1.2.2.2.2.2.2.1, z.2.1.2.2.2.2.2.2.2.1, z.2.1.2.2.2.2.2.2.2.2.1, z.2.2.1, z.2.2.2.1, z.2.2.2.2.1, z.2.2.2.2.2.1)) (fun _ => rfl) (by decide) (fun x => by kernel_rfl)
/-! ### beadroll/message.Decode -/
noncomputable def g21.G : List FSpec := [g45.sp, g46.sp, g41v1.sp, g27.sp]
theorem g21.G_ok : ∀ sp ∈ g21.G, FOk Try.prog sp := allOk_cons g45.ok (allOk_cons g46.ok (allOk_cons g41v1.ok (allOk_cons g27.ok allOk_nil)))
noncomputable def g21.s6 (again : ByteArray → List Int → Int → Int → Int → Int → Bool → Int → Bool → Bool → Bool → Bool → Int → Int → Int → Bool → Int → Bool → Bool → Bool → Bool → Int → Int → List (ByteArray × Int × Int) → List (ByteArray × Int × Int × Int × ByteArray) → List (ByteArray × Int × Int × Int × ByteArray) → List (ByteArray × Int × Int × Int × ByteArray) → List (ByteArray × Int × Int) → List (ByteArray × Int × Int × Int × ByteArray) → List (ByteArray × Int × Int × Int × ByteArray) → List (ByteArray × Int × Int × Int × ByteArray) → Option ((Int × Int × Bool × Int × Bool × Bool × Bool × Bool × Int × Int × (List (ByteArray × Int × Int)) × (List (ByteArray × Int × Int × Int × ByteArray)) × (List (ByteArray × Int × Int × Int × ByteArray)) × (List (ByteArray × Int × Int × Int × ByteArray))) ⊕ (ByteArray × List Int × Int × Int × Bool × Int × Bool × Bool × Bool × Bool × Int × Int × Int × Bool × Int × Bool × Bool × Bool × Bool × Int × Int × (List (ByteArray × Int × Int)) × (List (ByteArray × Int × Int × Int × ByteArray)) × (List (ByteArray × Int × Int × Int × ByteArray)) × (List (ByteArray × Int × Int × Int × ByteArray)) × (List (ByteArray × Int × Int)) × (List (ByteArray × Int × Int × Int × ByteArray)) × (List (ByteArray × Int × Int × Int × ByteArray)) × (List (ByteArray × Int × Int × Int × ByteArray))))) (a0 : ByteArray) (a1 : List Int) (a2 : Int) (a3 : Int) (a4 : Int) (a5 : Int) (a6 : Bool) (a7 : Int) (a8 : Bool) (a9 : Bool) (a10 : Bool) (a11 : Bool) (a12 : Int) (a13 : Int) (a14 : Int) (a15 : Bool) (a16 : Int) (a17 : Bool) (a18 : Bool) (a19 : Bool) (a20 : Bool) (a21 : Int) (a22 : Int) (a23 : List (ByteArray × Int × Int)) (a24 : List (ByteArray × Int × Int × Int × ByteArray)) (a25 : List (ByteArray × Int × Int × Int × ByteArray)) (a26 : List (ByteArray × Int × Int × Int × ByteArray)) (a27 : List (ByteArray × Int × Int)) (a28 : List (ByteArray × Int × Int × Int × ByteArray)) (a29 : List (ByteArray × Int × Int × Int × ByteArray)) (a30 : List (ByteArray × Int × Int × Int × ByteArray)) : Option ((Int × Int × Bool × Int × Bool × Bool × Bool × Bool × Int × Int × (List (ByteArray × Int × Int)) × (List (ByteArray × Int × Int × Int × ByteArray)) × (List (ByteArray × Int × Int × Int × ByteArray)) × (List (ByteArray × Int × Int × Int × ByteArray))) ⊕ (ByteArray × List Int × Int × Int × Bool × Int × Bool × Bool × Bool × Bool × Int × Int × Int × Bool × Int × Bool × Bool × Bool × Bool × Int × Int × (List (ByteArray × Int × Int)) × (List (ByteArray × Int × Int × Int × ByteArray)) × (List (ByteArray × Int × Int × Int × ByteArray)) × (List (ByteArray × Int × Int × Int × ByteArray)) × (List (ByteArray × Int × Int)) × (List (ByteArray × Int × Int × Int × ByteArray)) × (List (ByteArray × Int × Int × Int × ByteArray)) × (List (ByteArray × Int × Int × Int × ByteArray)))) :=
  if a4 < a3 then ((g46.f a0 a2).bind fun (y3 : (ByteArray × Int × Int) × Int × Int) =>
   if y3.2.2 = 0 then (if nz a27.length + nz (([y3.1] : List (ByteArray × Int × Int)).length) ≤ room Try.prog 71 then again a0 a1 y3.2.1 a3 (IntKind.wrap .u64 (a4 + 1)) a5 a6 a7 a8 a9 a10 a11 a12 a13 a14 a15 a16 a17 a18 a19 a20 a21 a22 a23 a24 a25 a26 (a27 ++ ([y3.1] : List (ByteArray × Int × Int))) a28 a29 a30 else none)
   else some (.inl (2, 0, false, 0, false, false, false, false, 0, 0, ([] : List (ByteArray × Int × Int)), ([] : List (ByteArray × Int × Int × Int × ByteArray)), ([] : List (ByteArray × Int × Int × Int × ByteArray)), ([] : List (ByteArray × Int × Int × Int × ByteArray)))))
  else some (.inr (a0, a1, a2, a5, a6, a7, a8, a9, a10, a11, a12, a13, a14, a15, a16, a17, a18, a19, a20, a21, a22, a23, a24, a25, a26, a27, a28, a29, a30))
noncomputable def g21.l6 : Nat → ByteArray → List Int → Int → Int → Int → Int → Bool → Int → Bool → Bool → Bool → Bool → Int → Int → Int → Bool → Int → Bool → Bool → Bool → Bool → Int → Int → List (ByteArray × Int × Int) → List (ByteArray × Int × Int × Int × ByteArray) → List (ByteArray × Int × Int × Int × ByteArray) → List (ByteArray × Int × Int × Int × ByteArray) → List (ByteArray × Int × Int) → List (ByteArray × Int × Int × Int × ByteArray) → List (ByteArray × Int × Int × Int × ByteArray) → List (ByteArray × Int × Int × Int × ByteArray) → Option ((Int × Int × Bool × Int × Bool × Bool × Bool × Bool × Int × Int × (List (ByteArray × Int × Int)) × (List (ByteArray × Int × Int × Int × ByteArray)) × (List (ByteArray × Int × Int × Int × ByteArray)) × (List (ByteArray × Int × Int × Int × ByteArray))) ⊕ (ByteArray × List Int × Int × Int × Bool × Int × Bool × Bool × Bool × Bool × Int × Int × Int × Bool × Int × Bool × Bool × Bool × Bool × Int × Int × (List (ByteArray × Int × Int)) × (List (ByteArray × Int × Int × Int × ByteArray)) × (List (ByteArray × Int × Int × Int × ByteArray)) × (List (ByteArray × Int × Int × Int × ByteArray)) × (List (ByteArray × Int × Int)) × (List (ByteArray × Int × Int × Int × ByteArray)) × (List (ByteArray × Int × Int × Int × ByteArray)) × (List (ByteArray × Int × Int × Int × ByteArray))))
  | 0, _, _, _, _, _, _, _, _, _, _, _, _, _, _, _, _, _, _, _, _, _, _, _, _, _, _, _, _, _, _, _ => none
  | k + 1, a0, a1, a2, a3, a4, a5, a6, a7, a8, a9, a10, a11, a12, a13, a14, a15, a16, a17, a18, a19, a20, a21, a22, a23, a24, a25, a26, a27, a28, a29, a30 => g21.s6 (g21.l6 k) a0 a1 a2 a3 a4 a5 a6 a7 a8 a9 a10 a11 a12 a13 a14 a15 a16 a17 a18 a19 a20 a21 a22 a23 a24 a25 a26 a27 a28 a29 a30
def g21.n6 : Norm := ⟨[0, 2, 4, 5, 7, 28, 29], [(false, [.k .str]), (false, [.ptr 0 0]), (false, [.ptr 1 0]), (false, [.k (.list 57 (.int .u64))]), (false, [.k (.int .i64)]), (false, [.k (.int .u64)]), (false, [.k (.int .u64)])], [some (.cells [.k (.int .i64), .k .bool, .k (.int .i64), .k .bool, .k .bool, .k .bool, .k .bool, .k (.int .i64), .k (.int .i64), .sl 2, .sl 3, .sl 4, .sl 5] 45), some (.cells [.k (.int .i64), .k .bool, .k (.int .i64), .k .bool, .k .bool, .k .bool, .k .bool, .k (.int .i64), .k (.int .i64), .sl 6, .sl 7, .sl 8, .sl 9] 45), some (.lst 71 (.pair .str (.pair (.int .i64) (.int .i64)))), some (.lst 63 (.pair .str (.pair (.int .i64) (.pair (.int .i64) (.pair (.int .i64) .str))))), some (.lst 63 (.pair .str (.pair (.int .i64) (.pair (.int .i64) (.pair (.int .i64) .str))))), some (.lst 63 (.pair .str (.pair (.int .i64) (.pair (.int .i64) (.pair (.int .i64) .str))))), some (.lst 71 (.pair .str (.pair (.int .i64) (.int .i64)))), some (.lst 63 (.pair .str (.pair (.int .i64) (.pair (.int .i64) (.pair (.int .i64) .str))))), some (.lst 63 (.pair .str (.pair (.int .i64) (.pair (.int .i64) (.pair (.int .i64) .str))))), some (.lst 63 (.pair .str (.pair (.int .i64) (.pair (.int .i64) (.pair (.int .i64) .str)))))]⟩
def g21.x6 : List ExitS := [{ e := .ret, n := ⟨[2, 3], [(false, [.ptr 0 0]), (false, [.k (.int .i64)])], [some (.cells [.k (.int .i64), .k .bool, .k (.int .i64), .k .bool, .k .bool, .k .bool, .k .bool, .k (.int .i64), .k (.int .i64), .sl 1, .sl 2, .sl 3, .sl 4] 45), some (.lst 71 (.pair .str (.pair (.int .i64) (.int .i64)))), some (.lst 63 (.pair .str (.pair (.int .i64) (.pair (.int .i64) (.pair (.int .i64) .str))))), some (.lst 63 (.pair .str (.pair (.int .i64) (.pair (.int .i64) (.pair (.int .i64) .str))))), some (.lst 63 (.pair .str (.pair (.int .i64) (.pair (.int .i64) (.pair (.int .i64) .str)))))]⟩, raw := Int × Int × Bool × Int × Bool × Bool × Bool × Bool × Int × Int × (List (ByteArray × Int × Int)) × (List (ByteArray × Int × Int × Int × ByteArray)) × (List (ByteArray × Int × Int × Int × ByteArray)) × (List (ByteArray × Int × Int × Int × ByteArray)), ret := fun y => ((((), ()), (y.1, ()), ()), ((y.2.1, y.2.2.1, y.2.2.2.1, y.2.2.2.2.1, y.2.2.2.2.2.1, y.2.2.2.2.2.2.1, y.2.2.2.2.2.2.2.1, y.2.2.2.2.2.2.2.2.1, y.2.2.2.2.2.2.2.2.2.1, (), (), (), (), ()), y.2.2.2.2.2.2.2.2.2.2.1, y.2.2.2.2.2.2.2.2.2.2.2.1, y.2.2.2.2.2.2.2.2.2.2.2.2.1, y.2.2.2.2.2.2.2.2.2.2.2.2.2, ())), un := fun z => (z.1.2.1.1, z.2.1.1, z.2.1.2.1, z.2.1.2.2.1, z.2.1.2.2.2.1, z.2.1.2.2.2.2.1, z.2.1.2.2.2.2.2.1, z.2.1.2.2.2.2.2.2.1, z.2.1.2.2.2.2.2.2.2.1, z.2.1.2.2.2.2.2.2.2.2.1, z.2.2.1, z.2.2.2.1, z.2.2.2.2.1, z.2.2.2.2.2.1) },
  { e := .exit 0, n := ⟨[0, 2, 4, 5, 7], [(false, [.k .str]), (false, [.ptr 0 0]), (false, [.ptr 1 0]), (false, [.k (.list 57 (.int .u64))]), (false, [.k (.int .i64)])], [some (.cells [.k (.int .i64), .k .bool, .k (.int .i64), .k .bool, .k .bool, .k .bool, .k .bool, .k (.int .i64), .k (.int .i64), .sl 2, .sl 3, .sl 4, .sl 5] 45), some (.cells [.k (.int .i64), .k .bool, .k (.int .i64), .k .bool, .k .bool, .k .bool, .k .bool, .k (.int .i64), .k (.int .i64), .sl 6, .sl 7, .sl 8, .sl 9] 45), some (.lst 71 (.pair .str (.pair (.int .i64) (.int .i64)))), some (.lst 63 (.pair .str (.pair (.int .i64) (.pair (.int .i64) (.pair (.int .i64) .str))))), some (.lst 63 (.pair .str (.pair (.int .i64) (.pair (.int .i64) (.pair (.int .i64) .str))))), some (.lst 63 (.pair .str (.pair (.int .i64) (.pair (.int .i64) (.pair (.int .i64) .str))))), some (.lst 71 (.pair .str (.pair (.int .i64) (.int .i64)))), some (.lst 63 (.pair .str (.pair (.int .i64) (.pair (.int .i64) (.pair (.int .i64) .str))))), some (.lst 63 (.pair .str (.pair (.int .i64) (.pair (.int .i64) (.pair (.int .i64) .str))))), some (.lst 63 (.pair .str (.pair (.int .i64) (.pair (.int .i64) (.pair (.int .i64) .str)))))]⟩, raw := ByteArray × List Int × Int × Int × Bool × Int × Bool × Bool × Bool × Bool × Int × Int × Int × Bool × Int × Bool × Bool × Bool × Bool × Int × Int × (List (ByteArray × Int × Int)) × (List (ByteArray × Int × Int × Int × ByteArray)) × (List (ByteArray × Int × Int × Int × ByteArray)) × (List (ByteArray × Int × Int × Int × ByteArray)) × (List (ByteArray × Int × Int)) × (List (ByteArray × Int × Int × Int × ByteArray)) × (List (ByteArray × Int × Int × Int × ByteArray)) × (List (ByteArray × Int × Int × Int × ByteArray)), ret := fun y => (((y.1, ()), ((), ()), ((), ()), (y.2.1, ()), (y.2.2.1, ()), ()), ((y.2.2.2.1, y.2.2.2.2.1, y.2.2.2.2.2.1, y.2.2.2.2.2.2.1, y.2.2.2.2.2.2.2.1, y.2.2.2.2.2.2.2.2.1, y.2.2.2.2.2.2.2.2.2.1, y.2.2.2.2.2.2.2.2.2.2.1, y.2.2.2.2.2.2.2.2.2.2.2.1, (), (), (), (), ()), (y.2.2.2.2.2.2.2.2.2.2.2.2.1, y.2.2.2.2.2.2.2.2.2.2.2.2.2.1, y.2.2.2.2.2.2.2.2.2.2.2.2.2.2.1, y.2.2.2.2.2.2.2.2.2.2.2.2.2.2.2.1, y.2.2.2.2.2.2.2.2.2.2.2.2.2.2.2.2.1, y.2.2.2.2.2.2.2.2.2.2.2.2.2.2.2.2.2.1, y.2.2.2.2.2.2.2.2.2.2.2.2.2.2.2.2.2.2.1, y.2.2.2.2.2.2.2.2.2.2.2.2.2.2.2.2.2.2.2.1, y.2.2.2.2.2.2.2.2.2.2.2.2.2.2.2.2.2.2.2.2.1, (), (), (), (), ()), y.2.2.2.2.2.2.2.2.2.2.2.2.2.2.2.2.2.2.2.2.2.1, y.2.2.2.2.2.2.2.2.2.2.2.2.2.2.2.2.2.2.2.2.2.2.1, y.2.2.2.2.2.2.2.2.2.2.2.2.2.2.2.2.2.2.2.2.2.2.2.1, y.2.2.2.2.2.2.2.2.2.2.2.2.2.2.2.2.2.2.2.2.2.2.2.2.1, y.2.2.2.2.2.2.2.2.2.2.2.2.2.2.2.2.2.2.2.2.2.2.2.2.2.1, y.2.2.2.2.2.2.2.2.2.2.2.2.2.2.2.2.2.2.2.2.2.2.2.2.2.2.1, y.2.2.2.2.2.2.2.2.2.2.2.2.2.2.2.2.2.2.2.2.2.2.2.2.2.2.2.1, y.2.2.2.2.2.2.2.2.2.2.2.2.2.2.2.2.2.2.2.2.2.2.2.2.2.2.2.2, ())), un := fun z => (z.1.1.1, z.1.2.2.2.1.1, z.1.2.2.2.2.1.1, z.2.1.1, z.2.1.2.1, z.2.1.2.2.1, z.2.1.2.2.2.1, z.2.1.2.2.2.2.1, z.2.1.2.2.2.2.2.1, z.2.1.2.2.2.2.2.2.1, z.2.1.2.2.2.2.2.2.2.1, z.2.1.2.2.2.2.2.2.2.2.1, z.2.2.1.1, z.2.2.1.2.1, z.2.2.1.2.2.1, z.2.2.1.2.2.2.1, z.2.2.1.2.2.2.2.1, z.2.2.1.2.2.2.2.2.1, z.2.2.1.2.2.2.2.2.2.1, z.2.2.1.2.2.2.2.2.2.2.1, z.2.2.1.2.2.2.2.2.2.2.2.1, z.2.2.2.1, z.2.2.2.2.1, z.2.2.2.2.2.1, z.2.2.2.2.2.2.1, z.2.2.2.2.2.2.2.1, z.2.2.2.2.2.2.2.2.1, z.2.2.2.2.2.2.2.2.2.1, z.2.2.2.2.2.2.2.2.2.2.1) }]
noncomputable def g21.m6 (k : Nat) (x : g21.n6.X) : Option (SumR g21.x6) := g21.l6 k x.1.1.1 x.1.2.2.2.1.1 x.1.2.2.2.2.1.1 x.1.2.2.2.2.2.1.1 x.1.2.2.2.2.2.2.1.1 x.2.1.1 x.2.1.2.1 x.2.1.2.2.1 x.2.1.2.2.2.1 x.2.1.2.2.2.2.1 x.2.1.2.2.2.2.2.1 x.2.1.2.2.2.2.2.2.1 x.2.1.2.2.2.2.2.2.2.1 x.2.1.2.2.2.2.2.2.2.2.1 x.2.2.1.1 x.2.2.1.2.1 x.2.2.1.2.2.1 x.2.2.1.2.2.2.1 x.2.2.1.2.2.2.2.1 x.2.2.1.2.2.2.2.2.1 x.2.2.1.2.2.2.2.2.2.1 x.2.2.1.2.2.2.2.2.2.2.1 x.2.2.1.2.2.2.2.2.2.2.2.1 x.2.2.2.1 x.2.2.2.2.1 x.2.2.2.2.2.1 x.2.2.2.2.2.2.1 x.2.2.2.2.2.2.2.1 x.2.2.2.2.2.2.2.2.1 x.2.2.2.2.2.2.2.2.2.1 x.2.2.2.2.2.2.2.2.2.2.1
noncomputable def g21.L6 : LSpec := { id := 6, n := g21.n6, exits := g21.x6, sem := g21.m6 9223372036854775808 }
theorem g21.e6 : ∀ k x, g21.m6 (k + 1) x = roundS Try.prog kap g21.G [] (loopAt Try.f21 6) 88 0 g21.n6 g21.x6 (g21.m6 k) x := fun k x => by kernel_rfl
theorem g21.k6 : LOk Try.prog 0 88 g21.L6 (loopAt Try.f21 6) := LOk.of (κ := kap) (l := g21.L6) g21.G_ok follows (L := []) (lam_by (fn := Try.f21) (by kernel_rfl) lamAll_nil) g21.m6 (unAll_cons (fun _ => rfl) (unAll_cons (fun _ => rfl) unAll_nil)) (fun _ => rfl) g21.e6 9223372036854775808 rfl
noncomputable def g21.s16 (again : ByteArray → List Int → Int → Int → Int → Int → Int → Bool → Int → Bool → Bool → Bool → Bool → Int → Int → Int → Bool → Int → Bool → Bool → Bool → Bool → Int → Int → List (ByteArray × Int × Int) → List (ByteArray × Int × Int × Int × ByteArray) → List (ByteArray × Int × Int × Int × ByteArray) → List (ByteArray × Int × Int × Int × ByteArray) → List (ByteArray × Int × Int) → List (ByteArray × Int × Int × Int × ByteArray) → List (ByteArray × Int × Int × Int × ByteArray) → List (ByteArray × Int × Int × Int × ByteArray) → Option ((Int × Int × Bool × Int × Bool × Bool × Bool × Bool × Int × Int × (List (ByteArray × Int × Int)) × (List (ByteArray × Int × Int × Int × ByteArray)) × (List (ByteArray × Int × Int × Int × ByteArray)) × (List (ByteArray × Int × Int × Int × ByteArray))) ⊕ (ByteArray × List Int × Int × Int × Int × Bool × Int × Bool × Bool × Bool × Bool × Int × Int × Int × Bool × Int × Bool × Bool × Bool × Bool × Int × Int × (List (ByteArray × Int × Int)) × (List (ByteArray × Int × Int × Int × ByteArray)) × (List (ByteArray × Int × Int × Int × ByteArray)) × (List (ByteArray × Int × Int × Int × ByteArray)) × (List (ByteArray × Int × Int)) × (List (ByteArray × Int × Int × Int × ByteArray)) × (List (ByteArray × Int × Int × Int × ByteArray)) × (List (ByteArray × Int × Int × Int × ByteArray))))) (a0 : ByteArray) (a1 : List Int) (a2 : Int) (a3 : Int) (a4 : Int) (a5 : Int) (a6 : Int) (a7 : Bool) (a8 : Int) (a9 : Bool) (a10 : Bool) (a11 : Bool) (a12 : Bool) (a13 : Int) (a14 : Int) (a15 : Int) (a16 : Bool) (a17 : Int) (a18 : Bool) (a19 : Bool) (a20 : Bool) (a21 : Bool) (a22 : Int) (a23 : Int) (a24 : List (ByteArray × Int × Int)) (a25 : List (ByteArray × Int × Int × Int × ByteArray)) (a26 : List (ByteArray × Int × Int × Int × ByteArray)) (a27 : List (ByteArray × Int × Int × Int × ByteArray)) (a28 : List (ByteArray × Int × Int)) (a29 : List (ByteArray × Int × Int × Int × ByteArray)) (a30 : List (ByteArray × Int × Int × Int × ByteArray)) (a31 : List (ByteArray × Int × Int × Int × ByteArray)) : Option ((Int × Int × Bool × Int × Bool × Bool × Bool × Bool × Int × Int × (List (ByteArray × Int × Int)) × (List (ByteArray × Int × Int × Int × ByteArray)) × (List (ByteArray × Int × Int × Int × ByteArray)) × (List (ByteArray × Int × Int × Int × ByteArray))) ⊕ (ByteArray × List Int × Int × Int × Int × Bool × Int × Bool × Bool × Bool × Bool × Int × Int × Int × Bool × Int × Bool × Bool × Bool × Bool × Int × Int × (List (ByteArray × Int × Int)) × (List (ByteArray × Int × Int × Int × ByteArray)) × (List (ByteArray × Int × Int × Int × ByteArray)) × (List (ByteArray × Int × Int × Int × ByteArray)) × (List (ByteArray × Int × Int)) × (List (ByteArray × Int × Int × Int × ByteArray)) × (List (ByteArray × Int × Int × Int × ByteArray)) × (List (ByteArray × Int × Int × Int × ByteArray)))) :=
  if a5 < a4 then ((g27.f a0 a2).bind fun (y9 : (ByteArray × Int × Int × Int × ByteArray) × Int × Int) =>
   if y9.2.2 = 0 then (if nz a29.length + nz (([y9.1] : List (ByteArray × Int × Int × Int × ByteArray)).length) ≤ room Try.prog 63 then again a0 a1 y9.2.1 a3 a4 (IntKind.wrap .u64 (a5 + 1)) a6 a7 a8 a9 a10 a11 a12 a13 a14 a15 a16 a17 a18 a19 a20 a21 a22 a23 a24 a25 a26 a27 a28 (a29 ++ ([y9.1] : List (ByteArray × Int × Int × Int × ByteArray))) a30 a31 else none)
   else some (.inl (2, 0, false, 0, false, false, false, false, 0, 0, ([] : List (ByteArray × Int × Int)), ([] : List (ByteArray × Int × Int × Int × ByteArray)), ([] : List (ByteArray × Int × Int × Int × ByteArray)), ([] : List (ByteArray × Int × Int × Int × ByteArray)))))
  else some (.inr (a0, a1, a2, a3, a6, a7, a8, a9, a10, a11, a12, a13, a14, a15, a16, a17, a18, a19, a20, a21, a22, a23, a24, a25, a26, a27, a28, a29, a30, a31))
noncomputable def g21.l16 : Nat → ByteArray → List Int → Int → Int → Int → Int → Int → Bool → Int → Bool → Bool → Bool → Bool → Int → Int → Int → Bool → Int → Bool → Bool → Bool → Bool → Int → Int → List (ByteArray × Int × Int) → List (ByteArray × Int × Int × Int × ByteArray) → List (ByteArray × Int × Int × Int × ByteArray) → List (ByteArray × Int × Int × Int × ByteArray) → List (ByteArray × Int × Int) → List (ByteArray × Int × Int × Int × ByteArray) → List (ByteArray × Int × Int × Int × ByteArray) → List (ByteArray × Int × Int × Int × ByteArray) → Option ((Int × Int × Bool × Int × Bool × Bool × Bool × Bool × Int × Int × (List (ByteArray × Int × Int)) × (List (ByteArray × Int × Int × Int × ByteArray)) × (List (ByteArray × Int × Int × Int × ByteArray)) × (List (ByteArray × Int × Int × Int × ByteArray))) ⊕ (ByteArray × List Int × Int × Int × Int × Bool × Int × Bool × Bool × Bool × Bool × Int × Int × Int × Bool × Int × Bool × Bool × Bool × Bool × Int × Int × (List (ByteArray × Int × Int)) × (List (ByteArray × Int × Int × Int × ByteArray)) × (List (ByteArray × Int × Int × Int × ByteArray)) × (List (ByteArray × Int × Int × Int × ByteArray)) × (List (ByteArray × Int × Int)) × (List (ByteArray × Int × Int × Int × ByteArray)) × (List (ByteArray × Int × Int × Int × ByteArray)) × (List (ByteArray × Int × Int × Int × ByteArray))))
  | 0, _, _, _, _, _, _, _, _, _, _, _, _, _, _, _, _, _, _, _, _, _, _, _, _, _, _, _, _, _, _, _, _ => none
  | k + 1, a0, a1, a2, a3, a4, a5, a6, a7, a8, a9, a10, a11, a12, a13, a14, a15, a16, a17, a18, a19, a20, a21, a22, a23, a24, a25, a26, a27, a28, a29, a30, a31 => g21.s16 (g21.l16 k) a0 a1 a2 a3 a4 a5 a6 a7 a8 a9 a10 a11 a12 a13 a14 a15 a16 a17 a18 a19 a20 a21 a22 a23 a24 a25 a26 a27 a28 a29 a30 a31
def g21.n16 : Norm := ⟨[0, 2, 4, 5, 7, 12, 49, 50, 58, 59], [(false, [.k .str]), (false, [.ptr 0 0]), (false, [.ptr 1 0]), (false, [.k (.list 57 (.int .u64))]), (false, [.k (.int .i64)]), (false, [.ptr 1 10]), (true, [.ptr 1 10, .ptr 1 11, .ptr 1 12]), (false, [.k (.int .i64)]), (false, [.k (.int .u64)]), (false, [.k (.int .u64)])], [some (.cells [.k (.int .i64), .k .bool, .k (.int .i64), .k .bool, .k .bool, .k .bool, .k .bool, .k (.int .i64), .k (.int .i64), .sl 2, .sl 3, .sl 4, .sl 5] 45), some (.cells [.k (.int .i64), .k .bool, .k (.int .i64), .k .bool, .k .bool, .k .bool, .k .bool, .k (.int .i64), .k (.int .i64), .sl 6, .sl 7, .sl 8, .sl 9] 45), some (.lst 71 (.pair .str (.pair (.int .i64) (.int .i64)))), some (.lst 63 (.pair .str (.pair (.int .i64) (.pair (.int .i64) (.pair (.int .i64) .str))))), some (.lst 63 (.pair .str (.pair (.int .i64) (.pair (.int .i64) (.pair (.int .i64) .str))))), some (.lst 63 (.pair .str (.pair (.int .i64) (.pair (.int .i64) (.pair (.int .i64) .str))))), some (.lst 71 (.pair .str (.pair (.int .i64) (.int .i64)))), some (.lst 63 (.pair .str (.pair (.int .i64) (.pair (.int .i64) (.pair (.int .i64) .str))))), some (.lst 63 (.pair .str (.pair (.int .i64) (.pair (.int .i64) (.pair (.int .i64) .str))))), some (.lst 63 (.pair .str (.pair (.int .i64) (.pair (.int .i64) (.pair (.int .i64) .str)))))]⟩
def g21.x16 : List ExitS := [{ e := .ret, n := ⟨[2, 3], [(false, [.ptr 0 0]), (false, [.k (.int .i64)])], [some (.cells [.k (.int .i64), .k .bool, .k (.int .i64), .k .bool, .k .bool, .k .bool, .k .bool, .k (.int .i64), .k (.int .i64), .sl 1, .sl 2, .sl 3, .sl 4] 45), some (.lst 71 (.pair .str (.pair (.int .i64) (.int .i64)))), some (.lst 63 (.pair .str (.pair (.int .i64) (.pair (.int .i64) (.pair (.int .i64) .str))))), some (.lst 63 (.pair .str (.pair (.int .i64) (.pair (.int .i64) (.pair (.int .i64) .str))))), some (.lst 63 (.pair .str (.pair (.int .i64) (.pair (.int .i64) (.pair (.int .i64) .str)))))]⟩, raw := Int × Int × Bool × Int × Bool × Bool × Bool × Bool × Int × Int × (List (ByteArray × Int × Int)) × (List (ByteArray × Int × Int × Int × ByteArray)) × (List (ByteArray × Int × Int × Int × ByteArray)) × (List (ByteArray × Int × Int × Int × ByteArray)), ret := fun y => ((((), ()), (y.1, ()), ()), ((y.2.1, y.2.2.1, y.2.2.2.1, y.2.2.2.2.1, y.2.2.2.2.2.1, y.2.2.2.2.2.2.1, y.2.2.2.2.2.2.2.1, y.2.2.2.2.2.2.2.2.1, y.2.2.2.2.2.2.2.2.2.1, (), (), (), (), ()), y.2.2.2.2.2.2.2.2.2.2.1, y.2.2.2.2.2.2.2.2.2.2.2.1, y.2.2.2.2.2.2.2.2.2.2.2.2.1, y.2.2.2.2.2.2.2.2.2.2.2.2.2, ())), un := fun z => (z.1.2.1.1, z.2.1.1, z.2.1.2.1, z.2.1.2.2.1, z.2.1.2.2.2.1, z.2.1.2.2.2.2.1, z.2.1.2.2.2.2.2.1, z.2.1.2.2.2.2.2.2.1, z.2.1.2.2.2.2.2.2.2.1, z.2.1.2.2.2.2.2.2.2.2.1, z.2.2.1, z.2.2.2.1, z.2.2.2.2.1, z.2.2.2.2.2.1) },
  { e := .exit 4, n := ⟨[0, 2, 4, 5, 7, 49, 50], [(false, [.k .str]), (false, [.ptr 0 0]), (false, [.ptr 1 0]), (false, [.k (.list 57 (.int .u64))]), (false, [.k (.int .i64)]), (true, [.ptr 1 10, .ptr 1 11, .ptr 1 12]), (false, [.k (.int .i64)])], [some (.cells [.k (.int .i64), .k .bool, .k (.int .i64), .k .bool, .k .bool, .k .bool, .k .bool, .k (.int .i64), .k (.int .i64), .sl 2, .sl 3, .sl 4, .sl 5] 45), some (.cells [.k (.int .i64), .k .bool, .k (.int .i64), .k .bool, .k .bool, .k .bool, .k .bool, .k (.int .i64), .k (.int .i64), .sl 6, .sl 7, .sl 8, .sl 9] 45), some (.lst 71 (.pair .str (.pair (.int .i64) (.int .i64)))), some (.lst 63 (.pair .str (.pair (.int .i64) (.pair (.int .i64) (.pair (.int .i64) .str))))), some (.lst 63 (.pair .str (.pair (.int .i64) (.pair (.int .i64) (.pair (.int .i64) .str))))), some (.lst 63 (.pair .str (.pair (.int .i64) (.pair (.int .i64) (.pair (.int .i64) .str))))), some (.lst 71 (.pair .str (.pair (.int .i64) (.int .i64)))), some (.lst 63 (.pair .str (.pair (.int .i64) (.pair (.int .i64) (.pair (.int .i64) .str))))), some (.lst 63 (.pair .str (.pair (.int .i64) (.pair (.int .i64) (.pair (.int .i64) .str))))), some (.lst 63 (.pair .str (.pair (.int .i64) (.pair (.int .i64) (.pair (.int .i64) .str)))))]⟩, raw := ByteArray × List Int × Int × Int × Int × Bool × Int × Bool × Bool × Bool × Bool × Int × Int × Int × Bool × Int × Bool × Bool × Bool × Bool × Int × Int × (List (ByteArray × Int × Int)) × (List (ByteArray × Int × Int × Int × ByteArray)) × (List (ByteArray × Int × Int × Int × ByteArray)) × (List (ByteArray × Int × Int × Int × ByteArray)) × (List (ByteArray × Int × Int)) × (List (ByteArray × Int × Int × Int × ByteArray)) × (List (ByteArray × Int × Int × Int × ByteArray)) × (List (ByteArray × Int × Int × Int × ByteArray)), ret := fun y => (((y.1, ()), ((), ()), ((), ()), (y.2.1, ()), (y.2.2.1, ()), ((), (), (), ()), (y.2.2.2.1, ()), ()), ((y.2.2.2.2.1, y.2.2.2.2.2.1, y.2.2.2.2.2.2.1, y.2.2.2.2.2.2.2.1, y.2.2.2.2.2.2.2.2.1, y.2.2.2.2.2.2.2.2.2.1, y.2.2.2.2.2.2.2.2.2.2.1, y.2.2.2.2.2.2.2.2.2.2.2.1, y.2.2.2.2.2.2.2.2.2.2.2.2.1, (), (), (), (), ()), (y.2.2.2.2.2.2.2.2.2.2.2.2.2.1, y.2.2.2.2.2.2.2.2.2.2.2.2.2.2.1, y.2.2.2.2.2.2.2.2.2.2.2.2.2.2.2.1, y.2.2.2.2.2.2.2.2.2.2.2.2.2.2.2.2.1, y.2.2.2.2.2.2.2.2.2.2.2.2.2.2.2.2.2.1, y.2.2.2.2.2.2.2.2.2.2.2.2.2.2.2.2.2.2.1, y.2.2.2.2.2.2.2.2.2.2.2.2.2.2.2.2.2.2.2.1, y.2.2.2.2.2.2.2.2.2.2.2.2.2.2.2.2.2.2.2.2.1, y.2.2.2.2.2.2.2.2.2.2.2.2.2.2.2.2.2.2.2.2.2.1, (), (), (), (), ()), y.2.2.2.2.2.2.2.2.2.2.2.2.2.2.2.2.2.2.2.2.2.2.1, y.2.2.2.2.2.2.2.2.2.2.2.2.2.2.2.2.2.2.2.2.2.2.2.1, y.2.2.2.2.2.2.2.2.2.2.2.2.2.2.2.2.2.2.2.2.2.2.2.2.1, y.2.2.2.2.2.2.2.2.2.2.2.2.2.2.2.2.2.2.2.2.2.2.2.2.2.1, y.2.2.2.2.2.2.2.2.2.2.2.2.2.2.2.2.2.2.2.2.2.2.2.2.2.2.1, y.2.2.2.2.2.2.2.2.2.2.2.2.2.2.2.2.2.2.2.2.2.2.2.2.2.2.2.1, y.2.2.2.2.2.2.2.2.2.2.2.2.2.2.2.2.2.2.2.2.2.2.2.2.2.2.2.2.1, y.2.2.2.2.2.2.2.2.2.2.2.2.2.2.2.2.2.2.2.2.2.2.2.2.2.2.2.2.2, ())), un := fun z => (z.1.1.1, z.1.2.2.2.1.1, z.1.2.2.2.2.1.1, z.1.2.2.2.2.2.2.1.1, z.2.1.1, z.2.1.2.1, z.2.1.2.2.1, z.2.1.2.2.2.1, z.2.1.2.2.2.2.1, z.2.1.2.2.2.2.2.1, z.2.1.2.2.2.2.2.2.1, z.2.1.2.2.2.2.2.2.2.1, z.2.1.2.2.2.2.2.2.2.2.1, z.2.2.1.1, z.2.2.1.2.1, z.2.2.1.2.2.1, z.2.2.1.2.2.2.1, z.2.2.1.2.2.2.2.1, z.2.2.1.2.2.2.2.2.1, z.2.2.1.2.2.2.2.2.2.1, z.2.2.1.2.2.2.2.2.2.2.1, z.2.2.1.2.2.2.2.2.2.2.2.1, z.2.2.2.1, z.2.2.2.2.1, z.2.2.2.2.2.1, z.2.2.2.2.2.2.1, z.2.2.2.2.2.2.2.1, z.2.2.2.2.2.2.2.2.1, z.2.2.2.2.2.2.2.2.2.1, z.2.2.2.2.2.2.2.2.2.2.1) }]
noncomputable def g21.m16 (k : Nat) (x : g21.n16.X) : Option (SumR g21.x16) := g21.l16 k x.1.1.1 x.1.2.2.2.1.1 x.1.2.2.2.2.1.1 x.1.2.2.2.2.2.2.2.1.1 x.1.2.2.2.2.2.2.2.2.1.1 x.1.2.2.2.2.2.2.2.2.2.1.1 x.2.1.1 x.2.1.2.1 x.2.1.2.2.1 x.2.1.2.2.2.1 x.2.1.2.2.2.2.1 x.2.1.2.2.2.2.2.1 x.2.1.2.2.2.2.2.2.1 x.2.1.2.2.2.2.2.2.2.1 x.2.1.2.2.2.2.2.2.2.2.1 x.2.2.1.1 x.2.2.1.2.1 x.2.2.1.2.2.1 x.2.2.1.2.2.2.1 x.2.2.1.2.2.2.2.1 x.2.2.1.2.2.2.2.2.1 x.2.2.1.2.2.2.2.2.2.1 x.2.2.1.2.2.2.2.2.2.2.1 x.2.2.1.2.2.2.2.2.2.2.2.1 x.2.2.2.1 x.2.2.2.2.1 x.2.2.2.2.2.1 x.2.2.2.2.2.2.1 x.2.2.2.2.2.2.2.1 x.2.2.2.2.2.2.2.2.1 x.2.2.2.2.2.2.2.2.2.1 x.2.2.2.2.2.2.2.2.2.2.1
noncomputable def g21.L16 : LSpec := { id := 16, n := g21.n16, exits := g21.x16, sem := g21.m16 9223372036854775808 }
theorem g21.e16 : ∀ k x, g21.m16 (k + 1) x = roundS Try.prog kap g21.G [] (loopAt Try.f21 16) 88 0 g21.n16 g21.x16 (g21.m16 k) x := fun k x => by kernel_rfl
theorem g21.k16 : LOk Try.prog 0 88 g21.L16 (loopAt Try.f21 16) := LOk.of (κ := kap) (l := g21.L16) g21.G_ok follows (L := []) (lam_by (fn := Try.f21) (by kernel_rfl) lamAll_nil) g21.m16 (unAll_cons (fun _ => rfl) (unAll_cons (fun _ => rfl) unAll_nil)) (fun _ => rfl) g21.e16 9223372036854775808 rfl
noncomputable def g21.s16v1 (again : ByteArray → List Int → Int → Int → Int → Int → Int → Bool → Int → Bool → Bool → Bool → Bool → Int → Int → Int → Bool → Int → Bool → Bool → Bool → Bool → Int → Int → List (ByteArray × Int × Int) → List (ByteArray × Int × Int × Int × ByteArray) → List (ByteArray × Int × Int × Int × ByteArray) → List (ByteArray × Int × Int × Int × ByteArray) → List (ByteArray × Int × Int) → List (ByteArray × Int × Int × Int × ByteArray) → List (ByteArray × Int × Int × Int × ByteArray) → List (ByteArray × Int × Int × Int × ByteArray) → Option ((Int × Int × Bool × Int × Bool × Bool × Bool × Bool × Int × Int × (List (ByteArray × Int × Int)) × (List (ByteArray × Int × Int × Int × ByteArray)) × (List (ByteArray × Int × Int × Int × ByteArray)) × (List (ByteArray × Int × Int × Int × ByteArray))) ⊕ (ByteArray × List Int × Int × Int × Int × Bool × Int × Bool × Bool × Bool × Bool × Int × Int × Int × Bool × Int × Bool × Bool × Bool × Bool × Int × Int × (List (ByteArray × Int × Int)) × (List (ByteArray × Int × Int × Int × ByteArray)) × (List (ByteArray × Int × Int × Int × ByteArray)) × (List (ByteArray × Int × Int × Int × ByteArray)) × (List (ByteArray × Int × Int)) × (List (ByteArray × Int × Int × Int × ByteArray)) × (List (ByteArray × Int × Int × Int × ByteArray)) × (List (ByteArray × Int × Int × Int × ByteArray))))) (a0 : ByteArray) (a1 : List Int) (a2 : Int) (a3 : Int) (a4 : Int) (a5 : Int) (a6 : Int) (a7 : Bool) (a8 : Int) (a9 : Bool) (a10 : Bool) (a11 : Bool) (a12 : Bool) (a13 : Int) (a14 : Int) (a15 : Int) (a16 : Bool) (a17 : Int) (a18 : Bool) (a19 : Bool) (a20 : Bool) (a21 : Bool) (a22 : Int) (a23 : Int) (a24 : List (ByteArray × Int × Int)) (a25 : List (ByteArray × Int × Int × Int × ByteArray)) (a26 : List (ByteArray × Int × Int × Int × ByteArray)) (a27 : List (ByteArray × Int × Int × Int × ByteArray)) (a28 : List (ByteArray × Int × Int)) (a29 : List (ByteArray × Int × Int × Int × ByteArray)) (a30 : List (ByteArray × Int × Int × Int × ByteArray)) (a31 : List (ByteArray × Int × Int × Int × ByteArray)) : Option ((Int × Int × Bool × Int × Bool × Bool × Bool × Bool × Int × Int × (List (ByteArray × Int × Int)) × (List (ByteArray × Int × Int × Int × ByteArray)) × (List (ByteArray × Int × Int × Int × ByteArray)) × (List (ByteArray × Int × Int × Int × ByteArray))) ⊕ (ByteArray × List Int × Int × Int × Int × Bool × Int × Bool × Bool × Bool × Bool × Int × Int × Int × Bool × Int × Bool × Bool × Bool × Bool × Int × Int × (List (ByteArray × Int × Int)) × (List (ByteArray × Int × Int × Int × ByteArray)) × (List (ByteArray × Int × Int × Int × ByteArray)) × (List (ByteArray × Int × Int × Int × ByteArray)) × (List (ByteArray × Int × Int)) × (List (ByteArray × Int × Int × Int × ByteArray)) × (List (ByteArray × Int × Int × Int × ByteArray)) × (List (ByteArray × Int × Int × Int × ByteArray)))) :=
  if a5 < a4 then ((g27.f a0 a2).bind fun (y14 : (ByteArray × Int × Int × Int × ByteArray) × Int × Int) =>
   if y14.2.2 = 0 then (if nz a30.length + nz (([y14.1] : List (ByteArray × Int × Int × Int × ByteArray)).length) ≤ room Try.prog 63 then again a0 a1 y14.2.1 a3 a4 (IntKind.wrap .u64 (a5 + 1)) a6 a7 a8 a9 a10 a11 a12 a13 a14 a15 a16 a17 a18 a19 a20 a21 a22 a23 a24 a25 a26 a27 a28 a29 (a30 ++ ([y14.1] : List (ByteArray × Int × Int × Int × ByteArray))) a31 else none)
   else some (.inl (2, 0, false, 0, false, false, false, false, 0, 0, ([] : List (ByteArray × Int × Int)), ([] : List (ByteArray × Int × Int × Int × ByteArray)), ([] : List (ByteArray × Int × Int × Int × ByteArray)), ([] : List (ByteArray × Int × Int × Int × ByteArray)))))
  else some (.inr (a0, a1, a2, a3, a6, a7, a8, a9, a10, a11, a12, a13, a14, a15, a16, a17, a18, a19, a20, a21, a22, a23, a24, a25, a26, a27, a28, a29, a30, a31))
noncomputable def g21.l16v1 : Nat → ByteArray → List Int → Int → Int → Int → Int → Int → Bool → Int → Bool → Bool → Bool → Bool → Int → Int → Int → Bool → Int → Bool → Bool → Bool → Bool → Int → Int → List (ByteArray × Int × Int) → List (ByteArray × Int × Int × Int × ByteArray) → List (ByteArray × Int × Int × Int × ByteArray) → List (ByteArray × Int × Int × Int × ByteArray) → List (ByteArray × Int × Int) → List (ByteArray × Int × Int × Int × ByteArray) → List (ByteArray × Int × Int × Int × ByteArray) → List (ByteArray × Int × Int × Int × ByteArray) → Option ((Int × Int × Bool × Int × Bool × Bool × Bool × Bool × Int × Int × (List (ByteArray × Int × Int)) × (List (ByteArray × Int × Int × Int × ByteArray)) × (List (ByteArray × Int × Int × Int × ByteArray)) × (List (ByteArray × Int × Int × Int × ByteArray))) ⊕ (ByteArray × List Int × Int × Int × Int × Bool × Int × Bool × Bool × Bool × Bool × Int × Int × Int × Bool × Int × Bool × Bool × Bool × Bool × Int × Int × (List (ByteArray × Int × Int)) × (List (ByteArray × Int × Int × Int × ByteArray)) × (List (ByteArray × Int × Int × Int × ByteArray)) × (List (ByteArray × Int × Int × Int × ByteArray)) × (List (ByteArray × Int × Int)) × (List (ByteArray × Int × Int × Int × ByteArray)) × (List (ByteArray × Int × Int × Int × ByteArray)) × (List (ByteArray × Int × Int × Int × ByteArray))))
  | 0, _, _, _, _, _, _, _, _, _, _, _, _, _, _, _, _, _, _, _, _, _, _, _, _, _, _, _, _, _, _, _, _ => none
  | k + 1, a0, a1, a2, a3, a4, a5, a6, a7, a8, a9, a10, a11, a12, a13, a14, a15, a16, a17, a18, a19, a20, a21, a22, a23, a24, a25, a26, a27, a28, a29, a30, a31 => g21.s16v1 (g21.l16v1 k) a0 a1 a2 a3 a4 a5 a6 a7 a8 a9 a10 a11 a12 a13 a14 a15 a16 a17 a18 a19 a20 a21 a22 a23 a24 a25 a26 a27 a28 a29 a30 a31
def g21.n16v1 : Norm := ⟨[0, 2, 4, 5, 7, 12, 49, 50, 58, 59], [(false, [.k .str]), (false, [.ptr 0 0]), (false, [.ptr 1 0]), (false, [.k (.list 57 (.int .u64))]), (false, [.k (.int .i64)]), (false, [.ptr 1 11]), (true, [.ptr 1 10, .ptr 1 11, .ptr 1 12]), (false, [.k (.int .i64)]), (false, [.k (.int .u64)]), (false, [.k (.int .u64)])], [some (.cells [.k (.int .i64), .k .bool, .k (.int .i64), .k .bool, .k .bool, .k .bool, .k .bool, .k (.int .i64), .k (.int .i64), .sl 2, .sl 3, .sl 4, .sl 5] 45), some (.cells [.k (.int .i64), .k .bool, .k (.int .i64), .k .bool, .k .bool, .k .bool, .k .bool, .k (.int .i64), .k (.int .i64), .sl 6, .sl 7, .sl 8, .sl 9] 45), some (.lst 71 (.pair .str (.pair (.int .i64) (.int .i64)))), some (.lst 63 (.pair .str (.pair (.int .i64) (.pair (.int .i64) (.pair (.int .i64) .str))))), some (.lst 63 (.pair .str (.pair (.int .i64) (.pair (.int .i64) (.pair (.int .i64) .str))))), some (.lst 63 (.pair .str (.pair (.int .i64) (.pair (.int .i64) (.pair (.int .i64) .str))))), some (.lst 71 (.pair .str (.pair (.int .i64) (.int .i64)))), some (.lst 63 (.pair .str (.pair (.int .i64) (.pair (.int .i64) (.pair (.int .i64) .str))))), some (.lst 63 (.pair .str (.pair (.int .i64) (.pair (.int .i64) (.pair (.int .i64) .str))))), some (.lst 63 (.pair .str (.pair (.int .i64) (.pair (.int .i64) (.pair (.int .i64) .str)))))]⟩
def g21.x16v1 : List ExitS := [{ e := .ret, n := ⟨[2, 3], [(false, [.ptr 0 0]), (false, [.k (.int .i64)])], [some (.cells [.k (.int .i64), .k .bool, .k (.int .i64), .k .bool, .k .bool, .k .bool, .k .bool, .k (.int .i64), .k (.int .i64), .sl 1, .sl 2, .sl 3, .sl 4] 45), some (.lst 71 (.pair .str (.pair (.int .i64) (.int .i64)))), some (.lst 63 (.pair .str (.pair (.int .i64) (.pair (.int .i64) (.pair (.int .i64) .str))))), some (.lst 63 (.pair .str (.pair (.int .i64) (.pair (.int .i64) (.pair (.int .i64) .str))))), some (.lst 63 (.pair .str (.pair (.int .i64) (.pair (.int .i64) (.pair (.int .i64) .str)))))]⟩, raw := Int × Int × Bool × Int × Bool × Bool × Bool × Bool × Int × Int × (List (ByteArray × Int × Int)) × (List (ByteArray × Int × Int × Int × ByteArray)) × (List (ByteArray × Int × Int × Int × ByteArray)) × (List (ByteArray × Int × Int × Int × ByteArray)), ret := fun y => ((((), ()), (y.1, ()), ()), ((y.2.1, y.2.2.1, y.2.2.2.1, y.2.2.2.2.1, y.2.2.2.2.2.1, y.2.2.2.2.2.2.1, y.2.2.2.2.2.2.2.1, y.2.2.2.2.2.2.2.2.1, y.2.2.2.2.2.2.2.2.2.1, (), (), (), (), ()), y.2.2.2.2.2.2.2.2.2.2.1, y.2.2.2.2.2.2.2.2.2.2.2.1, y.2.2.2.2.2.2.2.2.2.2.2.2.1, y.2.2.2.2.2.2.2.2.2.2.2.2.2, ())), un := fun z => (z.1.2.1.1, z.2.1.1, z.2.1.2.1, z.2.1.2.2.1, z.2.1.2.2.2.1, z.2.1.2.2.2.2.1, z.2.1.2.2.2.2.2.1, z.2.1.2.2.2.2.2.2.1, z.2.1.2.2.2.2.2.2.2.1, z.2.1.2.2.2.2.2.2.2.2.1, z.2.2.1, z.2.2.2.1, z.2.2.2.2.1, z.2.2.2.2.2.1) },
  { e := .exit 4, n := ⟨[0, 2, 4, 5, 7, 49, 50], [(false, [.k .str]), (false, [.ptr 0 0]), (false, [.ptr 1 0]), (false, [.k (.list 57 (.int .u64))]), (false, [.k (.int .i64)]), (true, [.ptr 1 10, .ptr 1 11, .ptr 1 12]), (false, [.k (.int .i64)])], [some (.cells [.k (.int .i64), .k .bool, .k (.int .i64), .k .bool, .k .bool, .k .bool, .k .bool, .k (.int .i64), .k (.int .i64), .sl 2, .sl 3, .sl 4, .sl 5] 45), some (.cells [.k (.int .i64), .k .bool, .k (.int .i64), .k .bool, .k .bool, .k .bool, .k .bool, .k (.int .i64), .k (.int .i64), .sl 6, .sl 7, .sl 8, .sl 9] 45), some (.lst 71 (.pair .str (.pair (.int .i64) (.int .i64)))), some (.lst 63 (.pair .str (.pair (.int .i64) (.pair (.int .i64) (.pair (.int .i64) .str))))), some (.lst 63 (.pair .str (.pair (.int .i64) (.pair (.int .i64) (.pair (.int .i64) .str))))), some (.lst 63 (.pair .str (.pair (.int .i64) (.pair (.int .i64) (.pair (.int .i64) .str))))), some (.lst 71 (.pair .str (.pair (.int .i64) (.int .i64)))), some (.lst 63 (.pair .str (.pair (.int .i64) (.pair (.int .i64) (.pair (.int .i64) .str))))), some (.lst 63 (.pair .str (.pair (.int .i64) (.pair (.int .i64) (.pair (.int .i64) .str))))), some (.lst 63 (.pair .str (.pair (.int .i64) (.pair (.int .i64) (.pair (.int .i64) .str)))))]⟩, raw := ByteArray × List Int × Int × Int × Int × Bool × Int × Bool × Bool × Bool × Bool × Int × Int × Int × Bool × Int × Bool × Bool × Bool × Bool × Int × Int × (List (ByteArray × Int × Int)) × (List (ByteArray × Int × Int × Int × ByteArray)) × (List (ByteArray × Int × Int × Int × ByteArray)) × (List (ByteArray × Int × Int × Int × ByteArray)) × (List (ByteArray × Int × Int)) × (List (ByteArray × Int × Int × Int × ByteArray)) × (List (ByteArray × Int × Int × Int × ByteArray)) × (List (ByteArray × Int × Int × Int × ByteArray)), ret := fun y => (((y.1, ()), ((), ()), ((), ()), (y.2.1, ()), (y.2.2.1, ()), ((), (), (), ()), (y.2.2.2.1, ()), ()), ((y.2.2.2.2.1, y.2.2.2.2.2.1, y.2.2.2.2.2.2.1, y.2.2.2.2.2.2.2.1, y.2.2.2.2.2.2.2.2.1, y.2.2.2.2.2.2.2.2.2.1, y.2.2.2.2.2.2.2.2.2.2.1, y.2.2.2.2.2.2.2.2.2.2.2.1, y.2.2.2.2.2.2.2.2.2.2.2.2.1, (), (), (), (), ()), (y.2.2.2.2.2.2.2.2.2.2.2.2.2.1, y.2.2.2.2.2.2.2.2.2.2.2.2.2.2.1, y.2.2.2.2.2.2.2.2.2.2.2.2.2.2.2.1, y.2.2.2.2.2.2.2.2.2.2.2.2.2.2.2.2.1, y.2.2.2.2.2.2.2.2.2.2.2.2.2.2.2.2.2.1, y.2.2.2.2.2.2.2.2.2.2.2.2.2.2.2.2.2.2.1, y.2.2.2.2.2.2.2.2.2.2.2.2.2.2.2.2.2.2.2.1, y.2.2.2.2.2.2.2.2.2.2.2.2.2.2.2.2.2.2.2.2.1, y.2.2.2.2.2.2.2.2.2.2.2.2.2.2.2.2.2.2.2.2.2.1, (), (), (), (), ()), y.2.2.2.2.2.2.2.2.2.2.2.2.2.2.2.2.2.2.2.2.2.2.1, y.2.2.2.2.2.2.2.2.2.2.2.2.2.2.2.2.2.2.2.2.2.2.2.1, y.2.2.2.2.2.2.2.2.2.2.2.2.2.2.2.2.2.2.2.2.2.2.2.2.1, y.2.2.2.2.2.2.2.2.2.2.2.2.2.2.2.2.2.2.2.2.2.2.2.2.2.1, y.2.2.2.2.2.2.2.2.2.2.2.2.2.2.2.2.2.2.2.2.2.2.2.2.2.2.1, y.2.2.2.2.2.2.2.2.2.2.2.2.2.2.2.2.2.2.2.2.2.2.2.2.2.2.2.1, y.2.2.2.2.2.2.2.2.2.2.2.2.2.2.2.2.2.2.2.2.2.2.2.2.2.2.2.2.1, y.2.2.2.2.2.2.2.2.2.2.2.2.2.2.2.2.2.2.2.2.2.2.2.2.2.2.2.2.2, ())), un := fun z => (z.1.1.1, z.1.2.2.2.1.1, z.1.2.2.2.2.1.1, z.1.2.2.2.2.2.2.1.1, z.2.1.1, z.2.1.2.1, z.2.1.2.2.1, z.2.1.2.2.2.1, z.2.1.2.2.2.2.1, z.2.1.2.2.2.2.2.1, z.2.1.2.2.2.2.2.2.1, z.2.1.2.2.2.2.2.2.2.1, z.2.1.2.2.2.2.2.2.2.2.1, z.2.2.1.1, z.2.2.1.2.1, z.2.2.1.2.2.1, z.2.2.1.2.2.2.1, z.2.2.1.2.2.2.2.1, z.2.2.1.2.2.2.2.2.1, z.2.2.1.2.2.2.2.2.2.1, z.2.2.1.2.2.2.2.2.2.2.1, z.2.2.1.2.2.2.2.2.2.2.2.1, z.2.2.2.1, z.2.2.2.2.1, z.2.2.2.2.2.1, z.2.2.2.2.2.2.1, z.2.2.2.2.2.2.2.1, z.2.2.2.2.2.2.2.2.1, z.2.2.2.2.2.2.2.2.2.1, z.2.2.2.2.2.2.2.2.2.2.1) }]
noncomputable def g21.m16v1 (k : Nat) (x : g21.n16v1.X) : Option (SumR g21.x16v1) := g21.l16v1 k x.1.1.1 x.1.2.2.2.1.1 x.1.2.2.2.2.1.1 x.1.2.2.2.2.2.2.2.1.1 x.1.2.2.2.2.2.2.2.2.1.1 x.1.2.2.2.2.2.2.2.2.2.1.1 x.2.1.1 x.2.1.2.1 x.2.1.2.2.1 x.2.1.2.2.2.1 x.2.1.2.2.2.2.1 x.2.1.2.2.2.2.2.1 x.2.1.2.2.2.2.2.2.1 x.2.1.2.2.2.2.2.2.2.1 x.2.1.2.2.2.2.2.2.2.2.1 x.2.2.1.1 x.2.2.1.2.1 x.2.2.1.2.2.1 x.2.2.1.2.2.2.1 x.2.2.1.2.2.2.2.1 x.2.2.1.2.2.2.2.2.1 x.2.2.1.2.2.2.2.2.2.1 x.2.2.1.2.2.2.2.2.2.2.1 x.2.2.1.2.2.2.2.2.2.2.2.1 x.2.2.2.1 x.2.2.2.2.1 x.2.2.2.2.2.1 x.2.2.2.2.2.2.1 x.2.2.2.2.2.2.2.1 x.2.2.2.2.2.2.2.2.1 x.2.2.2.2.2.2.2.2.2.1 x.2.2.2.2.2.2.2.2.2.2.1
noncomputable def g21.L16v1 : LSpec := { id := 16, n := g21.n16v1, exits := g21.x16v1, sem := g21.m16v1 9223372036854775808 }
theorem g21.e16v1 : ∀ k x, g21.m16v1 (k + 1) x = roundS Try.prog kap g21.G [] (loopAt Try.f21 16) 88 0 g21.n16v1 g21.x16v1 (g21.m16v1 k) x := fun k x => by kernel_rfl
theorem g21.k16v1 : LOk Try.prog 0 88 g21.L16v1 (loopAt Try.f21 16) := LOk.of (κ := kap) (l := g21.L16v1) g21.G_ok follows (L := []) (lam_by (fn := Try.f21) (by kernel_rfl) lamAll_nil) g21.m16v1 (unAll_cons (fun _ => rfl) (unAll_cons (fun _ => rfl) unAll_nil)) (fun _ => rfl) g21.e16v1 9223372036854775808 rfl
noncomputable def g21.s16v2 (again : ByteArray → List Int → Int → Int → Int → Int → Int → Bool → Int → Bool → Bool → Bool → Bool → Int → Int → Int → Bool → Int → Bool → Bool → Bool → Bool → Int → Int → List (ByteArray × Int × Int) → List (ByteArray × Int × Int × Int × ByteArray) → List (ByteArray × Int × Int × Int × ByteArray) → List (ByteArray × Int × Int × Int × ByteArray) → List (ByteArray × Int × Int) → List (ByteArray × Int × Int × Int × ByteArray) → List (ByteArray × Int × Int × Int × ByteArray) → List (ByteArray × Int × Int × Int × ByteArray) → Option ((Int × Int × Bool × Int × Bool × Bool × Bool × Bool × Int × Int × (List (ByteArray × Int × Int)) × (List (ByteArray × Int × Int × Int × ByteArray)) × (List (ByteArray × Int × Int × Int × ByteArray)) × (List (ByteArray × Int × Int × Int × ByteArray))) ⊕ (ByteArray × List Int × Int × Int × Int × Bool × Int × Bool × Bool × Bool × Bool × Int × Int × Int × Bool × Int × Bool × Bool × Bool × Bool × Int × Int × (List (ByteArray × Int × Int)) × (List (ByteArray × Int × Int × Int × ByteArray)) × (List (ByteArray × Int × Int × Int × ByteArray)) × (List (ByteArray × Int × Int × Int × ByteArray)) × (List (ByteArray × Int × Int)) × (List (ByteArray × Int × Int × Int × ByteArray)) × (List (ByteArray × Int × Int × Int × ByteArray)) × (List (ByteArray × Int × Int × Int × ByteArray))))) (a0 : ByteArray) (a1 : List Int) (a2 : Int) (a3 : Int) (a4 : Int) (a5 : Int) (a6 : Int) (a7 : Bool) (a8 : Int) (a9 : Bool) (a10 : Bool) (a11 : Bool) (a12 : Bool) (a13 : Int) (a14 : Int) (a15 : Int) (a16 : Bool) (a17 : Int) (a18 : Bool) (a19 : Bool) (a20 : Bool) (a21 : Bool) (a22 : Int) (a23 : Int) (a24 : List (ByteArray × Int × Int)) (a25 : List (ByteArray × Int × Int × Int × ByteArray)) (a26 : List (ByteArray × Int × Int × Int × ByteArray)) (a27 : List (ByteArray × Int × Int × Int × ByteArray)) (a28 : List (ByteArray × Int × Int)) (a29 : List (ByteArray × Int × Int × Int × ByteArray)) (a30 : List (ByteArray × Int × Int × Int × ByteArray)) (a31 : List (ByteArray × Int × Int × Int × ByteArray)) : Option ((Int × Int × Bool × Int × Bool × Bool × Bool × Bool × Int × Int × (List (ByteArray × Int × Int)) × (List (ByteArray × Int × Int × Int × ByteArray)) × (List (ByteArray × Int × Int × Int × ByteArray)) × (List (ByteArray × Int × Int × Int × ByteArray))) ⊕ (ByteArray × List Int × Int × Int × Int × Bool × Int × Bool × Bool × Bool × Bool × Int × Int × Int × Bool × Int × Bool × Bool × Bool × Bool × Int × Int × (List (ByteArray × Int × Int)) × (List (ByteArray × Int × Int × Int × ByteArray)) × (List (ByteArray × Int × Int × Int × ByteArray)) × (List (ByteArray × Int × Int × Int × ByteArray)) × (List (ByteArray × Int × Int)) × (List (ByteArray × Int × Int × Int × ByteArray)) × (List (ByteArray × Int × Int × Int × ByteArray)) × (List (ByteArray × Int × Int × Int × ByteArray)))) :=
  if a5 < a4 then ((g27.f a0 a2).bind fun (y19 : (ByteArray × Int × Int × Int × ByteArray) × Int × Int) =>
   if y19.2.2 = 0 then (if nz a31.length + nz (([y19.1] : List (ByteArray × Int × Int × Int × ByteArray)).length) ≤ room Try.prog 63 then again a0 a1 y19.2.1 a3 a4 (IntKind.wrap .u64 (a5 + 1)) a6 a7 a8 a9 a10 a11 a12 a13 a14 a15 a16 a17 a18 a19 a20 a21 a22 a23 a24 a25 a26 a27 a28 a29 a30 (a31 ++ ([y19.1] : List (ByteArray × Int × Int × Int × ByteArray))) else none)
   else some (.inl (2, 0, false, 0, false, false, false, false, 0, 0, ([] : List (ByteArray × Int × Int)), ([] : List (ByteArray × Int × Int × Int × ByteArray)), ([] : List (ByteArray × Int × Int × Int × ByteArray)), ([] : List (ByteArray × Int × Int × Int × ByteArray)))))
  else some (.inr (a0, a1, a2, a3, a6, a7, a8, a9, a10, a11, a12, a13, a14, a15, a16, a17, a18, a19, a20, a21, a22, a23, a24, a25, a26, a27, a28, a29, a30, a31))
noncomputable def g21.l16v2 : Nat → ByteArray → List Int → Int → Int → Int → Int → Int → Bool → Int → Bool → Bool → Bool → Bool → Int → Int → Int → Bool → Int → Bool → Bool → Bool → Bool → Int → Int → List (ByteArray × Int × Int) → List (ByteArray × Int × Int × Int × ByteArray) → List (ByteArray × Int × Int × Int × ByteArray) → List (ByteArray × Int × Int × Int × ByteArray) → List (ByteArray × Int × Int) → List (ByteArray × Int × Int × Int × ByteArray) → List (ByteArray × Int × Int × Int × ByteArray) → List (ByteArray × Int × Int × Int × ByteArray) → Option ((Int × Int × Bool × Int × Bool × Bool × Bool × Bool × Int × Int × (List (ByteArray × Int × Int)) × (List (ByteArray × Int × Int × Int × ByteArray)) × (List (ByteArray × Int × Int × Int × ByteArray)) × (List (ByteArray × Int × Int × Int × ByteArray))) ⊕ (ByteArray × List Int × Int × Int × Int × Bool × Int × Bool × Bool × Bool × Bool × Int × Int × Int × Bool × Int × Bool × Bool × Bool × Bool × Int × Int × (List (ByteArray × Int × Int)) × (List (ByteArray × Int × Int × Int × ByteArray)) × (List (ByteArray × Int × Int × Int × ByteArray)) × (List (ByteArray × Int × Int × Int × ByteArray)) × (List (ByteArray × Int × Int)) × (List (ByteArray × Int × Int × Int × ByteArray)) × (List (ByteArray × Int × Int × Int × ByteArray)) × (List (ByteArray × Int × Int × Int × ByteArray))))
  | 0, _, _, _, _, _, _, _, _, _, _, _, _, _, _, _, _, _, _, _, _, _, _, _, _, _, _, _, _, _, _, _, _ => none
  | k + 1, a0, a1, a2, a3, a4, a5, a6, a7, a8, a9, a10, a11, a12, a13, a14, a15, a16, a17, a18, a19, a20, a21, a22, a23, a24, a25, a26, a27, a28, a29, a30, a31 => g21.s16v2 (g21.l16v2 k) a0 a1 a2 a3 a4 a5 a6 a7 a8 a9 a10 a11 a12 a13 a14 a15 a16 a17 a18 a19 a20 a21 a22 a23 a24 a25 a26 a27 a28 a29 a30 a31
def g21.n16v2 : Norm := ⟨[0, 2, 4, 5, 7, 12, 49, 50, 58, 59], [(false, [.k .str]), (false, [.ptr 0 0]), (false, [.ptr 1 0]), (false, [.k (.list 57 (.int .u64))]), (false, [.k (.int .i64)]), (false, [.ptr 1 12]), (true, [.ptr 1 10, .ptr 1 11, .ptr 1 12]), (false, [.k (.int .i64)]), (false, [.k (.int .u64)]), (false, [.k (.int .u64)])], [some (.cells [.k (.int .i64), .k .bool, .k (.int .i64), .k .bool, .k .bool, .k .bool, .k .bool, .k (.int .i64), .k (.int .i64), .sl 2, .sl 3, .sl 4, .sl 5] 45), some (.cells [.k (.int .i64), .k .bool, .k (.int .i64), .k .bool, .k .bool, .k .bool, .k .bool, .k (.int .i64), .k (.int .i64), .sl 6, .sl 7, .sl 8, .sl 9] 45), some (.lst 71 (.pair .str (.pair (.int .i64) (.int .i64)))), some (.lst 63 (.pair .str (.pair (.int .i64) (.pair (.int .i64) (.pair (.int .i64) .str))))), some (.lst 63 (.pair .str (.pair (.int .i64) (.pair (.int .i64) (.pair (.int .i64) .str))))), some (.lst 63 (.pair .str (.pair (.int .i64) (.pair (.int .i64) (.pair (.int .i64) .str))))), some (.lst 71 (.pair .str (.pair (.int .i64) (.int .i64)))), some (.lst 63 (.pair .str (.pair (.int .i64) (.pair (.int .i64) (.pair (.int .i64) .str))))), some (.lst 63 (.pair .str (.pair (.int .i64) (.pair (.int .i64) (.pair (.int .i64) .str))))), some (.lst 63 (.pair .str (.pair (.int .i64) (.pair (.int .i64) (.pair (.int .i64) .str)))))]⟩
def g21.x16v2 : List ExitS := [{ e := .ret, n := ⟨[2, 3], [(false, [.ptr 0 0]), (false, [.k (.int .i64)])], [some (.cells [.k (.int .i64), .k .bool, .k (.int .i64), .k .bool, .k .bool, .k .bool, .k .bool, .k (.int .i64), .k (.int .i64), .sl 1, .sl 2, .sl 3, .sl 4] 45), some (.lst 71 (.pair .str (.pair (.int .i64) (.int .i64)))), some (.lst 63 (.pair .str (.pair (.int .i64) (.pair (.int .i64) (.pair (.int .i64) .str))))), some (.lst 63 (.pair .str (.pair (.int .i64) (.pair (.int .i64) (.pair (.int .i64) .str))))), some (.lst 63 (.pair .str (.pair (.int .i64) (.pair (.int .i64) (.pair (.int .i64) .str)))))]⟩, raw := Int × Int × Bool × Int × Bool × Bool × Bool × Bool × Int × Int × (List (ByteArray × Int × Int)) × (List (ByteArray × Int × Int × Int × ByteArray)) × (List (ByteArray × Int × Int × Int × ByteArray)) × (List (ByteArray × Int × Int × Int × ByteArray)), ret := fun y => ((((), ()), (y.1, ()), ()), ((y.2.1, y.2.2.1, y.2.2.2.1, y.2.2.2.2.1, y.2.2.2.2.2.1, y.2.2.2.2.2.2.1, y.2.2.2.2.2.2.2.1, y.2.2.2.2.2.2.2.2.1, y.2.2.2.2.2.2.2.2.2.1, (), (), (), (), ()), y.2.2.2.2.2.2.2.2.2.2.1, y.2.2.2.2.2.2.2.2.2.2.2.1, y.2.2.2.2.2.2.2.2.2.2.2.2.1, y.2.2.2.2.2.2.2.2.2.2.2.2.2, ())), un := fun z => (z.1.2.1.1, z.2.1.1, z.2.1.2.1, z.2.1.2.2.1, z.2.1.2.2.2.1, z.2.1.2.2.2.2.1, z.2.1.2.2.2.2.2.1, z.2.1.2.2.2.2.2.2.1, z.2.1.2.2.2.2.2.2.2.1, z.2.1.2.2.2.2.2.2.2.2.1, z.2.2.1, z.2.2.2.1, z.2.2.2.2.1, z.2.2.2.2.2.1) },
  { e := .exit 4, n := ⟨[0, 2, 4, 5, 7, 49, 50], [(false, [.k .str]), (false, [.ptr 0 0]), (false, [.ptr 1 0]), (false, [.k (.list 57 (.int .u64))]), (false, [.k (.int .i64)]), (true, [.ptr 1 10, .ptr 1 11, .ptr 1 12]), (false, [.k (.int .i64)])], [some (.cells [.k (.int .i64), .k .bool, .k (.int .i64), .k .bool, .k .bool, .k .bool, .k .bool, .k (.int .i64), .k (.int .i64), .sl 2, .sl 3, .sl 4, .sl 5] 45), some (.cells [.k (.int .i64), .k .bool, .k (.int .i64), .k .bool, .k .bool, .k .bool, .k .bool, .k (.int .i64), .k (.int .i64), .sl 6, .sl 7, .sl 8, .sl 9] 45), some (.lst 71 (.pair .str (.pair (.int .i64) (.int .i64)))), some (.lst 63 (.pair .str (.pair (.int .i64) (.pair (.int .i64) (.pair (.int .i64) .str))))), some (.lst 63 (.pair .str (.pair (.int .i64) (.pair (.int .i64) (.pair (.int .i64) .str))))), some (.lst 63 (.pair .str (.pair (.int .i64) (.pair (.int .i64) (.pair (.int .i64) .str))))), some (.lst 71 (.pair .str (.pair (.int .i64) (.int .i64)))), some (.lst 63 (.pair .str (.pair (.int .i64) (.pair (.int .i64) (.pair (.int .i64) .str))))), some (.lst 63 (.pair .str (.pair (.int .i64) (.pair (.int .i64) (.pair (.int .i64) .str))))), some (.lst 63 (.pair .str (.pair (.int .i64) (.pair (.int .i64) (.pair (.int .i64) .str)))))]⟩, raw := ByteArray × List Int × Int × Int × Int × Bool × Int × Bool × Bool × Bool × Bool × Int × Int × Int × Bool × Int × Bool × Bool × Bool × Bool × Int × Int × (List (ByteArray × Int × Int)) × (List (ByteArray × Int × Int × Int × ByteArray)) × (List (ByteArray × Int × Int × Int × ByteArray)) × (List (ByteArray × Int × Int × Int × ByteArray)) × (List (ByteArray × Int × Int)) × (List (ByteArray × Int × Int × Int × ByteArray)) × (List (ByteArray × Int × Int × Int × ByteArray)) × (List (ByteArray × Int × Int × Int × ByteArray)), ret := fun y => (((y.1, ()), ((), ()), ((), ()), (y.2.1, ()), (y.2.2.1, ()), ((), (), (), ()), (y.2.2.2.1, ()), ()), ((y.2.2.2.2.1, y.2.2.2.2.2.1, y.2.2.2.2.2.2.1, y.2.2.2.2.2.2.2.1, y.2.2.2.2.2.2.2.2.1, y.2.2.2.2.2.2.2.2.2.1, y.2.2.2.2.2.2.2.2.2.2.1, y.2.2.2.2.2.2.2.2.2.2.2.1, y.2.2.2.2.2.2.2.2.2.2.2.2.1, (), (), (), (), ()), (y.2.2.2.2.2.2.2.2.2.2.2.2.2.1, y.2.2.2.2.2.2.2.2.2.2.2.2.2.2.1, y.2.2.2.2.2.2.2.2.2.2.2.2.2.2.2.1, y.2.2.2.2.2.2.2.2.2.2.2.2.2.2.2.2.1, y.2.2.2.2.2.2.2.2.2.2.2.2.2.2.2.2.2.1, y.2.2.2.2.2.2.2.2.2.2.2.2.2.2.2.2.2.2.1, y.2.2.2.2.2.2.2.2.2.2.2.2.2.2.2.2.2.2.2.1, y.2.2.2.2.2.2.2.2.2.2.2.2.2.2.2.2.2.2.2.2.1, y.2.2.2.2.2.2.2.2.2.2.2.2.2.2.2.2.2.2.2.2.2.1, (), (), (), (), ()), y.2.2.2.2.2.2.2.2.2.2.2.2.2.2.2.2.2.2.2.2.2.2.1, y.2.2.2.2.2.2.2.2.2.2.2.2.2.2.2.2.2.2.2.2.2.2.2.1, y.2.2.2.2.2.2.2.2.2.2.2.2.2.2.2.2.2.2.2.2.2.2.2.2.1, y.2.2.2.2.2.2.2.2.2.2.2.2.2.2.2.2.2.2.2.2.2.2.2.2.2.1, y.2.2.2.2.2.2.2.2.2.2.2.2.2.2.2.2.2.2.2.2.2.2.2.2.2.2.1, y.2.2.2.2.2.2.2.2.2.2.2.2.2.2.2.2.2.2.2.2.2.2.2.2.2.2.2.1, y.2.2.2.2.2.2.2.2.2.2.2.2.2.2.2.2.2.2.2.2.2.2.2.2.2.2.2.2.1, y.2.2.2.2.2.2.2.2.2.2.2.2.2.2.2.2.2.2.2.2.2.2.2.2.2.2.2.2.2, ())), un := fun z => (z.1.1.1, z.1.2.2.2.1.1, z.1.2.2.2.2.1.1, z.1.2.2.2.2.2.2.1.1, z.2.1.1, z.2.1.2.1, z.2.1.2.2.1, z.2.1.2.2.2.1, z.2.1.2.2.2.2.1, z.2.1.2.2.2.2.2.1, z.2.1.2.2.2.2.2.2.1, z.2.1.2.2.2.2.2.2.2.1, z.2.1.2.2.2.2.2.2.2.2.1, z.2.2.1.1, z.2.2.1.2.1, z.2.2.1.2.2.1, z.2.2.1.2.2.2.1, z.2.2.1.2.2.2.2.1, z.2.2.1.2.2.2.2.2.1, z.2.2.1.2.2.2.2.2.2.1, z.2.2.1.2.2.2.2.2.2.2.1, z.2.2.1.2.2.2.2.2.2.2.2.1, z.2.2.2.1, z.2.2.2.2.1, z.2.2.2.2.2.1, z.2.2.2.2.2.2.1, z.2.2.2.2.2.2.2.1, z.2.2.2.2.2.2.2.2.1, z.2.2.2.2.2.2.2.2.2.1, z.2.2.2.2.2.2.2.2.2.2.1) }]
noncomputable def g21.m16v2 (k : Nat) (x : g21.n16v2.X) : Option (SumR g21.x16v2) := g21.l16v2 k x.1.1.1 x.1.2.2.2.1.1 x.1.2.2.2.2.1.1 x.1.2.2.2.2.2.2.2.1.1 x.1.2.2.2.2.2.2.2.2.1.1 x.1.2.2.2.2.2.2.2.2.2.1.1 x.2.1.1 x.2.1.2.1 x.2.1.2.2.1 x.2.1.2.2.2.1 x.2.1.2.2.2.2.1 x.2.1.2.2.2.2.2.1 x.2.1.2.2.2.2.2.2.1 x.2.1.2.2.2.2.2.2.2.1 x.2.1.2.2.2.2.2.2.2.2.1 x.2.2.1.1 x.2.2.1.2.1 x.2.2.1.2.2.1 x.2.2.1.2.2.2.1 x.2.2.1.2.2.2.2.1 x.2.2.1.2.2.2.2.2.1 x.2.2.1.2.2.2.2.2.2.1 x.2.2.1.2.2.2.2.2.2.2.1 x.2.2.1.2.2.2.2.2.2.2.2.1 x.2.2.2.1 x.2.2.2.2.1 x.2.2.2.2.2.1 x.2.2.2.2.2.2.1 x.2.2.2.2.2.2.2.1 x.2.2.2.2.2.2.2.2.1 x.2.2.2.2.2.2.2.2.2.1 x.2.2.2.2.2.2.2.2.2.2.1
noncomputable def g21.L16v2 : LSpec := { id := 16, n := g21.n16v2, exits := g21.x16v2, sem := g21.m16v2 9223372036854775808 }
theorem g21.e16v2 : ∀ k x, g21.m16v2 (k + 1) x = roundS Try.prog kap g21.G [] (loopAt Try.f21 16) 88 0 g21.n16v2 g21.x16v2 (g21.m16v2 k) x := fun k x => by kernel_rfl
theorem g21.k16v2 : LOk Try.prog 0 88 g21.L16v2 (loopAt Try.f21 16) := LOk.of (κ := kap) (l := g21.L16v2) g21.G_ok follows (L := []) (lam_by (fn := Try.f21) (by kernel_rfl) lamAll_nil) g21.m16v2 (unAll_cons (fun _ => rfl) (unAll_cons (fun _ => rfl) unAll_nil)) (fun _ => rfl) g21.e16v2 9223372036854775808 rfl
noncomputable def g21.s13 (again : ByteArray → List Int → Int → Int → Int → Bool → Int → Bool → Bool → Bool → Bool → Int → Int → Int → Bool → Int → Bool → Bool → Bool → Bool → Int → Int → List (ByteArray × Int × Int) → List (ByteArray × Int × Int × Int × ByteArray) → List (ByteArray × Int × Int × Int × ByteArray) → List (ByteArray × Int × Int × Int × ByteArray) → List (ByteArray × Int × Int) → List (ByteArray × Int × Int × Int × ByteArray) → List (ByteArray × Int × Int × Int × ByteArray) → List (ByteArray × Int × Int × Int × ByteArray) → Option ((Int × Int × Bool × Int × Bool × Bool × Bool × Bool × Int × Int × (List (ByteArray × Int × Int)) × (List (ByteArray × Int × Int × Int × ByteArray)) × (List (ByteArray × Int × Int × Int × ByteArray)) × (List (ByteArray × Int × Int × Int × ByteArray))) ⊕ (ByteArray × Int × Int × Bool × Int × Bool × Bool × Bool × Bool × Int × Int × Int × Bool × Int × Bool × Bool × Bool × Bool × Int × Int × (List (ByteArray × Int × Int)) × (List (ByteArray × Int × Int × Int × ByteArray)) × (List (ByteArray × Int × Int × Int × ByteArray)) × (List (ByteArray × Int × Int × Int × ByteArray)) × (List (ByteArray × Int × Int)) × (List (ByteArray × Int × Int × Int × ByteArray)) × (List (ByteArray × Int × Int × Int × ByteArray)) × (List (ByteArray × Int × Int × Int × ByteArray))))) (a0 : ByteArray) (a1 : List Int) (a2 : Int) (a3 : Int) (a4 : Int) (a5 : Bool) (a6 : Int) (a7 : Bool) (a8 : Bool) (a9 : Bool) (a10 : Bool) (a11 : Int) (a12 : Int) (a13 : Int) (a14 : Bool) (a15 : Int) (a16 : Bool) (a17 : Bool) (a18 : Bool) (a19 : Bool) (a20 : Int) (a21 : Int) (a22 : List (ByteArray × Int × Int)) (a23 : List (ByteArray × Int × Int × Int × ByteArray)) (a24 : List (ByteArray × Int × Int × Int × ByteArray)) (a25 : List (ByteArray × Int × Int × Int × ByteArray)) (a26 : List (ByteArray × Int × Int)) (a27 : List (ByteArray × Int × Int × Int × ByteArray)) (a28 : List (ByteArray × Int × Int × Int × ByteArray)) (a29 : List (ByteArray × Int × Int × Int × ByteArray)) : Option ((Int × Int × Bool × Int × Bool × Bool × Bool × Bool × Int × Int × (List (ByteArray × Int × Int)) × (List (ByteArray × Int × Int × Int × ByteArray)) × (List (ByteArray × Int × Int × Int × ByteArray)) × (List (ByteArray × Int × Int × Int × ByteArray))) ⊕ (ByteArray × Int × Int × Bool × Int × Bool × Bool × Bool × Bool × Int × Int × Int × Bool × Int × Bool × Bool × Bool × Bool × Int × Int × (List (ByteArray × Int × Int)) × (List (ByteArray × Int × Int × Int × ByteArray)) × (List (ByteArray × Int × Int × Int × ByteArray)) × (List (ByteArray × Int × Int × Int × ByteArray)) × (List (ByteArray × Int × Int)) × (List (ByteArray × Int × Int × Int × ByteArray)) × (List (ByteArray × Int × Int × Int × ByteArray)) × (List (ByteArray × Int × Int × Int × ByteArray)))) :=
  if a3 < 3 then (if a3 = 0 then (if 0 ≤ (wrap64 (a3 + 1)) then if (wrap64 (a3 + 1)) < nz a1.length then (match a1[(wrap64 (a3 + 1)).toNat]? with
    | some x8 => (g21.l16 9223372036854775808 a0 a1 a2 a3 x8 0 a4 a5 a6 a7 a8 a9 a10 a11 a12 a13 a14 a15 a16 a17 a18 a19 a20 a21 a22 a23 a24 a25 a26 a27 a28 a29).bind fun (y10 : (Int × Int × Bool × Int × Bool × Bool × Bool × Bool × Int × Int × (List (ByteArray × Int × Int)) × (List (ByteArray × Int × Int × Int × ByteArray)) × (List (ByteArray × Int × Int × Int × ByteArray)) × (List (ByteArray × Int × Int × Int × ByteArray))) ⊕ (ByteArray × List Int × Int × Int × Int × Bool × Int × Bool × Bool × Bool × Bool × Int × Int × Int × Bool × Int × Bool × Bool × Bool × Bool × Int × Int × (List (ByteArray × Int × Int)) × (List (ByteArray × Int × Int × Int × ByteArray)) × (List (ByteArray × Int × Int × Int × ByteArray)) × (List (ByteArray × Int × Int × Int × ByteArray)) × (List (ByteArray × Int × Int)) × (List (ByteArray × Int × Int × Int × ByteArray)) × (List (ByteArray × Int × Int × Int × ByteArray)) × (List (ByteArray × Int × Int × Int × ByteArray)))) =>
     (match y10 with
     | .inl y11 => some (.inl y11)
     | .inr y12 => again y12.1 y12.2.1 y12.2.2.1 (wrap64 (y12.2.2.2.1 + 1)) y12.2.2.2.2.1 y12.2.2.2.2.2.1 y12.2.2.2.2.2.2.1 y12.2.2.2.2.2.2.2.1 y12.2.2.2.2.2.2.2.2.1 y12.2.2.2.2.2.2.2.2.2.1 y12.2.2.2.2.2.2.2.2.2.2.1 y12.2.2.2.2.2.2.2.2.2.2.2.1 y12.2.2.2.2.2.2.2.2.2.2.2.2.1 y12.2.2.2.2.2.2.2.2.2.2.2.2.2.1 y12.2.2.2.2.2.2.2.2.2.2.2.2.2.2.1 y12.2.2.2.2.2.2.2.2.2.2.2.2.2.2.2.1 y12.2.2.2.2.2.2.2.2.2.2.2.2.2.2.2.2.1 y12.2.2.2.2.2.2.2.2.2.2.2.2.2.2.2.2.2.1 y12.2.2.2.2.2.2.2.2.2.2.2.2.2.2.2.2.2.2.1 y12.2.2.2.2.2.2.2.2.2.2.2.2.2.2.2.2.2.2.2.1 y12.2.2.2.2.2.2.2.2.2.2.2.2.2.2.2.2.2.2.2.2.1 y12.2.2.2.2.2.2.2.2.2.2.2.2.2.2.2.2.2.2.2.2.2.1 y12.2.2.2.2.2.2.2.2.2.2.2.2.2.2.2.2.2.2.2.2.2.2.1 y12.2.2.2.2.2.2.2.2.2.2.2.2.2.2.2.2.2.2.2.2.2.2.2.1 y12.2.2.2.2.2.2.2.2.2.2.2.2.2.2.2.2.2.2.2.2.2.2.2.2.1 y12.2.2.2.2.2.2.2.2.2.2.2.2.2.2.2.2.2.2.2.2.2.2.2.2.2.1 y12.2.2.2.2.2.2.2.2.2.2.2.2.2.2.2.2.2.2.2.2.2.2.2.2.2.2.1 y12.2.2.2.2.2.2.2.2.2.2.2.2.2.2.2.2.2.2.2.2.2.2.2.2.2.2.2.1 y12.2.2.2.2.2.2.2.2.2.2.2.2.2.2.2.2.2.2.2.2.2.2.2.2.2.2.2.2.1 y12.2.2.2.2.2.2.2.2.2.2.2.2.2.2.2.2.2.2.2.2.2.2.2.2.2.2.2.2.2)
    | none => none)
    else none
    else none)
   else if a3 = 1 then (if 0 ≤ (wrap64 (a3 + 1)) then if (wrap64 (a3 + 1)) < nz a1.length then (match a1[(wrap64 (a3 + 1)).toNat]? with
    | some x13 => (g21.l16v1 9223372036854775808 a0 a1 a2 a3 x13 0 a4 a5 a6 a7 a8 a9 a10 a11 a12 a13 a14 a15 a16 a17 a18 a19 a20 a21 a22 a23 a24 a25 a26 a27 a28 a29).bind fun (y15 : (Int × Int × Bool × Int × Bool × Bool × Bool × Bool × Int × Int × (List (ByteArray × Int × Int)) × (List (ByteArray × Int × Int × Int × ByteArray)) × (List (ByteArray × Int × Int × Int × ByteArray)) × (List (ByteArray × Int × Int × Int × ByteArray))) ⊕ (ByteArray × List Int × Int × Int × Int × Bool × Int × Bool × Bool × Bool × Bool × Int × Int × Int × Bool × Int × Bool × Bool × Bool × Bool × Int × Int × (List (ByteArray × Int × Int)) × (List (ByteArray × Int × Int × Int × ByteArray)) × (List (ByteArray × Int × Int × Int × ByteArray)) × (List (ByteArray × Int × Int × Int × ByteArray)) × (List (ByteArray × Int × Int)) × (List (ByteArray × Int × Int × Int × ByteArray)) × (List (ByteArray × Int × Int × Int × ByteArray)) × (List (ByteArray × Int × Int × Int × ByteArray)))) =>
     (match y15 with
     | .inl y16 => some (.inl y16)
     | .inr y17 => again y17.1 y17.2.1 y17.2.2.1 (wrap64 (y17.2.2.2.1 + 1)) y17.2.2.2.2.1 y17.2.2.2.2.2.1 y17.2.2.2.2.2.2.1 y17.2.2.2.2.2.2.2.1 y17.2.2.2.2.2.2.2.2.1 y17.2.2.2.2.2.2.2.2.2.1 y17.2.2.2.2.2.2.2.2.2.2.1 y17.2.2.2.2.2.2.2.2.2.2.2.1 y17.2.2.2.2.2.2.2.2.2.2.2.2.1 y17.2.2.2.2.2.2.2.2.2.2.2.2.2.1 y17.2.2.2.2.2.2.2.2.2.2.2.2.2.2.1 y17.2.2.2.2.2.2.2.2.2.2.2.2.2.2.2.1 y17.2.2.2.2.2.2.2.2.2.2.2.2.2.2.2.2.1 y17.2.2.2.2.2.2.2.2.2.2.2.2.2.2.2.2.2.1 y17.2.2.2.2.2.2.2.2.2.2.2.2.2.2.2.2.2.2.1 y17.2.2.2.2.2.2.2.2.2.2.2.2.2.2.2.2.2.2.2.1 y17.2.2.2.2.2.2.2.2.2.2.2.2.2.2.2.2.2.2.2.2.1 y17.2.2.2.2.2.2.2.2.2.2.2.2.2.2.2.2.2.2.2.2.2.1 y17.2.2.2.2.2.2.2.2.2.2.2.2.2.2.2.2.2.2.2.2.2.2.1 y17.2.2.2.2.2.2.2.2.2.2.2.2.2.2.2.2.2.2.2.2.2.2.2.1 y17.2.2.2.2.2.2.2.2.2.2.2.2.2.2.2.2.2.2.2.2.2.2.2.2.1 y17.2.2.2.2.2.2.2.2.2.2.2.2.2.2.2.2.2.2.2.2.2.2.2.2.2.1 y17.2.2.2.2.2.2.2.2.2.2.2.2.2.2.2.2.2.2.2.2.2.2.2.2.2.2.1 y17.2.2.2.2.2.2.2.2.2.2.2.2.2.2.2.2.2.2.2.2.2.2.2.2.2.2.2.1 y17.2.2.2.2.2.2.2.2.2.2.2.2.2.2.2.2.2.2.2.2.2.2.2.2.2.2.2.2.1 y17.2.2.2.2.2.2.2.2.2.2.2.2.2.2.2.2.2.2.2.2.2.2.2.2.2.2.2.2.2)
    | none => none)
    else none
    else none)
   else if a3 = 2 then if 0 ≤ (wrap64 (a3 + 1)) then if (wrap64 (a3 + 1)) < nz a1.length then (match a1[(wrap64 (a3 + 1)).toNat]? with
   | some x18 => (g21.l16v2 9223372036854775808 a0 a1 a2 a3 x18 0 a4 a5 a6 a7 a8 a9 a10 a11 a12 a13 a14 a15 a16 a17 a18 a19 a20 a21 a22 a23 a24 a25 a26 a27 a28 a29).bind fun (y20 : (Int × Int × Bool × Int × Bool × Bool × Bool × Bool × Int × Int × (List (ByteArray × Int × Int)) × (List (ByteArray × Int × Int × Int × ByteArray)) × (List (ByteArray × Int × Int × Int × ByteArray)) × (List (ByteArray × Int × Int × Int × ByteArray))) ⊕ (ByteArray × List Int × Int × Int × Int × Bool × Int × Bool × Bool × Bool × Bool × Int × Int × Int × Bool × Int × Bool × Bool × Bool × Bool × Int × Int × (List (ByteArray × Int × Int)) × (List (ByteArray × Int × Int × Int × ByteArray)) × (List (ByteArray × Int × Int × Int × ByteArray)) × (List (ByteArray × Int × Int × Int × ByteArray)) × (List (ByteArray × Int × Int)) × (List (ByteArray × Int × Int × Int × ByteArray)) × (List (ByteArray × Int × Int × Int × ByteArray)) × (List (ByteArray × Int × Int × Int × ByteArray)))) =>
    (match y20 with
    | .inl y21 => some (.inl y21)
    | .inr y22 => again y22.1 y22.2.1 y22.2.2.1 (wrap64 (y22.2.2.2.1 + 1)) y22.2.2.2.2.1 y22.2.2.2.2.2.1 y22.2.2.2.2.2.2.1 y22.2.2.2.2.2.2.2.1 y22.2.2.2.2.2.2.2.2.1 y22.2.2.2.2.2.2.2.2.2.1 y22.2.2.2.2.2.2.2.2.2.2.1 y22.2.2.2.2.2.2.2.2.2.2.2.1 y22.2.2.2.2.2.2.2.2.2.2.2.2.1 y22.2.2.2.2.2.2.2.2.2.2.2.2.2.1 y22.2.2.2.2.2.2.2.2.2.2.2.2.2.2.1 y22.2.2.2.2.2.2.2.2.2.2.2.2.2.2.2.1 y22.2.2.2.2.2.2.2.2.2.2.2.2.2.2.2.2.1 y22.2.2.2.2.2.2.2.2.2.2.2.2.2.2.2.2.2.1 y22.2.2.2.2.2.2.2.2.2.2.2.2.2.2.2.2.2.2.1 y22.2.2.2.2.2.2.2.2.2.2.2.2.2.2.2.2.2.2.2.1 y22.2.2.2.2.2.2.2.2.2.2.2.2.2.2.2.2.2.2.2.2.1 y22.2.2.2.2.2.2.2.2.2.2.2.2.2.2.2.2.2.2.2.2.2.1 y22.2.2.2.2.2.2.2.2.2.2.2.2.2.2.2.2.2.2.2.2.2.2.1 y22.2.2.2.2.2.2.2.2.2.2.2.2.2.2.2.2.2.2.2.2.2.2.2.1 y22.2.2.2.2.2.2.2.2.2.2.2.2.2.2.2.2.2.2.2.2.2.2.2.2.1 y22.2.2.2.2.2.2.2.2.2.2.2.2.2.2.2.2.2.2.2.2.2.2.2.2.2.1 y22.2.2.2.2.2.2.2.2.2.2.2.2.2.2.2.2.2.2.2.2.2.2.2.2.2.2.1 y22.2.2.2.2.2.2.2.2.2.2.2.2.2.2.2.2.2.2.2.2.2.2.2.2.2.2.2.1 y22.2.2.2.2.2.2.2.2.2.2.2.2.2.2.2.2.2.2.2.2.2.2.2.2.2.2.2.2.1 y22.2.2.2.2.2.2.2.2.2.2.2.2.2.2.2.2.2.2.2.2.2.2.2.2.2.2.2.2.2)
   | none => none)
   else none
   else none
   else none)
  else some (.inr (a0, a2, a4, a5, a6, a7, a8, a9, a10, a11, a12, a13, a14, a15, a16, a17, a18, a19, a20, a21, a22, a23, a24, a25, a26, a27, a28, a29))
noncomputable def g21.l13 : Nat → ByteArray → List Int → Int → Int → Int → Bool → Int → Bool → Bool → Bool → Bool → Int → Int → Int → Bool → Int → Bool → Bool → Bool → Bool → Int → Int → List (ByteArray × Int × Int) → List (ByteArray × Int × Int × Int × ByteArray) → List (ByteArray × Int × Int × Int × ByteArray) → List (ByteArray × Int × Int × Int × ByteArray) → List (ByteArray × Int × Int) → List (ByteArray × Int × Int × Int × ByteArray) → List (ByteArray × Int × Int × Int × ByteArray) → List (ByteArray × Int × Int × Int × ByteArray) → Option ((Int × Int × Bool × Int × Bool × Bool × Bool × Bool × Int × Int × (List (ByteArray × Int × Int)) × (List (ByteArray × Int × Int × Int × ByteArray)) × (List (ByteArray × Int × Int × Int × ByteArray)) × (List (ByteArray × Int × Int × Int × ByteArray))) ⊕ (ByteArray × Int × Int × Bool × Int × Bool × Bool × Bool × Bool × Int × Int × Int × Bool × Int × Bool × Bool × Bool × Bool × Int × Int × (List (ByteArray × Int × Int)) × (List (ByteArray × Int × Int × Int × ByteArray)) × (List (ByteArray × Int × Int × Int × ByteArray)) × (List (ByteArray × Int × Int × Int × ByteArray)) × (List (ByteArray × Int × Int)) × (List (ByteArray × Int × Int × Int × ByteArray)) × (List (ByteArray × Int × Int × Int × ByteArray)) × (List (ByteArray × Int × Int × Int × ByteArray))))
  | 0, _, _, _, _, _, _, _, _, _, _, _, _, _, _, _, _, _, _, _, _, _, _, _, _, _, _, _, _, _, _ => none
  | k + 1, a0, a1, a2, a3, a4, a5, a6, a7, a8, a9, a10, a11, a12, a13, a14, a15, a16, a17, a18, a19, a20, a21, a22, a23, a24, a25, a26, a27, a28, a29 => g21.s13 (g21.l13 k) a0 a1 a2 a3 a4 a5 a6 a7 a8 a9 a10 a11 a12 a13 a14 a15 a16 a17 a18 a19 a20 a21 a22 a23 a24 a25 a26 a27 a28 a29
def g21.n13 : Norm := ⟨[0, 2, 4, 5, 7, 49, 50], [(false, [.k .str]), (false, [.ptr 0 0]), (false, [.ptr 1 0]), (false, [.k (.list 57 (.int .u64))]), (false, [.k (.int .i64)]), (true, [.ptr 1 10, .ptr 1 11, .ptr 1 12]), (false, [.k (.int .i64)])], [some (.cells [.k (.int .i64), .k .bool, .k (.int .i64), .k .bool, .k .bool, .k .bool, .k .bool, .k (.int .i64), .k (.int .i64), .sl 2, .sl 3, .sl 4, .sl 5] 45), some (.cells [.k (.int .i64), .k .bool, .k (.int .i64), .k .bool, .k .bool, .k .bool, .k .bool, .k (.int .i64), .k (.int .i64), .sl 6, .sl 7, .sl 8, .sl 9] 45), some (.lst 71 (.pair .str (.pair (.int .i64) (.int .i64)))), some (.lst 63 (.pair .str (.pair (.int .i64) (.pair (.int .i64) (.pair (.int .i64) .str))))), some (.lst 63 (.pair .str (.pair (.int .i64) (.pair (.int .i64) (.pair (.int .i64) .str))))), some (.lst 63 (.pair .str (.pair (.int .i64) (.pair (.int .i64) (.pair (.int .i64) .str))))), some (.lst 71 (.pair .str (.pair (.int .i64) (.int .i64)))), some (.lst 63 (.pair .str (.pair (.int .i64) (.pair (.int .i64) (.pair (.int .i64) .str))))), some (.lst 63 (.pair .str (.pair (.int .i64) (.pair (.int .i64) (.pair (.int .i64) .str))))), some (.lst 63 (.pair .str (.pair (.int .i64) (.pair (.int .i64) (.pair (.int .i64) .str)))))]⟩
def g21.x13 : List ExitS := [{ e := .ret, n := ⟨[2, 3], [(false, [.ptr 0 0]), (false, [.k (.int .i64)])], [some (.cells [.k (.int .i64), .k .bool, .k (.int .i64), .k .bool, .k .bool, .k .bool, .k .bool, .k (.int .i64), .k (.int .i64), .sl 1, .sl 2, .sl 3, .sl 4] 45), some (.lst 71 (.pair .str (.pair (.int .i64) (.int .i64)))), some (.lst 63 (.pair .str (.pair (.int .i64) (.pair (.int .i64) (.pair (.int .i64) .str))))), some (.lst 63 (.pair .str (.pair (.int .i64) (.pair (.int .i64) (.pair (.int .i64) .str))))), some (.lst 63 (.pair .str (.pair (.int .i64) (.pair (.int .i64) (.pair (.int .i64) .str)))))]⟩, raw := Int × Int × Bool × Int × Bool × Bool × Bool × Bool × Int × Int × (List (ByteArray × Int × Int)) × (List (ByteArray × Int × Int × Int × ByteArray)) × (List (ByteArray × Int × Int × Int × ByteArray)) × (List (ByteArray × Int × Int × Int × ByteArray)), ret := fun y => ((((), ()), (y.1, ()), ()), ((y.2.1, y.2.2.1, y.2.2.2.1, y.2.2.2.2.1, y.2.2.2.2.2.1, y.2.2.2.2.2.2.1, y.2.2.2.2.2.2.2.1, y.2.2.2.2.2.2.2.2.1, y.2.2.2.2.2.2.2.2.2.1, (), (), (), (), ()), y.2.2.2.2.2.2.2.2.2.2.1, y.2.2.2.2.2.2.2.2.2.2.2.1, y.2.2.2.2.2.2.2.2.2.2.2.2.1, y.2.2.2.2.2.2.2.2.2.2.2.2.2, ())), un := fun z => (z.1.2.1.1, z.2.1.1, z.2.1.2.1, z.2.1.2.2.1, z.2.1.2.2.2.1, z.2.1.2.2.2.2.1, z.2.1.2.2.2.2.2.1, z.2.1.2.2.2.2.2.2.1, z.2.1.2.2.2.2.2.2.2.1, z.2.1.2.2.2.2.2.2.2.2.1, z.2.2.1, z.2.2.2.1, z.2.2.2.2.1, z.2.2.2.2.2.1) },
  { e := .exit 2, n := ⟨[0, 2, 4, 7], [(false, [.k .str]), (false, [.ptr 0 0]), (false, [.ptr 1 0]), (false, [.k (.int .i64)])], [some (.cells [.k (.int .i64), .k .bool, .k (.int .i64), .k .bool, .k .bool, .k .bool, .k .bool, .k (.int .i64), .k (.int .i64), .sl 2, .sl 3, .sl 4, .sl 5] 45), some (.cells [.k (.int .i64), .k .bool, .k (.int .i64), .k .bool, .k .bool, .k .bool, .k .bool, .k (.int .i64), .k (.int .i64), .sl 6, .sl 7, .sl 8, .sl 9] 45), some (.lst 71 (.pair .str (.pair (.int .i64) (.int .i64)))), some (.lst 63 (.pair .str (.pair (.int .i64) (.pair (.int .i64) (.pair (.int .i64) .str))))), some (.lst 63 (.pair .str (.pair (.int .i64) (.pair (.int .i64) (.pair (.int .i64) .str))))), some (.lst 63 (.pair .str (.pair (.int .i64) (.pair (.int .i64) (.pair (.int .i64) .str))))), some (.lst 71 (.pair .str (.pair (.int .i64) (.int .i64)))), some (.lst 63 (.pair .str (.pair (.int .i64) (.pair (.int .i64) (.pair (.int .i64) .str))))), some (.lst 63 (.pair .str (.pair (.int .i64) (.pair (.int .i64) (.pair (.int .i64) .str))))), some (.lst 63 (.pair .str (.pair (.int .i64) (.pair (.int .i64) (.pair (.int .i64) .str)))))]⟩, raw := ByteArray × Int × Int × Bool × Int × Bool × Bool × Bool × Bool × Int × Int × Int × Bool × Int × Bool × Bool × Bool × Bool × Int × Int × (List (ByteArray × Int × Int)) × (List (ByteArray × Int × Int × Int × ByteArray)) × (List (ByteArray × Int × Int × Int × ByteArray)) × (List (ByteArray × Int × Int × Int × ByteArray)) × (List (ByteArray × Int × Int)) × (List (ByteArray × Int × Int × Int × ByteArray)) × (List (ByteArray × Int × Int × Int × ByteArray)) × (List (ByteArray × Int × Int × Int × ByteArray)), ret := fun y => (((y.1, ()), ((), ()), ((), ()), (y.2.1, ()), ()), ((y.2.2.1, y.2.2.2.1, y.2.2.2.2.1, y.2.2.2.2.2.1, y.2.2.2.2.2.2.1, y.2.2.2.2.2.2.2.1, y.2.2.2.2.2.2.2.2.1, y.2.2.2.2.2.2.2.2.2.1, y.2.2.2.2.2.2.2.2.2.2.1, (), (), (), (), ()), (y.2.2.2.2.2.2.2.2.2.2.2.1, y.2.2.2.2.2.2.2.2.2.2.2.2.1, y.2.2.2.2.2.2.2.2.2.2.2.2.2.1, y.2.2.2.2.2.2.2.2.2.2.2.2.2.2.1, y.2.2.2.2.2.2.2.2.2.2.2.2.2.2.2.1, y.2.2.2.2.2.2.2.2.2.2.2.2.2.2.2.2.1, y.2.2.2.2.2.2.2.2.2.2.2.2.2.2.2.2.2.1, y.2.2.2.2.2.2.2.2.2.2.2.2.2.2.2.2.2.2.1, y.2.2.2.2.2.2.2.2.2.2.2.2.2.2.2.2.2.2.2.1, (), (), (), (), ()), y.2.2.2.2.2.2.2.2.2.2.2.2.2.2.2.2.2.2.2.2.1, y.2.2.2.2.2.2.2.2.2.2.2.2.2.2.2.2.2.2.2.2.2.1, y.2.2.2.2.2.2.2.2.2.2.2.2.2.2.2.2.2.2.2.2.2.2.1, y.2.2.2.2.2.2.2.2.2.2.2.2.2.2.2.2.2.2.2.2.2.2.2.1, y.2.2.2.2.2.2.2.2.2.2.2.2.2.2.2.2.2.2.2.2.2.2.2.2.1, y.2.2.2.2.2.2.2.2.2.2.2.2.2.2.2.2.2.2.2.2.2.2.2.2.2.1, y.2.2.2.2.2.2.2.2.2.2.2.2.2.2.2.2.2.2.2.2.2.2.2.2.2.2.1, y.2.2.2.2.2.2.2.2.2.2.2.2.2.2.2.2.2.2.2.2.2.2.2.2.2.2.2, ())), un := fun z => (z.1.1.1, z.1.2.2.2.1.1, z.2.1.1, z.2.1.2.1, z.2.1.2.2.1, z.2.1.2.2.2.1, z.2.1.2.2.2.2.1, z.2.1.2.2.2.2.2.1, z.2.1.2.2.2.2.2.2.1, z.2.1.2.2.2.2.2.2.2.1, z.2.1.2.2.2.2.2.2.2.2.1, z.2.2.1.1, z.2.2.1.2.1, z.2.2.1.2.2.1, z.2.2.1.2.2.2.1, z.2.2.1.2.2.2.2.1, z.2.2.1.2.2.2.2.2.1, z.2.2.1.2.2.2.2.2.2.1, z.2.2.1.2.2.2.2.2.2.2.1, z.2.2.1.2.2.2.2.2.2.2.2.1, z.2.2.2.1, z.2.2.2.2.1, z.2.2.2.2.2.1, z.2.2.2.2.2.2.1, z.2.2.2.2.2.2.2.1, z.2.2.2.2.2.2.2.2.1, z.2.2.2.2.2.2.2.2.2.1, z.2.2.2.2.2.2.2.2.2.2.1) }]
noncomputable def g21.m13 (k : Nat) (x : g21.n13.X) : Option (SumR g21.x13) := g21.l13 k x.1.1.1 x.1.2.2.2.1.1 x.1.2.2.2.2.1.1 x.1.2.2.2.2.2.2.1.1 x.2.1.1 x.2.1.2.1 x.2.1.2.2.1 x.2.1.2.2.2.1 x.2.1.2.2.2.2.1 x.2.1.2.2.2.2.2.1 x.2.1.2.2.2.2.2.2.1 x.2.1.2.2.2.2.2.2.2.1 x.2.1.2.2.2.2.2.2.2.2.1 x.2.2.1.1 x.2.2.1.2.1 x.2.2.1.2.2.1 x.2.2.1.2.2.2.1 x.2.2.1.2.2.2.2.1 x.2.2.1.2.2.2.2.2.1 x.2.2.1.2.2.2.2.2.2.1 x.2.2.1.2.2.2.2.2.2.2.1 x.2.2.1.2.2.2.2.2.2.2.2.1 x.2.2.2.1 x.2.2.2.2.1 x.2.2.2.2.2.1 x.2.2.2.2.2.2.1 x.2.2.2.2.2.2.2.1 x.2.2.2.2.2.2.2.2.1 x.2.2.2.2.2.2.2.2.2.1 x.2.2.2.2.2.2.2.2.2.2.1
noncomputable def g21.L13 : LSpec := { id := 13, n := g21.n13, exits := g21.x13, sem := g21.m13 9223372036854775808 }
theorem g21.e13 : ∀ k x, g21.m13 (k + 1) x = roundS Try.prog kap g21.G [g21.L16, g21.L16v1, g21.L16v2] (loopAt Try.f21 13) 88 0 g21.n13 g21.x13 (g21.m13 k) x := fun k x => by kernel_rfl
theorem g21.k13 : LOk Try.prog 0 88 g21.L13 (loopAt Try.f21 13) := LOk.of (κ := kap) (l := g21.L13) g21.G_ok follows (L := [g21.L16, g21.L16v1, g21.L16v2]) (lam_by (fn := Try.f21) (by kernel_rfl) (lamAll_cons g21.k16 (lamAll_cons g21.k16v1 (lamAll_cons g21.k16v2 lamAll_nil)))) g21.m13 (unAll_cons (fun _ => rfl) (unAll_cons (fun _ => rfl) unAll_nil)) (fun _ => rfl) g21.e13 9223372036854775808 rfl
noncomputable def g21.f (b0 : ByteArray) : Option ((Int × Bool × Int × Bool × Bool × Bool × Bool × Int × Int × List (ByteArray × Int × Int) × List (ByteArray × Int × Int × Int × ByteArray) × List (ByteArray × Int × Int × Int × ByteArray) × List (ByteArray × Int × Int × Int × ByteArray)) × Int) :=
  (g45.f b0).bind fun (y1 : Int × Bool × Int × Bool × Bool × Bool × Bool × Int × Int × List Int × Int) =>
  if y1.2.2.2.2.2.2.2.2.2.2 = 0 then (if (0 : Int) < nz y1.2.2.2.2.2.2.2.2.2.1.length then (match y1.2.2.2.2.2.2.2.2.2.1[0]? with
   | some x2 => (g21.l6 9223372036854775808 b0 y1.2.2.2.2.2.2.2.2.2.1 12 x2 0 0 false 0 false false false false 0 0 y1.1 y1.2.1 y1.2.2.1 y1.2.2.2.1 y1.2.2.2.2.1 y1.2.2.2.2.2.1 y1.2.2.2.2.2.2.1 y1.2.2.2.2.2.2.2.1 y1.2.2.2.2.2.2.2.2.1 ([] : List (ByteArray × Int × Int)) ([] : List (ByteArray × Int × Int × Int × ByteArray)) ([] : List (ByteArray × Int × Int × Int × ByteArray)) ([] : List (ByteArray × Int × Int × Int × ByteArray)) ([] : List (ByteArray × Int × Int)) ([] : List (ByteArray × Int × Int × Int × ByteArray)) ([] : List (ByteArray × Int × Int × Int × ByteArray)) ([] : List (ByteArray × Int × Int × Int × ByteArray))).bind fun (y4 : (Int × Int × Bool × Int × Bool × Bool × Bool × Bool × Int × Int × (List (ByteArray × Int × Int)) × (List (ByteArray × Int × Int × Int × ByteArray)) × (List (ByteArray × Int × Int × Int × ByteArray)) × (List (ByteArray × Int × Int × Int × ByteArray))) ⊕ (ByteArray × List Int × Int × Int × Bool × Int × Bool × Bool × Bool × Bool × Int × Int × Int × Bool × Int × Bool × Bool × Bool × Bool × Int × Int × (List (ByteArray × Int × Int)) × (List (ByteArray × Int × Int × Int × ByteArray)) × (List (ByteArray × Int × Int × Int × ByteArray)) × (List (ByteArray × Int × Int × Int × ByteArray)) × (List (ByteArray × Int × Int)) × (List (ByteArray × Int × Int × Int × ByteArray)) × (List (ByteArray × Int × Int × Int × ByteArray)) × (List (ByteArray × Int × Int × Int × ByteArray)))) =>
    (match y4 with
    | .inl y5 => some (y5.2, y5.1)
    | .inr y6 => (g41v1.f y6.2.2.2.2.2.2.2.2.2.2.2.2.1 y6.2.2.2.2.2.2.2.2.2.2.2.2.2.1 y6.2.2.2.2.2.2.2.2.2.2.2.2.2.2.1 y6.2.2.2.2.2.2.2.2.2.2.2.2.2.2.2.1 y6.2.2.2.2.2.2.2.2.2.2.2.2.2.2.2.2.1 y6.2.2.2.2.2.2.2.2.2.2.2.2.2.2.2.2.2.1 y6.2.2.2.2.2.2.2.2.2.2.2.2.2.2.2.2.2.2.1 y6.2.2.2.2.2.2.2.2.2.2.2.2.2.2.2.2.2.2.2.1 y6.2.2.2.2.2.2.2.2.2.2.2.2.2.2.2.2.2.2.2.2.1 y6.2.2.2.2.2.2.2.2.2.2.2.2.2.2.2.2.2.2.2.2.2.2.2.2.2.1 y6.2.2.2.2.2.2.2.2.2.2.2.2.2.2.2.2.2.2.2.2.2.2.2.2.2.2.1 y6.2.2.2.2.2.2.2.2.2.2.2.2.2.2.2.2.2.2.2.2.2.2.2.2.2.2.2.1 y6.2.2.2.2.2.2.2.2.2.2.2.2.2.2.2.2.2.2.2.2.2.2.2.2.2.2.2.2).bind fun (y7 : Int × Bool × Int × Bool × Bool × Bool × Bool × Int × Int × (List (ByteArray × Int × Int)) × (List (ByteArray × Int × Int × Int × ByteArray)) × (List (ByteArray × Int × Int × Int × ByteArray)) × (List (ByteArray × Int × Int × Int × ByteArray))) =>
     (g21.l13 9223372036854775808 y6.1 y6.2.1 y6.2.2.1 0 y6.2.2.2.1 y6.2.2.2.2.1 y6.2.2.2.2.2.1 y6.2.2.2.2.2.2.1 y6.2.2.2.2.2.2.2.1 y6.2.2.2.2.2.2.2.2.1 y6.2.2.2.2.2.2.2.2.2.1 y6.2.2.2.2.2.2.2.2.2.2.1 y6.2.2.2.2.2.2.2.2.2.2.2.1 y7.1 y7.2.1 y7.2.2.1 y7.2.2.2.1 y7.2.2.2.2.1 y7.2.2.2.2.2.1 y7.2.2.2.2.2.2.1 y7.2.2.2.2.2.2.2.1 y7.2.2.2.2.2.2.2.2.1 y6.2.2.2.2.2.2.2.2.2.2.2.2.2.2.2.2.2.2.2.2.2.1 y6.2.2.2.2.2.2.2.2.2.2.2.2.2.2.2.2.2.2.2.2.2.2.1 y6.2.2.2.2.2.2.2.2.2.2.2.2.2.2.2.2.2.2.2.2.2.2.2.1 y6.2.2.2.2.2.2.2.2.2.2.2.2.2.2.2.2.2.2.2.2.2.2.2.2.1 y7.2.2.2.2.2.2.2.2.2.1 y7.2.2.2.2.2.2.2.2.2.2.1 y7.2.2.2.2.2.2.2.2.2.2.2.1 y7.2.2.2.2.2.2.2.2.2.2.2.2).bind fun (y23 : (Int × Int × Bool × Int × Bool × Bool × Bool × Bool × Int × Int × (List (ByteArray × Int × Int)) × (List (ByteArray × Int × Int × Int × ByteArray)) × (List (ByteArray × Int × Int × Int × ByteArray)) × (List (ByteArray × Int × Int × Int × ByteArray))) ⊕ (ByteArray × Int × Int × Bool × Int × Bool × Bool × Bool × Bool × Int × Int × Int × Bool × Int × Bool × Bool × Bool × Bool × Int × Int × (List (ByteArray × Int × Int)) × (List (ByteArray × Int × Int × Int × ByteArray)) × (List (ByteArray × Int × Int × Int × ByteArray)) × (List (ByteArray × Int × Int × Int × ByteArray)) × (List (ByteArray × Int × Int)) × (List (ByteArray × Int × Int × Int × ByteArray)) × (List (ByteArray × Int × Int × Int × ByteArray)) × (List (ByteArray × Int × Int × Int × ByteArray)))) =>
     (match y23 with
     | .inl y24 => some (y24.2, y24.1)
     | .inr y25 => if y25.2.1 = (nz y25.1.size) then some ((y25.2.2.2.2.2.2.2.2.2.2.2.1, y25.2.2.2.2.2.2.2.2.2.2.2.2.1, y25.2.2.2.2.2.2.2.2.2.2.2.2.2.1, y25.2.2.2.2.2.2.2.2.2.2.2.2.2.2.1, y25.2.2.2.2.2.2.2.2.2.2.2.2.2.2.2.1, y25.2.2.2.2.2.2.2.2.2.2.2.2.2.2.2.2.1, y25.2.2.2.2.2.2.2.2.2.2.2.2.2.2.2.2.2.1, y25.2.2.2.2.2.2.2.2.2.2.2.2.2.2.2.2.2.2.1, y25.2.2.2.2.2.2.2.2.2.2.2.2.2.2.2.2.2.2.2.1, y25.2.2.2.2.2.2.2.2.2.2.2.2.2.2.2.2.2.2.2.2.2.2.2.2), 0)
      else some ((0, false, 0, false, false, false, false, 0, 0, ([] : List (ByteArray × Int × Int)), ([] : List (ByteArray × Int × Int × Int × ByteArray)), ([] : List (ByteArray × Int × Int × Int × ByteArray)), ([] : List (ByteArray × Int × Int × Int × ByteArray))), 2)))
   | none => none)
   else none)
  else some ((0, false, 0, false, false, false, false, 0, 0, ([] : List (ByteArray × Int × Int)), ([] : List (ByteArray × Int × Int × Int × ByteArray)), ([] : List (ByteArray × Int × Int × Int × ByteArray)), ([] : List (ByteArray × Int × Int × Int × ByteArray))), y1.2.2.2.2.2.2.2.2.2.2)
noncomputable def g21.sp : FSpec := { f := 21, ins := [(false, [.k .str])], inE := [], outs := [(true, [.k (.pair (.int .i64) (.pair .bool (.pair (.int .i64) (.pair .bool (.pair .bool (.pair .bool (.pair .bool (.pair (.int .i64) (.pair (.int .i64) (.pair (.list 71 (.pair .str (.pair (.int .i64) (.int .i64)))) (.pair (.list 63 (.pair .str (.pair (.int .i64) (.pair (.int .i64) (.pair (.int .i64) .str))))) (.pair (.list 63 (.pair .str (.pair (.int .i64) (.pair (.int .i64) (.pair (.int .i64) .str))))) (.list 63 (.pair .str (.pair (.int .i64) (.pair (.int .i64) (.pair (.int .i64) .str)))))))))))))))))]), (false, [.k (.int .i64)])], outE := [], raw := (Int × Bool × Int × Bool × Bool × Bool × Bool × Int × Int × List (ByteArray × Int × Int) × List (ByteArray × Int × Int × Int × ByteArray) × List (ByteArray × Int × Int × Int × ByteArray) × List (ByteArray × Int × Int × Int × ByteArray)) × Int, sem := fun x => g21.f x.1.1.1, ret := fun y => (((y.1, ()), (y.2, ()), ()), ()) }
theorem g21.ok : FOk Try.prog g21.sp := fn_ok (κ := kap) g21.G_ok follows (L := [g21.L6, g21.L16, g21.L16v1, g21.L16v2, g21.L13]) (fn := Try.f21) (c := bodyOf Try.f21) rfl (by decide) rfl (lam_by (fn := Try.f21) (by kernel_rfl) (lamAll_cons g21.k6 (lamAll_cons g21.k16 (lamAll_cons g21.k16v1 (lamAll_cons g21.k16v2 (lamAll_cons g21.k13 lamAll_nil)))))) (un := fun z => (z.1.1.1, z.1.2.1.1)) (fun _ => rfl) (by decide) (fun x => by kernel_rfl)
/-! ### beadroll/beadrollref12.Same -/
noncomputable def g22.G : List FSpec := [g13.sp]
theorem g22.G_ok : ∀ sp ∈ g22.G, FOk Try.prog sp := allOk_cons g13.ok allOk_nil
noncomputable def g22.s4 (again : Int → Int × Bool × Int × Bool × Bool × Bool × Bool × Int × Int × List (ByteArray × Int × Int) × List (ByteArray × Int × Int × Int × ByteArray) × List (ByteArray × Int × Int × Int × ByteArray) × List (ByteArray × Int × Int × Int × ByteArray) → Int × Bool × Int × Bool × Bool × Bool × Bool × Int × Int × List (ByteArray × Int × Int) × List (ByteArray × Int × Int × Int × ByteArray) × List (ByteArray × Int × Int × Int × ByteArray) × List (ByteArray × Int × Int × Int × ByteArray) → Option (Bool ⊕ ((Int × Bool × Int × Bool × Bool × Bool × Bool × Int × Int × List (ByteArray × Int × Int) × List (ByteArray × Int × Int × Int × ByteArray) × List (ByteArray × Int × Int × Int × ByteArray) × List (ByteArray × Int × Int × Int × ByteArray)) × (Int × Bool × Int × Bool × Bool × Bool × Bool × Int × Int × List (ByteArray × Int × Int) × List (ByteArray × Int × Int × Int × ByteArray) × List (ByteArray × Int × Int × Int × ByteArray) × List (ByteArray × Int × Int × Int × ByteArray))))) (a0 : Int) (a1 : Int × Bool × Int × Bool × Bool × Bool × Bool × Int × Int × List (ByteArray × Int × Int) × List (ByteArray × Int × Int × Int × ByteArray) × List (ByteArray × Int × Int × Int × ByteArray) × List (ByteArray × Int × Int × Int × ByteArray)) (a2 : Int × Bool × Int × Bool × Bool × Bool × Bool × Int × Int × List (ByteArray × Int × Int) × List (ByteArray × Int × Int × Int × ByteArray) × List (ByteArray × Int × Int × Int × ByteArray) × List (ByteArray × Int × Int × Int × ByteArray)) : Option (Bool ⊕ ((Int × Bool × Int × Bool × Bool × Bool × Bool × Int × Int × List (ByteArray × Int × Int) × List (ByteArray × Int × Int × Int × ByteArray) × List (ByteArray × Int × Int × Int × ByteArray) × List (ByteArray × Int × Int × Int × ByteArray)) × (Int × Bool × Int × Bool × Bool × Bool × Bool × Int × Int × List (ByteArray × Int × Int) × List (ByteArray × Int × Int × Int × ByteArray) × List (ByteArray × Int × Int × Int × ByteArray) × List (ByteArray × Int × Int × Int × ByteArray)))) :=
  if a0 < (nz a1.2.2.2.2.2.2.2.2.2.1.length) then (if 0 ≤ a0 then if a0 < nz a1.2.2.2.2.2.2.2.2.2.1.length then (match a1.2.2.2.2.2.2.2.2.2.1[a0.toNat]? with
   | some x1 => if 0 ≤ a0 then if a0 < nz a2.2.2.2.2.2.2.2.2.2.1.length then (match a2.2.2.2.2.2.2.2.2.2.1[a0.toNat]? with
    | some x2 => if x1.1 = x2.1 ∧ x1.2.1 = x2.2.1 ∧ x1.2.2 = x2.2.2 ∧ True then again (wrap64 (a0 + 1)) a1 a2
     else some (.inl false)
    | none => none)
    else none
    else none
   | none => none)
   else none
   else none)
  else some (.inr (a1, a2))
noncomputable def g22.l4 : Nat → Int → Int × Bool × Int × Bool × Bool × Bool × Bool × Int × Int × List (ByteArray × Int × Int) × List (ByteArray × Int × Int × Int × ByteArray) × List (ByteArray × Int × Int × Int × ByteArray) × List (ByteArray × Int × Int × Int × ByteArray) → Int × Bool × Int × Bool × Bool × Bool × Bool × Int × Int × List (ByteArray × Int × Int) × List (ByteArray × Int × Int × Int × ByteArray) × List (ByteArray × Int × Int × Int × ByteArray) × List (ByteArray × Int × Int × Int × ByteArray) → Option (Bool ⊕ ((Int × Bool × Int × Bool × Bool × Bool × Bool × Int × Int × List (ByteArray × Int × Int) × List (ByteArray × Int × Int × Int × ByteArray) × List (ByteArray × Int × Int × Int × ByteArray) × List (ByteArray × Int × Int × Int × ByteArray)) × (Int × Bool × Int × Bool × Bool × Bool × Bool × Int × Int × List (ByteArray × Int × Int) × List (ByteArray × Int × Int × Int × ByteArray) × List (ByteArray × Int × Int × Int × ByteArray) × List (ByteArray × Int × Int × Int × ByteArray))))
  | 0, _, _, _ => none
  | k + 1, a0, a1, a2 => g22.s4 (g22.l4 k) a0 a1 a2
def g22.n4 : Norm := ⟨[2, 3, 5], [(false, [.ptr 0 0]), (false, [.ptr 1 0]), (false, [.k (.int .i64)])], [some (.cells [.k (.pair (.int .i64) (.pair .bool (.pair (.int .i64) (.pair .bool (.pair .bool (.pair .bool (.pair .bool (.pair (.int .i64) (.pair (.int .i64) (.pair (.list 71 (.pair .str (.pair (.int .i64) (.int .i64)))) (.pair (.list 63 (.pair .str (.pair (.int .i64) (.pair (.int .i64) (.pair (.int .i64) .str))))) (.pair (.list 63 (.pair .str (.pair (.int .i64) (.pair (.int .i64) (.pair (.int .i64) .str))))) (.list 63 (.pair .str (.pair (.int .i64) (.pair (.int .i64) (.pair (.int .i64) .str)))))))))))))))))] 45), some (.cells [.k (.pair (.int .i64) (.pair .bool (.pair (.int .i64) (.pair .bool (.pair .bool (.pair .bool (.pair .bool (.pair (.int .i64) (.pair (.int .i64) (.pair (.list 71 (.pair .str (.pair (.int .i64) (.int .i64)))) (.pair (.list 63 (.pair .str (.pair (.int .i64) (.pair (.int .i64) (.pair (.int .i64) .str))))) (.pair (.list 63 (.pair .str (.pair (.int .i64) (.pair (.int .i64) (.pair (.int .i64) .str))))) (.list 63 (.pair .str (.pair (.int .i64) (.pair (.int .i64) (.pair (.int .i64) .str)))))))))))))))))] 45)]⟩
def g22.x4 : List ExitS := [{ e := .ret, n := ⟨[4], [(false, [.k .bool])], []⟩, raw := Bool, ret := fun y => (((y, ()), ()), ()), un := fun z => z.1.1.1 },
  { e := .exit 0, n := ⟨[2, 3], [(false, [.ptr 0 0]), (false, [.ptr 1 0])], [some (.cells [.k (.pair (.int .i64) (.pair .bool (.pair (.int .i64) (.pair .bool (.pair .bool (.pair .bool (.pair .bool (.pair (.int .i64) (.pair (.int .i64) (.pair (.list 71 (.pair .str (.pair (.int .i64) (.int .i64)))) (.pair (.list 63 (.pair .str (.pair (.int .i64) (.pair (.int .i64) (.pair (.int .i64) .str))))) (.pair (.list 63 (.pair .str (.pair (.int .i64) (.pair (.int .i64) (.pair (.int .i64) .str))))) (.list 63 (.pair .str (.pair (.int .i64) (.pair (.int .i64) (.pair (.int .i64) .str)))))))))))))))))] 45), some (.cells [.k (.pair (.int .i64) (.pair .bool (.pair (.int .i64) (.pair .bool (.pair .bool (.pair .bool (.pair .bool (.pair (.int .i64) (.pair (.int .i64) (.pair (.list 71 (.pair .str (.pair (.int .i64) (.int .i64)))) (.pair (.list 63 (.pair .str (.pair (.int .i64) (.pair (.int .i64) (.pair (.int .i64) .str))))) (.pair (.list 63 (.pair .str (.pair (.int .i64) (.pair (.int .i64) (.pair (.int .i64) .str))))) (.list 63 (.pair .str (.pair (.int .i64) (.pair (.int .i64) (.pair (.int .i64) .str)))))))))))))))))] 45)]⟩, raw := (Int × Bool × Int × Bool × Bool × Bool × Bool × Int × Int × List (ByteArray × Int × Int) × List (ByteArray × Int × Int × Int × ByteArray) × List (ByteArray × Int × Int × Int × ByteArray) × List (ByteArray × Int × Int × Int × ByteArray)) × (Int × Bool × Int × Bool × Bool × Bool × Bool × Int × Int × List (ByteArray × Int × Int) × List (ByteArray × Int × Int × Int × ByteArray) × List (ByteArray × Int × Int × Int × ByteArray) × List (ByteArray × Int × Int × Int × ByteArray)), ret := fun y => ((((), ()), ((), ()), ()), ((y.1, ()), (y.2, ()), ())), un := fun z => (z.2.1.1, z.2.2.1.1) }]
noncomputable def g22.m4 (k : Nat) (x : g22.n4.X) : Option (SumR g22.x4) := g22.l4 k x.1.2.2.1.1 x.2.1.1 x.2.2.1.1
noncomputable def g22.L4 : LSpec := { id := 4, n := g22.n4, exits := g22.x4, sem := g22.m4 9223372036854775808 }
theorem g22.e4 : ∀ k x, g22.m4 (k + 1) x = roundS Try.prog kap g22.G [] (loopAt Try.f22 4) 113 0 g22.n4 g22.x4 (g22.m4 k) x := fun k x => by kernel_rfl
theorem g22.k4 : LOk Try.prog 0 113 g22.L4 (loopAt Try.f22 4) := LOk.of (κ := kap) (l := g22.L4) g22.G_ok follows (L := []) (lam_by (fn := Try.f22) (by kernel_rfl) lamAll_nil) g22.m4 (unAll_cons (fun _ => rfl) (unAll_cons (fun _ => rfl) unAll_nil)) (fun _ => rfl) g22.e4 9223372036854775808 rfl
noncomputable def g22.f (b0 : Int × Bool × Int × Bool × Bool × Bool × Bool × Int × Int × List (ByteArray × Int × Int) × List (ByteArray × Int × Int × Int × ByteArray) × List (ByteArray × Int × Int × Int × ByteArray) × List (ByteArray × Int × Int × Int × ByteArray)) (b1 : Int × Bool × Int × Bool × Bool × Bool × Bool × Int × Int × List (ByteArray × Int × Int) × List (ByteArray × Int × Int × Int × ByteArray) × List (ByteArray × Int × Int × Int × ByteArray) × List (ByteArray × Int × Int × Int × ByteArray)) : Option Bool :=
  if b0.1 = b1.1 then (if b0.2.1 = b1.2.1 then (if b0.2.2.1 = b1.2.2.1 then (if b0.2.2.2.1 = b1.2.2.2.1 then (if b0.2.2.2.2.1 = b1.2.2.2.2.1 then (if b0.2.2.2.2.2.1 = b1.2.2.2.2.2.1 then (if b0.2.2.2.2.2.2.1 = b1.2.2.2.2.2.2.1 then (if b0.2.2.2.2.2.2.2.1 = b1.2.2.2.2.2.2.2.1 then (if b0.2.2.2.2.2.2.2.2.1 = b1.2.2.2.2.2.2.2.2.1 then (if (nz b0.2.2.2.2.2.2.2.2.2.1.length) = (nz b1.2.2.2.2.2.2.2.2.2.1.length) then ((g22.l4 9223372036854775808 0 b0 b1).bind fun (y3 : Bool ⊕ ((Int × Bool × Int × Bool × Bool × Bool × Bool × Int × Int × List (ByteArray × Int × Int) × List (ByteArray × Int × Int × Int × ByteArray) × List (ByteArray × Int × Int × Int × ByteArray) × List (ByteArray × Int × Int × Int × ByteArray)) × (Int × Bool × Int × Bool × Bool × Bool × Bool × Int × Int × List (ByteArray × Int × Int) × List (ByteArray × Int × Int × Int × ByteArray) × List (ByteArray × Int × Int × Int × ByteArray) × List (ByteArray × Int × Int × Int × ByteArray)))) =>
            (match y3 with
            | .inl y4 => some y4
            | .inr y5 => (g13.f y5.1.2.2.2.2.2.2.2.2.2.2.1 y5.2.2.2.2.2.2.2.2.2.2.2.1).bind fun (y6 : Bool) =>
             if y6 = true then ((g13.f y5.1.2.2.2.2.2.2.2.2.2.2.2.1 y5.2.2.2.2.2.2.2.2.2.2.2.2.1).bind fun (y7 : Bool) =>
              if y7 = true then ((g13.f y5.1.2.2.2.2.2.2.2.2.2.2.2.2 y5.2.2.2.2.2.2.2.2.2.2.2.2.2).bind fun (y8 : Bool) =>
               some y8)
              else some false)
             else some false))
           else some false)
          else some false)
         else some false)
        else some false)
       else some false)
      else some false)
     else some false)
    else some false)
   else some false)
  else some false
noncomputable def g22.sp : FSpec := { f := 22, ins := [(true, [.k (.pair (.int .i64) (.pair .bool (.pair (.int .i64) (.pair .bool (.pair .bool (.pair .bool (.pair .bool (.pair (.int .i64) (.pair (.int .i64) (.pair (.list 71 (.pair .str (.pair (.int .i64) (.int .i64)))) (.pair (.list 63 (.pair .str (.pair (.int .i64) (.pair (.int .i64) (.pair (.int .i64) .str))))) (.pair (.list 63 (.pair .str (.pair (.int .i64) (.pair (.int .i64) (.pair (.int .i64) .str))))) (.list 63 (.pair .str (.pair (.int .i64) (.pair (.int .i64) (.pair (.int .i64) .str)))))))))))))))))]), (true, [.k (.pair (.int .i64) (.pair .bool (.pair (.int .i64) (.pair .bool (.pair .bool (.pair .bool (.pair .bool (.pair (.int .i64) (.pair (.int .i64) (.pair (.list 71 (.pair .str (.pair (.int .i64) (.int .i64)))) (.pair (.list 63 (.pair .str (.pair (.int .i64) (.pair (.int .i64) (.pair (.int .i64) .str))))) (.pair (.list 63 (.pair .str (.pair (.int .i64) (.pair (.int .i64) (.pair (.int .i64) .str))))) (.list 63 (.pair .str (.pair (.int .i64) (.pair (.int .i64) (.pair (.int .i64) .str)))))))))))))))))])], inE := [], outs := [(false, [.k .bool])], outE := [], raw := Bool, sem := fun x => g22.f x.1.1.1 x.1.2.1.1, ret := fun y => (((y, ()), ()), ()) }
theorem g22.ok : FOk Try.prog g22.sp := fn_ok (κ := kap) g22.G_ok follows (L := [g22.L4]) (fn := Try.f22) (c := bodyOf Try.f22) rfl (by decide) rfl (lam_by (fn := Try.f22) (by kernel_rfl) (lamAll_cons g22.k4 lamAll_nil)) (un := fun z => z.1.1.1) (fun _ => rfl) (by decide) (fun x => by kernel_rfl)
end
end Go.Proofs.Ytpbakampjiihfaa.E
