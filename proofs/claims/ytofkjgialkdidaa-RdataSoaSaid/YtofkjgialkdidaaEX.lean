/- PRINTED BY eng.py: functions, run by the engine. -/
import Derived.Test.YtofkjgialkdidaaEB
import Derived.Test.YtofkjgialkdidaaGvB2
import Derived.Test.YtofkjgialkdidaaProg
import Derived.Laws.Externs
import Derived.MapKept
import Derived.WalkKit
import Derived.Lib.Walk
import Derived.Lib.SliceRun
import Derived.Shelf.RegionOpenPlain
import Derived.OwnWalk
import Derived.Test.YtofkjgialkdidaaGX
import Derived.Test.YtofkjgialkdidaaEO
set_option maxRecDepth 100000
set_option maxHeartbeats 0
namespace Go.Proofs.Ytofkjgialkdidaa.E
set_option linter.unusedVariables false
set_option linter.unusedSimpArgs false
open Go Go.Eng Go.RowKit Go.Lib Go.Proofs
noncomputable section
set_option warn.classDefReducibility false
attribute [local instance 2000] dLe dLt dEq dEqS dAnd
/-! ### beadroll/pack.at -/
noncomputable def g145.G : List FSpec := [g155.sp, g76.sp]
theorem g145.G_ok : ∀ sp ∈ g145.G, FOk Try.prog sp := allOk_cons g155.ok (allOk_cons g76.ok allOk_nil)
noncomputable def g145.f (b0 : ByteArray) (b1 : Int) : Option ((ByteArray × Int × Int) × Bool) :=
  if (0 : Int) ≤ b1 then if b1 ≤ (nz b0.size) then (g155.f (b0.extract b1.toNat b0.size) 1).bind fun (y1 : ByteArray × ByteArray × Int) =>
  if y1.2.2 = 0 then (if (nz y1.1.size) ≤ 63 then (if (0 : Int) ≤ (wrap64 ((nz b0.size) - (nz y1.2.1.size))) then if (wrap64 ((nz b0.size) - (nz y1.2.1.size))) ≤ (nz b0.size) then if (0 : Int) ≤ b1 then if b1 ≤ (wrap64 ((nz b0.size) - (nz y1.2.1.size))) then some ((b0.extract b1.toNat ((wrap64 ((nz b0.size) - (nz y1.2.1.size))).toNat), (-1), wrap64 ((nz b0.size) - (nz y1.2.1.size))), true) else none
    else none
    else none
    else none)
   else if (0 : Int) ≤ b1 then if b1 ≤ (nz b0.size) then (g76.f (b0.extract b1.toNat b0.size) ([2] : List Int)).bind fun (y2 : List Int × ByteArray × Int) =>
   if y2.2.2 = 0 then (if (0 : Int) < nz y2.1.length then (match y2.1[0]? with
    | some x3 => if x3 < 49152 then some (((⟨#[]⟩ : ByteArray), 0, 0), false)
     else if (0 : Int) < nz y2.1.length then (match y2.1[0]? with
     | some x4 => some (((⟨#[]⟩ : ByteArray), wrap64 (IntKind.wrap .u64 (x4 - 49152)), wrap64 (b1 + 2)), true)
     | none => none)
     else none
    | none => none)
    else none)
   else some (((⟨#[]⟩ : ByteArray), 0, 0), false)
   else none
   else none)
  else if (0 : Int) ≤ b1 then if b1 ≤ (nz b0.size) then (g76.f (b0.extract b1.toNat b0.size) ([2] : List Int)).bind fun (y5 : List Int × ByteArray × Int) =>
  if y5.2.2 = 0 then (if (0 : Int) < nz y5.1.length then (match y5.1[0]? with
   | some x6 => if x6 < 49152 then some (((⟨#[]⟩ : ByteArray), 0, 0), false)
    else if (0 : Int) < nz y5.1.length then (match y5.1[0]? with
    | some x7 => some (((⟨#[]⟩ : ByteArray), wrap64 (IntKind.wrap .u64 (x7 - 49152)), wrap64 (b1 + 2)), true)
    | none => none)
    else none
   | none => none)
   else none)
  else some (((⟨#[]⟩ : ByteArray), 0, 0), false)
  else none
  else none
  else none
  else none
noncomputable def g145.sp : FSpec := { f := 145, ins := [(false, [.k .str]), (false, [.k (.int .i64)])], inE := [], outs := [(true, [.k (.pair .str (.pair (.int .i64) (.int .i64)))]), (false, [.k .bool])], outE := [], raw := (ByteArray × Int × Int) × Bool, sem := fun x => g145.f x.1.1.1 x.1.2.1.1, ret := fun y => (((y.1, ()), (y.2, ()), ()), ()) }
theorem g145.ok : FOk Try.prog g145.sp := fn_ok (κ := kap) g145.G_ok follows (L := []) (fn := Try.f145) (c := bodyOf Try.f145) rfl (by decide) rfl (lam_by (fn := Try.f145) (by kernel_rfl) lamAll_nil) (un := fun z => (z.1.1.1, z.1.2.1.1)) (fun _ => rfl) (by decide) (fun x => by kernel_rfl)
/-! ### beadroll/pack.Read -/
noncomputable def g114.G : List FSpec := [g145.sp, g79.sp]
theorem g114.G_ok : ∀ sp ∈ g114.G, FOk Try.prog sp := allOk_cons g145.ok (allOk_cons g79.ok allOk_nil)
noncomputable def g114.s4 (again : ByteArray → Int → ByteArray → Int → Int → Option ((ByteArray × Int × Int) ⊕ (Int × ByteArray × Int))) (a0 : ByteArray) (a1 : Int) (a2 : ByteArray) (a3 : Int) (a4 : Int) : Option ((ByteArray × Int × Int) ⊕ (Int × ByteArray × Int)) :=
  if (nz a2.size) ≤ 255 then ((g145.f a0 a1).bind fun (y1 : (ByteArray × Int × Int) × Bool) =>
   if (!y1.2) = true then some (.inl ((⟨#[]⟩ : ByteArray), 0, 2))
   else if a4 ≤ y1.1.2.1 then some (.inl ((⟨#[]⟩ : ByteArray), 0, 2))
   else if (0 : Int) ≤ y1.1.2.1 then (if a3 < 0 then again a0 y1.1.2.1 a2 y1.1.2.2 y1.1.2.1
    else again a0 y1.1.2.1 a2 a3 y1.1.2.1)
   else if (nz a2.size) + (nz y1.1.1.size) ≤ 9223372036854775807 then if y1.1.1 = (⟨#[0]⟩ : ByteArray) then some (.inr (y1.1.2.2, a2 ++ y1.1.1, a3))
   else again a0 y1.1.2.2 (a2 ++ y1.1.1) a3 a4
   else none)
  else some (.inr (a1, a2, a3))
noncomputable def g114.l4 : Nat → ByteArray → Int → ByteArray → Int → Int → Option ((ByteArray × Int × Int) ⊕ (Int × ByteArray × Int))
  | 0, _, _, _, _, _ => none
  | k + 1, a0, a1, a2, a3, a4 => g114.s4 (g114.l4 k) a0 a1 a2 a3 a4
def g114.n4 : Norm := ⟨[0, 1, 7, 8, 9], [(false, [.k .str]), (false, [.k (.int .i64)]), (false, [.k .str]), (false, [.k (.int .i64)]), (false, [.k (.int .i64)])], []⟩
def g114.x4 : List ExitS := [{ e := .ret, n := ⟨[4, 5, 6], [(false, [.k .str]), (false, [.k (.int .i64)]), (false, [.k (.int .i64)])], []⟩, raw := ByteArray × Int × Int, ret := fun y => (((y.1, ()), (y.2.1, ()), (y.2.2, ()), ()), ()), un := fun z => (z.1.1.1, z.1.2.1.1, z.1.2.2.1.1) },
  { e := .exit 0, n := ⟨[1, 7, 8], [(false, [.k (.int .i64)]), (false, [.k .str]), (false, [.k (.int .i64)])], []⟩, raw := Int × ByteArray × Int, ret := fun y => (((y.1, ()), (y.2.1, ()), (y.2.2, ()), ()), ()), un := fun z => (z.1.1.1, z.1.2.1.1, z.1.2.2.1.1) }]
noncomputable def g114.m4 (k : Nat) (x : g114.n4.X) : Option (SumR g114.x4) := g114.l4 k x.1.1.1 x.1.2.1.1 x.1.2.2.1.1 x.1.2.2.2.1.1 x.1.2.2.2.2.1.1
noncomputable def g114.L4 : LSpec := { id := 4, n := g114.n4, exits := g114.x4, sem := g114.m4 9223372036854775808 }
theorem g114.e4 : ∀ k x, g114.m4 (k + 1) x = roundS Try.prog kap g114.G [] (loopAt Try.f114 4) 68 0 g114.n4 g114.x4 (g114.m4 k) x := fun k x => by kernel_rfl
theorem g114.k4 : LOk Try.prog 0 68 g114.L4 (loopAt Try.f114 4) := LOk.of (κ := kap) (l := g114.L4) g114.G_ok follows (L := []) (lam_by (fn := Try.f114) (by kernel_rfl) lamAll_nil) g114.m4 (unAll_cons (fun _ => rfl) (unAll_cons (fun _ => rfl) unAll_nil)) (fun _ => rfl) g114.e4 9223372036854775808 rfl
noncomputable def g114.f (b0 : ByteArray) (b1 : Int) : Option (ByteArray × Int × Int) :=
  if b1 < 0 then some ((⟨#[]⟩ : ByteArray), 0, 1)
  else if (nz b0.size) < b1 then some ((⟨#[]⟩ : ByteArray), 0, 1)
  else (g114.l4 9223372036854775808 b0 b1 (⟨#[]⟩ : ByteArray) (-1) b1).bind fun (y2 : (ByteArray × Int × Int) ⊕ (Int × ByteArray × Int)) =>
  (match y2 with
  | .inl y3 => some y3
  | .inr y4 => (g79.f y4.2.1).bind fun (y5 : Bool) =>
   if (!y5) = true then some ((⟨#[]⟩ : ByteArray), 0, 2)
   else if y4.2.2 < 0 then some (y4.2.1, y4.1, 0)
   else some (y4.2.1, y4.2.2, 0))
noncomputable def g114.sp : FSpec := { f := 114, ins := [(false, [.k .str]), (false, [.k (.int .i64)])], inE := [], outs := [(false, [.k .str]), (false, [.k (.int .i64)]), (false, [.k (.int .i64)])], outE := [], raw := ByteArray × Int × Int, sem := fun x => g114.f x.1.1.1 x.1.2.1.1, ret := fun y => (((y.1, ()), (y.2.1, ()), (y.2.2, ()), ()), ()) }
theorem g114.ok : FOk Try.prog g114.sp := fn_ok (κ := kap) g114.G_ok follows (L := [g114.L4]) (fn := Try.f114) (c := bodyOf Try.f114) rfl (by decide) rfl (lam_by (fn := Try.f114) (by kernel_rfl) (lamAll_cons g114.k4 lamAll_nil)) (un := fun z => (z.1.1.1, z.1.2.1.1, z.1.2.2.1.1)) (fun _ => rfl) (by decide) (fun x => by kernel_rfl)
/-! ### beadroll/beadrollref07.Labels -/
noncomputable def g81.G : List FSpec := []
theorem g81.G_ok : ∀ sp ∈ g81.G, FOk Try.prog sp := allOk_nil
noncomputable def g81.s5 (again : ByteArray → Int → List ByteArray → Option ((List ByteArray × Bool) ⊕ (ByteArray × Int × List ByteArray))) (a0 : ByteArray) (a1 : Int) (a2 : List ByteArray) : Option ((List ByteArray × Bool) ⊕ (ByteArray × Int × List ByteArray)) :=
  if a1 < (nz a0.size) then (if 0 ≤ a1 then if a1 < nz a0.size then if (0 : Int) < (bt a0 a1) then (if 0 ≤ a1 then if a1 < nz a0.size then if (63 : Int) < (wrap64 (bt a0 a1)) then some (.inl (([] : List ByteArray), false))
    else if (nz a0.size) < (wrap64 ((wrap64 (a1 + 1)) + (wrap64 (bt a0 a1)))) then some (.inl (([] : List ByteArray), false))
    else if (0 : Int) ≤ (wrap64 ((wrap64 (a1 + 1)) + (wrap64 (bt a0 a1)))) then if (wrap64 ((wrap64 (a1 + 1)) + (wrap64 (bt a0 a1)))) ≤ (nz a0.size) then if (0 : Int) ≤ (wrap64 (a1 + 1)) then if (wrap64 (a1 + 1)) ≤ (wrap64 ((wrap64 (a1 + 1)) + (wrap64 (bt a0 a1)))) then if nz a2.length + nz (([a0.extract ((wrap64 (a1 + 1)).toNat) ((wrap64 ((wrap64 (a1 + 1)) + (wrap64 (bt a0 a1)))).toNat)] : List ByteArray).length) ≤ room Try.prog 9 then again a0 (wrap64 (a1 + (wrap64 ((1 : Int) + (wrap64 (bt a0 a1)))))) (a2 ++ ([a0.extract ((wrap64 (a1 + 1)).toNat) ((wrap64 ((wrap64 (a1 + 1)) + (wrap64 (bt a0 a1)))).toNat)] : List ByteArray)) else none
    else none
    else none
    else none
    else none
    else none
    else none)
   else some (.inr (a0, a1, a2))
   else none
   else none)
  else some (.inr (a0, a1, a2))
noncomputable def g81.l5 : Nat → ByteArray → Int → List ByteArray → Option ((List ByteArray × Bool) ⊕ (ByteArray × Int × List ByteArray))
  | 0, _, _, _ => none
  | k + 1, a0, a1, a2 => g81.s5 (g81.l5 k) a0 a1 a2
def g81.n5 : Norm := ⟨[0, 4, 5], [(false, [.k .str]), (false, [.sl 0]), (false, [.k (.int .i64)])], [some (.lst 9 .str)]⟩
def g81.x5 : List ExitS := [{ e := .ret, n := ⟨[2, 3], [(false, [.k (.list 9 .str)]), (false, [.k .bool])], []⟩, raw := List ByteArray × Bool, ret := fun y => (((y.1, ()), (y.2, ()), ()), ()), un := fun z => (z.1.1.1, z.1.2.1.1) },
  { e := .exit 0, n := ⟨[0, 4, 5], [(false, [.k .str]), (false, [.sl 0]), (false, [.k (.int .i64)])], [some (.lst 9 .str)]⟩, raw := ByteArray × Int × List ByteArray, ret := fun y => (((y.1, ()), ((), ()), (y.2.1, ()), ()), (y.2.2, ())), un := fun z => (z.1.1.1, z.1.2.2.1.1, z.2.1) }]
noncomputable def g81.m5 (k : Nat) (x : g81.n5.X) : Option (SumR g81.x5) := g81.l5 k x.1.1.1 x.1.2.2.1.1 x.2.1
noncomputable def g81.L5 : LSpec := { id := 5, n := g81.n5, exits := g81.x5, sem := g81.m5 9223372036854775808 }
theorem g81.e5 : ∀ k x, g81.m5 (k + 1) x = roundS Try.prog kap g81.G [] (loopAt Try.f81 5) 62 0 g81.n5 g81.x5 (g81.m5 k) x := fun k x => by kernel_rfl
theorem g81.k5 : LOk Try.prog 0 62 g81.L5 (loopAt Try.f81 5) := LOk.of (κ := kap) (l := g81.L5) g81.G_ok follows (L := []) (lam_by (fn := Try.f81) (by kernel_rfl) lamAll_nil) g81.m5 (unAll_cons (fun _ => rfl) (unAll_cons (fun _ => rfl) unAll_nil)) (fun _ => rfl) g81.e5 9223372036854775808 rfl
noncomputable def g81.f (b0 : ByteArray) : Option (List ByteArray × Bool) :=
  if (255 : Int) < (nz b0.size) then some (([] : List ByteArray), false)
  else (g81.l5 9223372036854775808 b0 0 ([] : List ByteArray)).bind fun (y1 : (List ByteArray × Bool) ⊕ (ByteArray × Int × List ByteArray)) =>
  (match y1 with
  | .inl y2 => some y2
  | .inr y3 => if y3.2.1 = (wrap64 ((nz y3.1.size) - 1)) then (if 0 ≤ y3.2.1 then if y3.2.1 < nz y3.1.size then some (y3.2.2, decide ((bt y3.1 y3.2.1) = 0)) else none
    else none)
   else some (y3.2.2, false))
noncomputable def g81.sp : FSpec := { f := 81, ins := [(false, [.k .str])], inE := [], outs := [(false, [.k (.list 9 .str)]), (false, [.k .bool])], outE := [], raw := List ByteArray × Bool, sem := fun x => g81.f x.1.1.1, ret := fun y => (((y.1, ()), (y.2, ()), ()), ()) }
theorem g81.ok : FOk Try.prog g81.sp := fn_ok (κ := kap) g81.G_ok follows (L := [g81.L5]) (fn := Try.f81) (c := bodyOf Try.f81) rfl (by decide) rfl (lam_by (fn := Try.f81) (by kernel_rfl) (lamAll_cons g81.k5 lamAll_nil)) (un := fun z => (z.1.1.1, z.1.2.1.1)) (fun _ => rfl) (by decide) (fun x => by kernel_rfl)
/-! ### beadroll/beadrollref07.Right -/
noncomputable def g29.G : List FSpec := [g81.sp]
theorem g29.G_ok : ∀ sp ∈ g29.G, FOk Try.prog sp := allOk_cons g81.ok allOk_nil
noncomputable def g29.f (b0 : ByteArray) : Option Bool :=
  (g81.f b0).bind fun (y1 : List ByteArray × Bool) =>
  some y1.2
noncomputable def g29.sp : FSpec := { f := 29, ins := [(false, [.k .str])], inE := [], outs := [(false, [.k .bool])], outE := [], raw := Bool, sem := fun x => g29.f x.1.1.1, ret := fun y => (((y, ()), ()), ()) }
theorem g29.ok : FOk Try.prog g29.sp := fn_ok (κ := kap) g29.G_ok follows (L := []) (fn := Try.f29) (c := bodyOf Try.f29) rfl (by decide) rfl (lam_by (fn := Try.f29) (by kernel_rfl) lamAll_nil) (un := fun z => z.1.1.1) (fun _ => rfl) (by decide) (fun x => by kernel_rfl)
/-! ### beadroll/beadrollref09.Read -/
noncomputable def g120.G : List FSpec := [g29.sp]
theorem g120.G_ok : ∀ sp ∈ g120.G, FOk Try.prog sp := allOk_cons g29.ok allOk_nil
noncomputable def g120.s6 (again : ByteArray → Int → ByteArray → Int → Int → Option ((ByteArray × Int × Int) ⊕ Unit)) (a0 : ByteArray) (a1 : Int) (a2 : ByteArray) (a3 : Int) (a4 : Int) : Option ((ByteArray × Int × Int) ⊕ Unit) :=
  if a1 < (nz a0.size) then (if (nz a2.size) < 300 then (if 0 ≤ a1 then if a1 < nz a0.size then if (wrap64 (bt a0 a1)) = 0 then (if (nz a2.size) + 1 ≤ 9223372036854775807 then if a3 < 0 then ((g29.f (a2 ++ (⟨#[0]⟩ : ByteArray))).bind fun (y1 : Bool) =>
      if (!y1) = true then some (.inl ((⟨#[]⟩ : ByteArray), 0, 2))
      else some (.inl (a2 ++ (⟨#[0]⟩ : ByteArray), wrap64 (a1 + 1), 0)))
     else (g29.f (a2 ++ (⟨#[0]⟩ : ByteArray))).bind fun (y2 : Bool) =>
     if (!y2) = true then some (.inl ((⟨#[]⟩ : ByteArray), 0, 2))
     else some (.inl (a2 ++ (⟨#[0]⟩ : ByteArray), a3, 0))
     else none)
    else if (192 : Int) ≤ (wrap64 (bt a0 a1)) then (if (nz a0.size) ≤ (wrap64 (a1 + 1)) then some (.inl ((⟨#[]⟩ : ByteArray), 0, 2))
     else if 0 ≤ (wrap64 (a1 + 1)) then if (wrap64 (a1 + 1)) < nz a0.size then if a4 ≤ (wrap64 ((wrap64 ((wrap64 ((wrap64 (bt a0 a1)) - 192)) * 256)) + (wrap64 (bt a0 (wrap64 (a1 + 1)))))) then some (.inl ((⟨#[]⟩ : ByteArray), 0, 2))
     else if a3 < 0 then again a0 (wrap64 ((wrap64 ((wrap64 ((wrap64 (bt a0 a1)) - 192)) * 256)) + (wrap64 (bt a0 (wrap64 (a1 + 1)))))) a2 (wrap64 (a1 + 2)) (wrap64 ((wrap64 ((wrap64 ((wrap64 (bt a0 a1)) - 192)) * 256)) + (wrap64 (bt a0 (wrap64 (a1 + 1))))))
     else again a0 (wrap64 ((wrap64 ((wrap64 ((wrap64 (bt a0 a1)) - 192)) * 256)) + (wrap64 (bt a0 (wrap64 (a1 + 1)))))) a2 a3 (wrap64 ((wrap64 ((wrap64 ((wrap64 (bt a0 a1)) - 192)) * 256)) + (wrap64 (bt a0 (wrap64 (a1 + 1))))))
     else none
     else none)
    else if (64 : Int) ≤ (wrap64 (bt a0 a1)) then some (.inl ((⟨#[]⟩ : ByteArray), 0, 2))
    else if (nz a0.size) < (wrap64 ((wrap64 (a1 + 1)) + (wrap64 (bt a0 a1)))) then some (.inl ((⟨#[]⟩ : ByteArray), 0, 2))
    else if (0 : Int) ≤ (wrap64 ((wrap64 (a1 + 1)) + (wrap64 (bt a0 a1)))) then if (wrap64 ((wrap64 (a1 + 1)) + (wrap64 (bt a0 a1)))) ≤ (nz a0.size) then if (0 : Int) ≤ a1 then if a1 ≤ (wrap64 ((wrap64 (a1 + 1)) + (wrap64 (bt a0 a1)))) then if (nz a2.size) + (nz ((a0.extract a1.toNat ((wrap64 ((wrap64 (a1 + 1)) + (wrap64 (bt a0 a1)))).toNat)).size)) ≤ 9223372036854775807 then again a0 (wrap64 (a1 + (wrap64 ((1 : Int) + (wrap64 (bt a0 a1)))))) (a2 ++ (a0.extract a1.toNat ((wrap64 ((wrap64 (a1 + 1)) + (wrap64 (bt a0 a1)))).toNat))) a3 a4 else none
    else none
    else none
    else none
    else none
    else none
    else none)
   else some (.inr ()))
  else some (.inr ())
noncomputable def g120.l6 : Nat → ByteArray → Int → ByteArray → Int → Int → Option ((ByteArray × Int × Int) ⊕ Unit)
  | 0, _, _, _, _, _ => none
  | k + 1, a0, a1, a2, a3, a4 => g120.s6 (g120.l6 k) a0 a1 a2 a3 a4
def g120.n6 : Norm := ⟨[0, 1, 7, 8, 9], [(false, [.k .str]), (false, [.k (.int .i64)]), (false, [.k .str]), (false, [.k (.int .i64)]), (false, [.k (.int .i64)])], []⟩
def g120.x6 : List ExitS := [{ e := .ret, n := ⟨[4, 5, 6], [(false, [.k .str]), (false, [.k (.int .i64)]), (false, [.k (.int .i64)])], []⟩, raw := ByteArray × Int × Int, ret := fun y => (((y.1, ()), (y.2.1, ()), (y.2.2, ()), ()), ()), un := fun z => (z.1.1.1, z.1.2.1.1, z.1.2.2.1.1) },
  { e := .exit 0, n := ⟨[], [], []⟩, raw := Unit, ret := fun y => ((), ()), un := fun z => () }]
noncomputable def g120.m6 (k : Nat) (x : g120.n6.X) : Option (SumR g120.x6) := g120.l6 k x.1.1.1 x.1.2.1.1 x.1.2.2.1.1 x.1.2.2.2.1.1 x.1.2.2.2.2.1.1
noncomputable def g120.L6 : LSpec := { id := 6, n := g120.n6, exits := g120.x6, sem := g120.m6 9223372036854775808 }
theorem g120.e6 : ∀ k x, g120.m6 (k + 1) x = roundS Try.prog kap g120.G [] (loopAt Try.f120 6) 96 0 g120.n6 g120.x6 (g120.m6 k) x := fun k x => by kernel_rfl
theorem g120.k6 : LOk Try.prog 0 96 g120.L6 (loopAt Try.f120 6) := LOk.of (κ := kap) (l := g120.L6) g120.G_ok follows (L := []) (lam_by (fn := Try.f120) (by kernel_rfl) lamAll_nil) g120.m6 (unAll_cons (fun _ => rfl) (unAll_cons (fun _ => rfl) unAll_nil)) (fun _ => rfl) g120.e6 9223372036854775808 rfl
noncomputable def g120.f (b0 : ByteArray) (b1 : Int) : Option (ByteArray × Int × Int) :=
  if b1 < 0 then some ((⟨#[]⟩ : ByteArray), 0, 1)
  else if (nz b0.size) < b1 then some ((⟨#[]⟩ : ByteArray), 0, 1)
  else (g120.l6 9223372036854775808 b0 b1 (⟨#[]⟩ : ByteArray) (-1) b1).bind fun (y3 : (ByteArray × Int × Int) ⊕ Unit) =>
  (match y3 with
  | .inl y4 => some y4
  | .inr y5 => some ((⟨#[]⟩ : ByteArray), 0, 2))
noncomputable def g120.sp : FSpec := { f := 120, ins := [(false, [.k .str]), (false, [.k (.int .i64)])], inE := [], outs := [(false, [.k .str]), (false, [.k (.int .i64)]), (false, [.k (.int .i64)])], outE := [], raw := ByteArray × Int × Int, sem := fun x => g120.f x.1.1.1 x.1.2.1.1, ret := fun y => (((y.1, ()), (y.2.1, ()), (y.2.2, ()), ()), ()) }
theorem g120.ok : FOk Try.prog g120.sp := fn_ok (κ := kap) g120.G_ok follows (L := [g120.L6]) (fn := Try.f120) (c := bodyOf Try.f120) rfl (by decide) rfl (lam_by (fn := Try.f120) (by kernel_rfl) (lamAll_cons g120.k6 lamAll_nil)) (un := fun z => (z.1.1.1, z.1.2.1.1, z.1.2.2.1.1)) (fun _ => rfl) (by decide) (fun x => by kernel_rfl)
/-! ### beadroll/beadrollref10.Parts -/
noncomputable def g67.G : List FSpec := []
theorem g67.G_ok : ∀ sp ∈ g67.G, FOk Try.prog sp := allOk_nil
noncomputable def g67.f (b0 : Int) : Option ByteArray :=
  if b0 = 1 then some (⟨#[52]⟩ : ByteArray)
  else if b0 = 28 then some (⟨#[104]⟩ : ByteArray)
  else if b0 = 2 then (if b0 = 2 then some (⟨#[110]⟩ : ByteArray)
   else if b0 = 15 then some (⟨#[50, 110]⟩ : ByteArray)
   else if b0 = 6 then some (⟨#[110, 110, 52, 52, 52, 52, 52]⟩ : ByteArray)
   else if b0 = 16 then some (⟨#[116]⟩ : ByteArray)
   else if b0 = 33 then some (⟨#[50, 50, 50, 117]⟩ : ByteArray)
   else some (⟨#[111]⟩ : ByteArray))
  else if b0 = 5 then (if b0 = 5 then some (⟨#[110]⟩ : ByteArray)
   else if b0 = 15 then some (⟨#[50, 110]⟩ : ByteArray)
   else if b0 = 6 then some (⟨#[110, 110, 52, 52, 52, 52, 52]⟩ : ByteArray)
   else if b0 = 16 then some (⟨#[116]⟩ : ByteArray)
   else if b0 = 33 then some (⟨#[50, 50, 50, 117]⟩ : ByteArray)
   else some (⟨#[111]⟩ : ByteArray))
  else if b0 = 12 then some (⟨#[110]⟩ : ByteArray)
  else if b0 = 15 then some (⟨#[50, 110]⟩ : ByteArray)
  else if b0 = 6 then some (⟨#[110, 110, 52, 52, 52, 52, 52]⟩ : ByteArray)
  else if b0 = 16 then some (⟨#[116]⟩ : ByteArray)
  else if b0 = 33 then some (⟨#[50, 50, 50, 117]⟩ : ByteArray)
  else some (⟨#[111]⟩ : ByteArray)
noncomputable def g67.sp : FSpec := { f := 67, ins := [(false, [.k (.int .i64)])], inE := [], outs := [(false, [.k .str])], outE := [], raw := ByteArray, sem := fun x => g67.f x.1.1.1, ret := fun y => (((y, ()), ()), ()) }
theorem g67.ok : FOk Try.prog g67.sp := fn_ok (κ := kap) g67.G_ok follows (L := []) (fn := Try.f67) (c := bodyOf Try.f67) rfl (by decide) rfl (lam_by (fn := Try.f67) (by kernel_rfl) lamAll_nil) (un := fun z => z.1.1.1) (fun _ => rfl) (by decide) (fun x => by kernel_rfl)
/-! ### beadroll/beadrollref01.Width -/
noncomputable def g148.G : List FSpec := []
theorem g148.G_ok : ∀ sp ∈ g148.G, FOk Try.prog sp := allOk_nil
noncomputable def g148.f (b0 : Int) : Option Bool :=
  if b0 = 1 then some true
  else if b0 = 2 then some true
  else if b0 = 4 then some true
  else some (decide (b0 = 8))
noncomputable def g148.sp : FSpec := { f := 148, ins := [(false, [.k (.int .i64)])], inE := [], outs := [(false, [.k .bool])], outE := [], raw := Bool, sem := fun x => g148.f x.1.1.1, ret := fun y => (((y, ()), ()), ()) }
theorem g148.ok : FOk Try.prog g148.sp := fn_ok (κ := kap) g148.G_ok follows (L := []) (fn := Try.f148) (c := bodyOf Try.f148) rfl (by decide) rfl (lam_by (fn := Try.f148) (by kernel_rfl) lamAll_nil) (un := fun z => z.1.1.1) (fun _ => rfl) (by decide) (fun x => by kernel_rfl)
/-! ### beadroll/beadrollref01.Number -/
noncomputable def g78.G : List FSpec := []
theorem g78.G_ok : ∀ sp ∈ g78.G, FOk Try.prog sp := allOk_nil
noncomputable def g78.s3 (again : ByteArray → Int → Int → Option Int) (a0 : ByteArray) (a1 : Int) (a2 : Int) : Option Int :=
  if a2 < (nz a0.size) then (if 0 ≤ a2 then if a2 < nz a0.size then again a0 (IntKind.wrap .u64 ((IntKind.wrap .u64 (a1 * 256)) + (IntKind.wrap .u64 (bt a0 a2)))) (wrap64 (a2 + 1)) else none
   else none)
  else some a1
noncomputable def g78.l3 : Nat → ByteArray → Int → Int → Option Int
  | 0, _, _, _ => none
  | k + 1, a0, a1, a2 => g78.s3 (g78.l3 k) a0 a1 a2
def g78.n3 : Norm := ⟨[0, 3, 4], [(false, [.k .str]), (false, [.k (.int .u64)]), (false, [.k (.int .i64)])], []⟩
def g78.x3 : List ExitS := [{ e := .exit 0, n := ⟨[3], [(false, [.k (.int .u64)])], []⟩, raw := Int, ret := fun y => (((y, ()), ()), ()), un := fun z => z.1.1.1 }]
noncomputable def g78.m3 (k : Nat) (x : g78.n3.X) : Option (SumR g78.x3) := g78.l3 k x.1.1.1 x.1.2.1.1 x.1.2.2.1.1
noncomputable def g78.L3 : LSpec := { id := 3, n := g78.n3, exits := g78.x3, sem := g78.m3 9223372036854775808 }
theorem g78.e3 : ∀ k x, g78.m3 (k + 1) x = roundS Try.prog kap g78.G [] (loopAt Try.f78 3) 19 0 g78.n3 g78.x3 (g78.m3 k) x := fun k x => by kernel_rfl
theorem g78.k3 : LOk Try.prog 0 19 g78.L3 (loopAt Try.f78 3) := LOk.of (κ := kap) (l := g78.L3) g78.G_ok follows (L := []) (lam_by (fn := Try.f78) (by kernel_rfl) lamAll_nil) g78.m3 (unAll_cons (fun _ => rfl) unAll_nil) (fun _ => rfl) g78.e3 9223372036854775808 rfl
noncomputable def g78.f (b0 : ByteArray) : Option Int :=
  (g78.l3 9223372036854775808 b0 0 0).bind fun (y1 : Int) =>
  some y1
noncomputable def g78.sp : FSpec := { f := 78, ins := [(false, [.k .str])], inE := [], outs := [(false, [.k (.int .u64)])], outE := [], raw := Int, sem := fun x => g78.f x.1.1.1, ret := fun y => (((y, ()), ()), ()) }
theorem g78.ok : FOk Try.prog g78.sp := fn_ok (κ := kap) g78.G_ok follows (L := [g78.L3]) (fn := Try.f78) (c := bodyOf Try.f78) rfl (by decide) rfl (lam_by (fn := Try.f78) (by kernel_rfl) (lamAll_cons g78.k3 lamAll_nil)) (un := fun z => z.1.1.1) (fun _ => rfl) (by decide) (fun x => by kernel_rfl)
/-! ### beadroll/beadrollref01.Cut -/
noncomputable def g149.G : List FSpec := [g148.sp, g78.sp]
theorem g149.G_ok : ∀ sp ∈ g149.G, FOk Try.prog sp := allOk_cons g148.ok (allOk_cons g78.ok allOk_nil)
noncomputable def g149.f (b0 : ByteArray) (b1 : Int) : Option (ByteArray × ByteArray × Int) :=
  (g148.f b1).bind fun (y1 : Bool) =>
  if (!y1) = true then some ((⟨#[]⟩ : ByteArray), (⟨#[]⟩ : ByteArray), 1)
  else if b1 = 8 then some ((⟨#[]⟩ : ByteArray), (⟨#[]⟩ : ByteArray), 1)
  else if (nz b0.size) < b1 then some ((⟨#[]⟩ : ByteArray), (⟨#[]⟩ : ByteArray), 2)
  else if (0 : Int) ≤ b1 then if b1 ≤ (nz b0.size) then (g78.f (b0.extract 0 b1.toNat)).bind fun (y2 : Int) =>
  if (IntKind.wrap .u64 (wrap64 ((nz b0.size) - b1))) < y2 then some ((⟨#[]⟩ : ByteArray), (⟨#[]⟩ : ByteArray), 2)
  else if (0 : Int) ≤ (wrap64 (b1 + (wrap64 y2))) then if (wrap64 (b1 + (wrap64 y2))) ≤ (nz b0.size) then if (0 : Int) ≤ b1 then if b1 ≤ (wrap64 (b1 + (wrap64 y2))) then if (0 : Int) ≤ (wrap64 (b1 + (wrap64 y2))) then if (wrap64 (b1 + (wrap64 y2))) ≤ (nz b0.size) then some (b0.extract b1.toNat ((wrap64 (b1 + (wrap64 y2))).toNat), b0.extract ((wrap64 (b1 + (wrap64 y2))).toNat) b0.size, 0) else none
  else none
  else none
  else none
  else none
  else none
  else none
  else none
noncomputable def g149.sp : FSpec := { f := 149, ins := [(false, [.k .str]), (false, [.k (.int .i64)])], inE := [], outs := [(false, [.k .str]), (false, [.k .str]), (false, [.k (.int .i64)])], outE := [], raw := ByteArray × ByteArray × Int, sem := fun x => g149.f x.1.1.1 x.1.2.1.1, ret := fun y => (((y.1, ()), (y.2.1, ()), (y.2.2, ()), ()), ()) }
theorem g149.ok : FOk Try.prog g149.sp := fn_ok (κ := kap) g149.G_ok follows (L := []) (fn := Try.f149) (c := bodyOf Try.f149) rfl (by decide) rfl (lam_by (fn := Try.f149) (by kernel_rfl) lamAll_nil) (un := fun z => (z.1.1.1, z.1.2.1.1, z.1.2.2.1.1)) (fun _ => rfl) (by decide) (fun x => by kernel_rfl)
/-! ### beadroll/beadrollref01.Pieces -/
noncomputable def g121.G : List FSpec := [g148.sp, g149.sp]
theorem g121.G_ok : ∀ sp ∈ g121.G, FOk Try.prog sp := allOk_cons g148.ok (allOk_cons g149.ok allOk_nil)
noncomputable def g121.s4 (again : ByteArray → Int → List ByteArray → Option ((List ByteArray × Int) ⊕ List ByteArray)) (a0 : ByteArray) (a1 : Int) (a2 : List ByteArray) : Option ((List ByteArray × Int) ⊕ List ByteArray) :=
  if (0 : Int) < (nz a0.size) then ((g149.f a0 a1).bind fun (y2 : ByteArray × ByteArray × Int) =>
   if y2.2.2 = 0 then (if nz a2.length + nz (([y2.1] : List ByteArray).length) ≤ room Try.prog 9 then again y2.2.1 a1 (a2 ++ ([y2.1] : List ByteArray)) else none)
   else some (.inl (([] : List ByteArray), y2.2.2)))
  else some (.inr a2)
noncomputable def g121.l4 : Nat → ByteArray → Int → List ByteArray → Option ((List ByteArray × Int) ⊕ List ByteArray)
  | 0, _, _, _ => none
  | k + 1, a0, a1, a2 => g121.s4 (g121.l4 k) a0 a1 a2
def g121.n4 : Norm := ⟨[0, 1, 6], [(false, [.k .str]), (false, [.k (.int .i64)]), (false, [.sl 0])], [some (.lst 9 .str)]⟩
def g121.x4 : List ExitS := [{ e := .ret, n := ⟨[4, 5], [(false, [.k (.list 9 .str)]), (false, [.k (.int .i64)])], []⟩, raw := List ByteArray × Int, ret := fun y => (((y.1, ()), (y.2, ()), ()), ()), un := fun z => (z.1.1.1, z.1.2.1.1) },
  { e := .exit 0, n := ⟨[6], [(false, [.sl 0])], [some (.lst 9 .str)]⟩, raw := List ByteArray, ret := fun y => ((((), ()), ()), (y, ())), un := fun z => z.2.1 }]
noncomputable def g121.m4 (k : Nat) (x : g121.n4.X) : Option (SumR g121.x4) := g121.l4 k x.1.1.1 x.1.2.1.1 x.2.1
noncomputable def g121.L4 : LSpec := { id := 4, n := g121.n4, exits := g121.x4, sem := g121.m4 9223372036854775808 }
theorem g121.e4 : ∀ k x, g121.m4 (k + 1) x = roundS Try.prog kap g121.G [] (loopAt Try.f121 4) 36 0 g121.n4 g121.x4 (g121.m4 k) x := fun k x => by kernel_rfl
theorem g121.k4 : LOk Try.prog 0 36 g121.L4 (loopAt Try.f121 4) := LOk.of (κ := kap) (l := g121.L4) g121.G_ok follows (L := []) (lam_by (fn := Try.f121) (by kernel_rfl) lamAll_nil) g121.m4 (unAll_cons (fun _ => rfl) (unAll_cons (fun _ => rfl) unAll_nil)) (fun _ => rfl) g121.e4 9223372036854775808 rfl
noncomputable def g121.f (b0 : ByteArray) (b1 : Int) : Option (List ByteArray × Int) :=
  (g148.f b1).bind fun (y1 : Bool) =>
  if (!y1) = true then some (([] : List ByteArray), 1)
  else if b1 = 8 then some (([] : List ByteArray), 1)
  else (g121.l4 9223372036854775808 b0 b1 ([] : List ByteArray)).bind fun (y3 : (List ByteArray × Int) ⊕ List ByteArray) =>
  (match y3 with
  | .inl y4 => some y4
  | .inr y5 => some (y5, 0))
noncomputable def g121.sp : FSpec := { f := 121, ins := [(false, [.k .str]), (false, [.k (.int .i64)])], inE := [], outs := [(false, [.k (.list 9 .str)]), (false, [.k (.int .i64)])], outE := [], raw := List ByteArray × Int, sem := fun x => g121.f x.1.1.1 x.1.2.1.1, ret := fun y => (((y.1, ()), (y.2, ()), ()), ()) }
theorem g121.ok : FOk Try.prog g121.sp := fn_ok (κ := kap) g121.G_ok follows (L := [g121.L4]) (fn := Try.f121) (c := bodyOf Try.f121) rfl (by decide) rfl (lam_by (fn := Try.f121) (by kernel_rfl) (lamAll_cons g121.k4 lamAll_nil)) (un := fun z => (z.1.1.1, z.1.2.1.1)) (fun _ => rfl) (by decide) (fun x => by kernel_rfl)
/-! ### beadroll/beadrollref10.Read -/
noncomputable def g66.G : List FSpec := [g67.sp, g120.sp, g121.sp]
theorem g66.G_ok : ∀ sp ∈ g66.G, FOk Try.prog sp := allOk_cons g67.ok (allOk_cons g120.ok (allOk_cons g121.ok allOk_nil))
noncomputable def g66.s5 (again : ByteArray → Int → Int → ByteArray → Int → List ByteArray → Option ((List ByteArray × Bool) ⊕ (Int × Int × List ByteArray))) (a0 : ByteArray) (a1 : Int) (a2 : Int) (a3 : ByteArray) (a4 : Int) (a5 : List ByteArray) : Option ((List ByteArray × Bool) ⊕ (Int × Int × List ByteArray)) :=
  if a4 < (nz a3.size) then (if 0 ≤ a4 then if a4 < nz a3.size then if (bt a3 a4) = 110 then (if (bt a3 a4) = 110 then ((g120.f a0 a1).bind fun (y2 : ByteArray × Int × Int) =>
     if y2.2.2 = 0 then (if 0 ≤ a4 then if a4 < nz a3.size then if (bt a3 a4) = 117 then (if (0 : Int) ≤ y2.2.1 then if y2.2.1 ≤ (nz a0.size) then if (0 : Int) ≤ a1 then if a1 ≤ y2.2.1 then if y2.1 = (a0.extract a1.toNat y2.2.1.toNat) then (if nz a5.length + nz (([y2.1] : List ByteArray).length) ≤ room Try.prog 9 then again a0 y2.2.1 a2 a3 (wrap64 (a4 + 1)) (a5 ++ ([y2.1] : List ByteArray)) else none)
       else some (.inl (([] : List ByteArray), false))
       else none
       else none
       else none
       else none)
      else if nz a5.length + nz (([y2.1] : List ByteArray).length) ≤ room Try.prog 9 then again a0 y2.2.1 a2 a3 (wrap64 (a4 + 1)) (a5 ++ ([y2.1] : List ByteArray)) else none
      else none
      else none)
     else some (.inl (([] : List ByteArray), false)))
    else if (bt a3 a4) = 116 then (if (0 : Int) ≤ a1 then if a1 ≤ (nz a0.size) then (g121.f (a0.extract a1.toNat a0.size) 1).bind fun (y3 : List ByteArray × Int) =>
     if y3.2 = 0 then (if (nz y3.1.length) = 0 then some (.inl (([] : List ByteArray), false))
      else if a2 < (wrap64 (a1 + (wrap64 (a2 - a1)))) then some (.inl (([] : List ByteArray), false))
      else if (0 : Int) ≤ (wrap64 (a1 + (wrap64 (a2 - a1)))) then if (wrap64 (a1 + (wrap64 (a2 - a1)))) ≤ (nz a0.size) then if (0 : Int) ≤ a1 then if a1 ≤ (wrap64 (a1 + (wrap64 (a2 - a1)))) then if nz a5.length + nz (([a0.extract a1.toNat ((wrap64 (a1 + (wrap64 (a2 - a1)))).toNat)] : List ByteArray).length) ≤ room Try.prog 9 then again a0 (wrap64 (a1 + (wrap64 (a2 - a1)))) a2 a3 (wrap64 (a4 + 1)) (a5 ++ ([a0.extract a1.toNat ((wrap64 (a1 + (wrap64 (a2 - a1)))).toNat)] : List ByteArray)) else none
      else none
      else none
      else none
      else none)
     else some (.inl (([] : List ByteArray), false))
     else none
     else none)
    else if (bt a3 a4) = 111 then (if a2 < (wrap64 (a1 + (wrap64 (a2 - a1)))) then some (.inl (([] : List ByteArray), false))
     else if (0 : Int) ≤ (wrap64 (a1 + (wrap64 (a2 - a1)))) then if (wrap64 (a1 + (wrap64 (a2 - a1)))) ≤ (nz a0.size) then if (0 : Int) ≤ a1 then if a1 ≤ (wrap64 (a1 + (wrap64 (a2 - a1)))) then if nz a5.length + nz (([a0.extract a1.toNat ((wrap64 (a1 + (wrap64 (a2 - a1)))).toNat)] : List ByteArray).length) ≤ room Try.prog 9 then again a0 (wrap64 (a1 + (wrap64 (a2 - a1)))) a2 a3 (wrap64 (a4 + 1)) (a5 ++ ([a0.extract a1.toNat ((wrap64 (a1 + (wrap64 (a2 - a1)))).toNat)] : List ByteArray)) else none
     else none
     else none
     else none
     else none)
    else if (bt a3 a4) = 104 then (if a2 < (wrap64 (a1 + 16)) then some (.inl (([] : List ByteArray), false))
     else if (0 : Int) ≤ (wrap64 (a1 + 16)) then if (wrap64 (a1 + 16)) ≤ (nz a0.size) then if (0 : Int) ≤ a1 then if a1 ≤ (wrap64 (a1 + 16)) then if nz a5.length + nz (([a0.extract a1.toNat ((wrap64 (a1 + 16)).toNat)] : List ByteArray).length) ≤ room Try.prog 9 then again a0 (wrap64 (a1 + 16)) a2 a3 (wrap64 (a4 + 1)) (a5 ++ ([a0.extract a1.toNat ((wrap64 (a1 + 16)).toNat)] : List ByteArray)) else none
     else none
     else none
     else none
     else none)
    else if 0 ≤ a4 then if a4 < nz a3.size then if a2 < (wrap64 (a1 + (wrap64 ((wrap64 (bt a3 a4)) - 48)))) then some (.inl (([] : List ByteArray), false))
    else if (0 : Int) ≤ (wrap64 (a1 + (wrap64 ((wrap64 (bt a3 a4)) - 48)))) then if (wrap64 (a1 + (wrap64 ((wrap64 (bt a3 a4)) - 48)))) ≤ (nz a0.size) then if (0 : Int) ≤ a1 then if a1 ≤ (wrap64 (a1 + (wrap64 ((wrap64 (bt a3 a4)) - 48)))) then if nz a5.length + nz (([a0.extract a1.toNat ((wrap64 (a1 + (wrap64 ((wrap64 (bt a3 a4)) - 48)))).toNat)] : List ByteArray).length) ≤ room Try.prog 9 then again a0 (wrap64 (a1 + (wrap64 ((wrap64 (bt a3 a4)) - 48)))) a2 a3 (wrap64 (a4 + 1)) (a5 ++ ([a0.extract a1.toNat ((wrap64 (a1 + (wrap64 ((wrap64 (bt a3 a4)) - 48)))).toNat)] : List ByteArray)) else none
    else none
    else none
    else none
    else none
    else none
    else none)
   else if (bt a3 a4) = 117 then ((g120.f a0 a1).bind fun (y4 : ByteArray × Int × Int) =>
    if y4.2.2 = 0 then (if 0 ≤ a4 then if a4 < nz a3.size then if (bt a3 a4) = 117 then (if (0 : Int) ≤ y4.2.1 then if y4.2.1 ≤ (nz a0.size) then if (0 : Int) ≤ a1 then if a1 ≤ y4.2.1 then if y4.1 = (a0.extract a1.toNat y4.2.1.toNat) then (if nz a5.length + nz (([y4.1] : List ByteArray).length) ≤ room Try.prog 9 then again a0 y4.2.1 a2 a3 (wrap64 (a4 + 1)) (a5 ++ ([y4.1] : List ByteArray)) else none)
      else some (.inl (([] : List ByteArray), false))
      else none
      else none
      else none
      else none)
     else if nz a5.length + nz (([y4.1] : List ByteArray).length) ≤ room Try.prog 9 then again a0 y4.2.1 a2 a3 (wrap64 (a4 + 1)) (a5 ++ ([y4.1] : List ByteArray)) else none
     else none
     else none)
    else some (.inl (([] : List ByteArray), false)))
   else if (bt a3 a4) = 116 then (if (0 : Int) ≤ a1 then if a1 ≤ (nz a0.size) then (g121.f (a0.extract a1.toNat a0.size) 1).bind fun (y5 : List ByteArray × Int) =>
    if y5.2 = 0 then (if (nz y5.1.length) = 0 then some (.inl (([] : List ByteArray), false))
     else if a2 < (wrap64 (a1 + (wrap64 (a2 - a1)))) then some (.inl (([] : List ByteArray), false))
     else if (0 : Int) ≤ (wrap64 (a1 + (wrap64 (a2 - a1)))) then if (wrap64 (a1 + (wrap64 (a2 - a1)))) ≤ (nz a0.size) then if (0 : Int) ≤ a1 then if a1 ≤ (wrap64 (a1 + (wrap64 (a2 - a1)))) then if nz a5.length + nz (([a0.extract a1.toNat ((wrap64 (a1 + (wrap64 (a2 - a1)))).toNat)] : List ByteArray).length) ≤ room Try.prog 9 then again a0 (wrap64 (a1 + (wrap64 (a2 - a1)))) a2 a3 (wrap64 (a4 + 1)) (a5 ++ ([a0.extract a1.toNat ((wrap64 (a1 + (wrap64 (a2 - a1)))).toNat)] : List ByteArray)) else none
     else none
     else none
     else none
     else none)
    else some (.inl (([] : List ByteArray), false))
    else none
    else none)
   else if (bt a3 a4) = 111 then (if a2 < (wrap64 (a1 + (wrap64 (a2 - a1)))) then some (.inl (([] : List ByteArray), false))
    else if (0 : Int) ≤ (wrap64 (a1 + (wrap64 (a2 - a1)))) then if (wrap64 (a1 + (wrap64 (a2 - a1)))) ≤ (nz a0.size) then if (0 : Int) ≤ a1 then if a1 ≤ (wrap64 (a1 + (wrap64 (a2 - a1)))) then if nz a5.length + nz (([a0.extract a1.toNat ((wrap64 (a1 + (wrap64 (a2 - a1)))).toNat)] : List ByteArray).length) ≤ room Try.prog 9 then again a0 (wrap64 (a1 + (wrap64 (a2 - a1)))) a2 a3 (wrap64 (a4 + 1)) (a5 ++ ([a0.extract a1.toNat ((wrap64 (a1 + (wrap64 (a2 - a1)))).toNat)] : List ByteArray)) else none
    else none
    else none
    else none
    else none)
   else if (bt a3 a4) = 104 then (if a2 < (wrap64 (a1 + 16)) then some (.inl (([] : List ByteArray), false))
    else if (0 : Int) ≤ (wrap64 (a1 + 16)) then if (wrap64 (a1 + 16)) ≤ (nz a0.size) then if (0 : Int) ≤ a1 then if a1 ≤ (wrap64 (a1 + 16)) then if nz a5.length + nz (([a0.extract a1.toNat ((wrap64 (a1 + 16)).toNat)] : List ByteArray).length) ≤ room Try.prog 9 then again a0 (wrap64 (a1 + 16)) a2 a3 (wrap64 (a4 + 1)) (a5 ++ ([a0.extract a1.toNat ((wrap64 (a1 + 16)).toNat)] : List ByteArray)) else none
    else none
    else none
    else none
    else none)
   else if 0 ≤ a4 then if a4 < nz a3.size then if a2 < (wrap64 (a1 + (wrap64 ((wrap64 (bt a3 a4)) - 48)))) then some (.inl (([] : List ByteArray), false))
   else if (0 : Int) ≤ (wrap64 (a1 + (wrap64 ((wrap64 (bt a3 a4)) - 48)))) then if (wrap64 (a1 + (wrap64 ((wrap64 (bt a3 a4)) - 48)))) ≤ (nz a0.size) then if (0 : Int) ≤ a1 then if a1 ≤ (wrap64 (a1 + (wrap64 ((wrap64 (bt a3 a4)) - 48)))) then if nz a5.length + nz (([a0.extract a1.toNat ((wrap64 (a1 + (wrap64 ((wrap64 (bt a3 a4)) - 48)))).toNat)] : List ByteArray).length) ≤ room Try.prog 9 then again a0 (wrap64 (a1 + (wrap64 ((wrap64 (bt a3 a4)) - 48)))) a2 a3 (wrap64 (a4 + 1)) (a5 ++ ([a0.extract a1.toNat ((wrap64 (a1 + (wrap64 ((wrap64 (bt a3 a4)) - 48)))).toNat)] : List ByteArray)) else none
   else none
   else none
   else none
   else none
   else none
   else none
   else none
   else none)
  else some (.inr (a1, a2, a5))
noncomputable def g66.l5 : Nat → ByteArray → Int → Int → ByteArray → Int → List ByteArray → Option ((List ByteArray × Bool) ⊕ (Int × Int × List ByteArray))
  | 0, _, _, _, _, _, _ => none
  | k + 1, a0, a1, a2, a3, a4, a5 => g66.s5 (g66.l5 k) a0 a1 a2 a3 a4 a5
def g66.n5 : Norm := ⟨[0, 1, 2, 10, 11, 12], [(false, [.k .str]), (false, [.k (.int .i64)]), (false, [.k (.int .i64)]), (false, [.sl 0]), (false, [.k .str]), (false, [.k (.int .i64)])], [some (.lst 9 .str)]⟩
def g66.x5 : List ExitS := [{ e := .ret, n := ⟨[8, 9], [(false, [.k (.list 9 .str)]), (false, [.k .bool])], []⟩, raw := List ByteArray × Bool, ret := fun y => (((y.1, ()), (y.2, ()), ()), ()), un := fun z => (z.1.1.1, z.1.2.1.1) },
  { e := .exit 0, n := ⟨[1, 2, 10], [(false, [.k (.int .i64)]), (false, [.k (.int .i64)]), (false, [.sl 0])], [some (.lst 9 .str)]⟩, raw := Int × Int × List ByteArray, ret := fun y => (((y.1, ()), (y.2.1, ()), ((), ()), ()), (y.2.2, ())), un := fun z => (z.1.1.1, z.1.2.1.1, z.2.1) }]
noncomputable def g66.m5 (k : Nat) (x : g66.n5.X) : Option (SumR g66.x5) := g66.l5 k x.1.1.1 x.1.2.1.1 x.1.2.2.1.1 x.1.2.2.2.2.1.1 x.1.2.2.2.2.2.1.1 x.2.1
noncomputable def g66.L5 : LSpec := { id := 5, n := g66.n5, exits := g66.x5, sem := g66.m5 9223372036854775808 }
theorem g66.e5 : ∀ k x, g66.m5 (k + 1) x = roundS Try.prog kap g66.G [] (loopAt Try.f66 5) 116 0 g66.n5 g66.x5 (g66.m5 k) x := fun k x => by kernel_rfl
theorem g66.k5 : LOk Try.prog 0 116 g66.L5 (loopAt Try.f66 5) := LOk.of (κ := kap) (l := g66.L5) g66.G_ok follows (L := []) (lam_by (fn := Try.f66) (by kernel_rfl) lamAll_nil) g66.m5 (unAll_cons (fun _ => rfl) (unAll_cons (fun _ => rfl) unAll_nil)) (fun _ => rfl) g66.e5 9223372036854775808 rfl
noncomputable def g66.f (b0 : ByteArray) (b1 : Int) (b2 : Int) (b3 : Int) : Option (List ByteArray × Bool) :=
  (g67.f b3).bind fun (y1 : ByteArray) =>
  if (0 : Int) ≤ b2 then if b2 ≤ (nz b0.size) then (g66.l5 9223372036854775808 (b0.extract 0 b2.toNat) b1 b2 y1 0 ([] : List ByteArray)).bind fun (y6 : (List ByteArray × Bool) ⊕ (Int × Int × List ByteArray)) =>
  (match y6 with
  | .inl y7 => some y7
  | .inr y8 => some (y8.2.2, decide (y8.1 = y8.2.1)))
  else none
  else none
noncomputable def g66.sp : FSpec := { f := 66, ins := [(false, [.k .str]), (false, [.k (.int .i64)]), (false, [.k (.int .i64)]), (false, [.k (.int .i64)])], inE := [], outs := [(false, [.k (.list 9 .str)]), (false, [.k .bool])], outE := [], raw := List ByteArray × Bool, sem := fun x => g66.f x.1.1.1 x.1.2.1.1 x.1.2.2.1.1 x.1.2.2.2.1.1, ret := fun y => (((y.1, ()), (y.2, ()), ()), ()) }
theorem g66.ok : FOk Try.prog g66.sp := fn_ok (κ := kap) g66.G_ok follows (L := [g66.L5]) (fn := Try.f66) (c := bodyOf Try.f66) rfl (by decide) rfl (lam_by (fn := Try.f66) (by kernel_rfl) (lamAll_cons g66.k5 lamAll_nil)) (un := fun z => (z.1.1.1, z.1.2.1.1)) (fun _ => rfl) (by decide) (fun x => by kernel_rfl)
/-! ### beadroll/beadrollref10.join -/
noncomputable def g117.G : List FSpec := []
theorem g117.G_ok : ∀ sp ∈ g117.G, FOk Try.prog sp := allOk_nil
noncomputable def g117.s3 (again : List ByteArray → ByteArray → Int → Option ByteArray) (a0 : List ByteArray) (a1 : ByteArray) (a2 : Int) : Option ByteArray :=
  if a2 < (nz a0.length) then (if 0 ≤ a2 then if a2 < nz a0.length then (match a0[a2.toNat]? with
   | some x1 => if (nz a1.size) + (nz x1.size) ≤ 9223372036854775807 then again a0 (a1 ++ x1) (wrap64 (a2 + 1)) else none
   | none => none)
   else none
   else none)
  else some a1
noncomputable def g117.l3 : Nat → List ByteArray → ByteArray → Int → Option ByteArray
  | 0, _, _, _ => none
  | k + 1, a0, a1, a2 => g117.s3 (g117.l3 k) a0 a1 a2
def g117.n3 : Norm := ⟨[0, 3, 4], [(false, [.k (.list 9 .str)]), (false, [.k .str]), (false, [.k (.int .i64)])], []⟩
def g117.x3 : List ExitS := [{ e := .exit 0, n := ⟨[3], [(false, [.k .str])], []⟩, raw := ByteArray, ret := fun y => (((y, ()), ()), ()), un := fun z => z.1.1.1 }]
noncomputable def g117.m3 (k : Nat) (x : g117.n3.X) : Option (SumR g117.x3) := g117.l3 k x.1.1.1 x.1.2.1.1 x.1.2.2.1.1
noncomputable def g117.L3 : LSpec := { id := 3, n := g117.n3, exits := g117.x3, sem := g117.m3 9223372036854775808 }
theorem g117.e3 : ∀ k x, g117.m3 (k + 1) x = roundS Try.prog kap g117.G [] (loopAt Try.f117 3) 18 0 g117.n3 g117.x3 (g117.m3 k) x := fun k x => by kernel_rfl
theorem g117.k3 : LOk Try.prog 0 18 g117.L3 (loopAt Try.f117 3) := LOk.of (κ := kap) (l := g117.L3) g117.G_ok follows (L := []) (lam_by (fn := Try.f117) (by kernel_rfl) lamAll_nil) g117.m3 (unAll_cons (fun _ => rfl) unAll_nil) (fun _ => rfl) g117.e3 9223372036854775808 rfl
noncomputable def g117.f (b0 : List ByteArray) : Option ByteArray :=
  (g117.l3 9223372036854775808 b0 (⟨#[]⟩ : ByteArray) 0).bind fun (y2 : ByteArray) =>
  some y2
noncomputable def g117.sp : FSpec := { f := 117, ins := [(false, [.k (.list 9 .str)])], inE := [], outs := [(false, [.k .str])], outE := [], raw := ByteArray, sem := fun x => g117.f x.1.1.1, ret := fun y => (((y, ()), ()), ()) }
theorem g117.ok : FOk Try.prog g117.sp := fn_ok (κ := kap) g117.G_ok follows (L := [g117.L3]) (fn := Try.f117) (c := bodyOf Try.f117) rfl (by decide) rfl (lam_by (fn := Try.f117) (by kernel_rfl) (lamAll_cons g117.k3 lamAll_nil)) (un := fun z => z.1.1.1) (fun _ => rfl) (by decide) (fun x => by kernel_rfl)
/-! ### beadroll/beadrollref10.Whole -/
noncomputable def g61.G : List FSpec := [g66.sp, g117.sp]
theorem g61.G_ok : ∀ sp ∈ g61.G, FOk Try.prog sp := allOk_cons g66.ok (allOk_cons g117.ok allOk_nil)
noncomputable def g61.f (b0 : ByteArray) (b1 : Int) (b2 : Int) (b3 : Int) : Option (ByteArray × Bool) :=
  (g66.f b0 b1 b2 b3).bind fun (y1 : List ByteArray × Bool) =>
  (g117.f y1.1).bind fun (y2 : ByteArray) =>
  if y1.2 = true then some (y2, decide ((nz y2.size) ≤ 65535))
  else some (y2, false)
noncomputable def g61.sp : FSpec := { f := 61, ins := [(false, [.k .str]), (false, [.k (.int .i64)]), (false, [.k (.int .i64)]), (false, [.k (.int .i64)])], inE := [], outs := [(false, [.k .str]), (false, [.k .bool])], outE := [], raw := ByteArray × Bool, sem := fun x => g61.f x.1.1.1 x.1.2.1.1 x.1.2.2.1.1 x.1.2.2.2.1.1, ret := fun y => (((y.1, ()), (y.2, ()), ()), ()) }
theorem g61.ok : FOk Try.prog g61.sp := fn_ok (κ := kap) g61.G_ok follows (L := []) (fn := Try.f61) (c := bodyOf Try.f61) rfl (by decide) rfl (lam_by (fn := Try.f61) (by kernel_rfl) lamAll_nil) (un := fun z => (z.1.1.1, z.1.2.1.1)) (fun _ => rfl) (by decide) (fun x => by kernel_rfl)
/-! ### beadroll/beadrollref10.Right -/
noncomputable def g17.G : List FSpec := [g61.sp]
theorem g17.G_ok : ∀ sp ∈ g17.G, FOk Try.prog sp := allOk_cons g61.ok allOk_nil
noncomputable def g17.f (b0 : Int) (b1 : ByteArray) : Option Bool :=
  (g61.f b1 0 (nz b1.size) b0).bind fun (y1 : ByteArray × Bool) =>
  if y1.2 = true then some (decide (y1.1 = b1))
  else some false
noncomputable def g17.sp : FSpec := { f := 17, ins := [(false, [.k (.int .i64)]), (false, [.k .str])], inE := [], outs := [(false, [.k .bool])], outE := [], raw := Bool, sem := fun x => g17.f x.1.1.1 x.1.2.1.1, ret := fun y => (((y, ()), ()), ()) }
theorem g17.ok : FOk Try.prog g17.sp := fn_ok (κ := kap) g17.G_ok follows (L := []) (fn := Try.f17) (c := bodyOf Try.f17) rfl (by decide) rfl (lam_by (fn := Try.f17) (by kernel_rfl) lamAll_nil) (un := fun z => z.1.1.1) (fun _ => rfl) (by decide) (fun x => by kernel_rfl)
/-! ### beadroll/beadrollref07.lower -/
/-! ### beadroll/beadrollref07.Fold -/
/-! ### beadroll/beadrollref10.Fold -/
/-! ### beadroll/beadrollref11.typed -/
/-! ### beadroll/beadrollref11.Right -/
/-! ### beadroll/rdata.parts -/
noncomputable def g115.G : List FSpec := []
theorem g115.G_ok : ∀ sp ∈ g115.G, FOk Try.prog sp := allOk_nil
noncomputable def g115.f (b0 : Int) : Option (List Int) :=
  if b0 = 1 then some ([4] : List Int)
  else if b0 = 28 then some ([16] : List Int)
  else if b0 = 2 then (if b0 = 2 then some ([(-1)] : List Int)
   else if b0 = 15 then some ([2, (-1)] : List Int)
   else if b0 = 6 then some ([(-1), (-1), 4, 4, 4, 4, 4] : List Int)
   else if b0 = 16 then some ([(-3)] : List Int)
   else if b0 = 33 then some ([2, 2, 2, (-2)] : List Int)
   else some ([(-4)] : List Int))
  else if b0 = 5 then (if b0 = 5 then some ([(-1)] : List Int)
   else if b0 = 15 then some ([2, (-1)] : List Int)
   else if b0 = 6 then some ([(-1), (-1), 4, 4, 4, 4, 4] : List Int)
   else if b0 = 16 then some ([(-3)] : List Int)
   else if b0 = 33 then some ([2, 2, 2, (-2)] : List Int)
   else some ([(-4)] : List Int))
  else if b0 = 12 then some ([(-1)] : List Int)
  else if b0 = 15 then some ([2, (-1)] : List Int)
  else if b0 = 6 then some ([(-1), (-1), 4, 4, 4, 4, 4] : List Int)
  else if b0 = 16 then some ([(-3)] : List Int)
  else if b0 = 33 then some ([2, 2, 2, (-2)] : List Int)
  else some ([(-4)] : List Int)
noncomputable def g115.sp : FSpec := { f := 115, ins := [(false, [.k (.int .i64)])], inE := [], outs := [(false, [.k (.list 3 (.int .i64))])], outE := [], raw := List Int, sem := fun x => g115.f x.1.1.1, ret := fun y => (((y, ()), ()), ()) }
theorem g115.ok : FOk Try.prog g115.sp := fn_ok (κ := kap) g115.G_ok follows (L := []) (fn := Try.f115) (c := bodyOf Try.f115) rfl (by decide) rfl (lam_by (fn := Try.f115) (by kernel_rfl) lamAll_nil) (un := fun z => z.1.1.1) (fun _ => rfl) (by decide) (fun x => by kernel_rfl)
/-! ### beadroll/rdata.part -/
noncomputable def g116.G : List FSpec := [g114.sp, g146.sp]
theorem g116.G_ok : ∀ sp ∈ g116.G, FOk Try.prog sp := allOk_cons g114.ok (allOk_cons g146.ok allOk_nil)
noncomputable def g116.f (b0 : ByteArray) (b1 : Int) (b2 : Int) (b3 : Int) : Option (ByteArray × Int × Bool) :=
  if b3 = (-1) then (if b3 = (-1) then (if (0 : Int) ≤ b2 then if b2 ≤ (nz b0.size) then (g114.f (b0.extract 0 b2.toNat) b1).bind fun (y1 : ByteArray × Int × Int) =>
    if y1.2.2 = 0 then (if b3 = (-1) then some (y1.1, y1.2.1, true)
     else if (0 : Int) ≤ y1.2.1 then if y1.2.1 ≤ (nz b0.size) then if (0 : Int) ≤ b1 then if b1 ≤ y1.2.1 then some (y1.1, y1.2.1, decide (y1.1 = (b0.extract b1.toNat y1.2.1.toNat))) else none
     else none
     else none
     else none)
    else some (y1.1, y1.2.1, false)
    else none
    else none)
   else if b3 = (-3) then (if (0 : Int) ≤ b2 then if b2 ≤ (nz b0.size) then if (0 : Int) ≤ b1 then if b1 ≤ b2 then (g146.f (b0.extract b1.toNat b2.toNat) 1).bind fun (y2 : List ByteArray × Int) =>
    if (0 : Int) ≤ b2 then if b2 ≤ (nz b0.size) then if (0 : Int) ≤ b1 then if b1 ≤ b2 then if y2.2 = 0 then some (b0.extract b1.toNat b2.toNat, b2, decide ((0 : Int) < (nz y2.1.length)))
    else some (b0.extract b1.toNat b2.toNat, b2, false)
    else none
    else none
    else none
    else none
    else none
    else none
    else none
    else none)
   else if b3 = (-4) then (if (0 : Int) ≤ b2 then if b2 ≤ (nz b0.size) then if (0 : Int) ≤ b1 then if b1 ≤ b2 then some (b0.extract b1.toNat b2.toNat, b2, true) else none
    else none
    else none
    else none)
   else if (wrap64 (b2 - b1)) < b3 then some ((⟨#[]⟩ : ByteArray), 0, false)
   else if (0 : Int) ≤ (wrap64 (b1 + b3)) then if (wrap64 (b1 + b3)) ≤ (nz b0.size) then if (0 : Int) ≤ b1 then if b1 ≤ (wrap64 (b1 + b3)) then some (b0.extract b1.toNat ((wrap64 (b1 + b3)).toNat), wrap64 (b1 + b3), true) else none
   else none
   else none
   else none)
  else if b3 = (-2) then (if (0 : Int) ≤ b2 then if b2 ≤ (nz b0.size) then (g114.f (b0.extract 0 b2.toNat) b1).bind fun (y3 : ByteArray × Int × Int) =>
   if y3.2.2 = 0 then (if b3 = (-1) then some (y3.1, y3.2.1, true)
    else if (0 : Int) ≤ y3.2.1 then if y3.2.1 ≤ (nz b0.size) then if (0 : Int) ≤ b1 then if b1 ≤ y3.2.1 then some (y3.1, y3.2.1, decide (y3.1 = (b0.extract b1.toNat y3.2.1.toNat))) else none
    else none
    else none
    else none)
   else some (y3.1, y3.2.1, false)
   else none
   else none)
  else if b3 = (-3) then (if (0 : Int) ≤ b2 then if b2 ≤ (nz b0.size) then if (0 : Int) ≤ b1 then if b1 ≤ b2 then (g146.f (b0.extract b1.toNat b2.toNat) 1).bind fun (y4 : List ByteArray × Int) =>
   if (0 : Int) ≤ b2 then if b2 ≤ (nz b0.size) then if (0 : Int) ≤ b1 then if b1 ≤ b2 then if y4.2 = 0 then some (b0.extract b1.toNat b2.toNat, b2, decide ((0 : Int) < (nz y4.1.length)))
   else some (b0.extract b1.toNat b2.toNat, b2, false)
   else none
   else none
   else none
   else none
   else none
   else none
   else none
   else none)
  else if b3 = (-4) then (if (0 : Int) ≤ b2 then if b2 ≤ (nz b0.size) then if (0 : Int) ≤ b1 then if b1 ≤ b2 then some (b0.extract b1.toNat b2.toNat, b2, true) else none
   else none
   else none
   else none)
  else if (wrap64 (b2 - b1)) < b3 then some ((⟨#[]⟩ : ByteArray), 0, false)
  else if (0 : Int) ≤ (wrap64 (b1 + b3)) then if (wrap64 (b1 + b3)) ≤ (nz b0.size) then if (0 : Int) ≤ b1 then if b1 ≤ (wrap64 (b1 + b3)) then some (b0.extract b1.toNat ((wrap64 (b1 + b3)).toNat), wrap64 (b1 + b3), true) else none
  else none
  else none
  else none
noncomputable def g116.sp : FSpec := { f := 116, ins := [(false, [.k .str]), (false, [.k (.int .i64)]), (false, [.k (.int .i64)]), (false, [.k (.int .i64)])], inE := [], outs := [(false, [.k .str]), (false, [.k (.int .i64)]), (false, [.k .bool])], outE := [], raw := ByteArray × Int × Bool, sem := fun x => g116.f x.1.1.1 x.1.2.1.1 x.1.2.2.1.1 x.1.2.2.2.1.1, ret := fun y => (((y.1, ()), (y.2.1, ()), (y.2.2, ()), ()), ()) }
theorem g116.ok : FOk Try.prog g116.sp := fn_ok (κ := kap) g116.G_ok follows (L := []) (fn := Try.f116) (c := bodyOf Try.f116) rfl (by decide) rfl (lam_by (fn := Try.f116) (by kernel_rfl) lamAll_nil) (un := fun z => (z.1.1.1, z.1.2.1.1, z.1.2.2.1.1)) (fun _ => rfl) (by decide) (fun x => by kernel_rfl)
/-! ### beadroll/rdata.Right$1 -/
noncomputable def g60.G : List FSpec := []
theorem g60.G_ok : ∀ sp ∈ g60.G, FOk Try.prog sp := allOk_nil
noncomputable def g60.f (b0 : Int) (b1 : ByteArray) (b2 : Int) : Option Int :=
  some (wrap64 (b2 + (nz b1.size)))
noncomputable def g60.sp : FSpec := { f := 60, ins := [(false, [.k (.int .i64)]), (false, [.k .str]), (false, [.ptr 0 0])], inE := [some (.cells [.k (.int .i64)] 3)], outs := [], outE := [some (.cells [.k (.int .i64)] 3)], raw := Int, sem := fun x => g60.f x.1.1.1 x.1.2.1.1 x.2.1.1, ret := fun y => ((), ((y, ()), ())) }
theorem g60.ok : FOk Try.prog g60.sp := fn_ok (κ := kap) g60.G_ok follows (L := []) (fn := Try.f60) (c := bodyOf Try.f60) rfl (by decide) rfl (lam_by (fn := Try.f60) (by kernel_rfl) lamAll_nil) (un := fun z => z.2.1.1) (fun _ => rfl) (by decide) (fun x => by kernel_rfl)
/-! ### beadroll/rdata.walk -/
noncomputable def g59.G : List FSpec := [g115.sp, g116.sp, g60.sp]
theorem g59.G_ok : ∀ sp ∈ g59.G, FOk Try.prog sp := allOk_cons g115.ok (allOk_cons g116.ok (allOk_cons g60.ok allOk_nil))
noncomputable def g59.s2 (again : ByteArray → Int → Int → List Int → Int → Int → Int → Option ((Bool × Int) ⊕ (Int × Int × Int))) (a0 : ByteArray) (a1 : Int) (a2 : Int) (a3 : List Int) (a4 : Int) (a5 : Int) (a6 : Int) : Option ((Bool × Int) ⊕ (Int × Int × Int)) :=
  if a5 < a4 then (if 0 ≤ a5 then if a5 < nz a3.length then (match a3[a5.toNat]? with
   | some x2 => (g116.f a0 a1 a2 x2).bind fun (y3 : ByteArray × Int × Bool) =>
    if (!y3.2.2) = true then some (.inl (false, a6))
    else (g60.f x2 y3.1 a6).bind fun (y4 : Int) =>
    again a0 y3.2.1 a2 a3 a4 (wrap64 (a5 + 1)) y4
   | none => none)
   else none
   else none)
  else some (.inr (a1, a2, a6))
noncomputable def g59.l2 : Nat → ByteArray → Int → Int → List Int → Int → Int → Int → Option ((Bool × Int) ⊕ (Int × Int × Int))
  | 0, _, _, _, _, _, _, _ => none
  | k + 1, a0, a1, a2, a3, a4, a5, a6 => g59.s2 (g59.l2 k) a0 a1 a2 a3 a4 a5 a6
def g59.n2 : Norm := ⟨[0, 1, 2, 4, 17, 18, 19], [(false, [.k .str]), (false, [.k (.int .i64)]), (false, [.k (.int .i64)]), (false, [.clo 60 [0]]), (false, [.k (.list 3 (.int .i64))]), (false, [.k (.int .i64)]), (false, [.k (.int .i64)])], [some (.cells [.k (.int .i64)] 3)]⟩
def g59.x2 : List ExitS := [{ e := .ret, n := ⟨[10], [(false, [.k .bool])], [some (.cells [.k (.int .i64)] 3)]⟩, raw := Bool × Int, ret := fun y => (((y.1, ()), ()), ((y.2, ()), ())), un := fun z => (z.1.1.1, z.2.1.1) },
  { e := .exit 0, n := ⟨[1, 2], [(false, [.k (.int .i64)]), (false, [.k (.int .i64)])], [some (.cells [.k (.int .i64)] 3)]⟩, raw := Int × Int × Int, ret := fun y => (((y.1, ()), (y.2.1, ()), ()), ((y.2.2, ()), ())), un := fun z => (z.1.1.1, z.1.2.1.1, z.2.1.1) }]
noncomputable def g59.m2 (k : Nat) (x : g59.n2.X) : Option (SumR g59.x2) := g59.l2 k x.1.1.1 x.1.2.1.1 x.1.2.2.1.1 x.1.2.2.2.2.1.1 x.1.2.2.2.2.2.1.1 x.1.2.2.2.2.2.2.1.1 x.2.1.1
noncomputable def g59.L2 : LSpec := { id := 2, n := g59.n2, exits := g59.x2, sem := g59.m2 9223372036854775808 }
theorem g59.e2 : ∀ k x, g59.m2 (k + 1) x = roundS Try.prog kap g59.G [] (loopAt Try.f59 2) 43 1 g59.n2 g59.x2 (g59.m2 k) x := fun k x => by kernel_rfl
theorem g59.k2 : LOk Try.prog 1 43 g59.L2 (loopAt Try.f59 2) := LOk.of (κ := kap) (l := g59.L2) g59.G_ok follows (L := []) (lam_by (fn := Try.f59) (by kernel_rfl) lamAll_nil) g59.m2 (unAll_cons (fun _ => rfl) (unAll_cons (fun _ => rfl) unAll_nil)) (fun _ => rfl) g59.e2 9223372036854775808 rfl
noncomputable def g59.f (b0 : ByteArray) (b1 : Int) (b2 : Int) (b3 : Int) (b4 : Int) : Option (Bool × Int) :=
  (g115.f b3).bind fun (y1 : List Int) =>
  (g59.l2 9223372036854775808 b0 b1 b2 y1 (nz y1.length) 0 b4).bind fun (y5 : (Bool × Int) ⊕ (Int × Int × Int)) =>
  (match y5 with
  | .inl y6 => some y6
  | .inr y7 => some (decide (y7.1 = y7.2.1), y7.2.2))
noncomputable def g59.sp : FSpec := { f := 59, ins := [(false, [.k .str]), (false, [.k (.int .i64)]), (false, [.k (.int .i64)]), (false, [.k (.int .i64)]), (false, [.clo 60 [0]])], inE := [some (.cells [.k (.int .i64)] 3)], outs := [(false, [.k .bool])], outE := [some (.cells [.k (.int .i64)] 3)], raw := Bool × Int, sem := fun x => g59.f x.1.1.1 x.1.2.1.1 x.1.2.2.1.1 x.1.2.2.2.1.1 x.2.1.1, ret := fun y => (((y.1, ()), ()), ((y.2, ()), ())) }
theorem g59.ok : FOk Try.prog g59.sp := fn_ok (κ := kap) g59.G_ok follows (L := [g59.L2]) (fn := Try.f59) (c := bodyOf Try.f59) rfl (by decide) rfl (lam_by (fn := Try.f59) (by kernel_rfl) (lamAll_cons g59.k2 lamAll_nil)) (un := fun z => (z.1.1.1, z.2.1.1)) (fun _ => rfl) (by decide) (fun x => by kernel_rfl)
/-! ### beadroll/rdata.Right -/
noncomputable def g16.G : List FSpec := [g59.sp]
theorem g16.G_ok : ∀ sp ∈ g16.G, FOk Try.prog sp := allOk_cons g59.ok allOk_nil
noncomputable def g16.f (b0 : Int) (b1 : ByteArray) : Option Bool :=
  if (65535 : Int) < (nz b1.size) then some false
  else (g59.f b1 0 (nz b1.size) b0 0).bind fun (y1 : Bool × Int) =>
  if y1.1 = true then some (decide (y1.2 = (nz b1.size)))
  else some false
noncomputable def g16.sp : FSpec := { f := 16, ins := [(false, [.k (.int .i64)]), (false, [.k .str])], inE := [], outs := [(false, [.k .bool])], outE := [], raw := Bool, sem := fun x => g16.f x.1.1.1 x.1.2.1.1, ret := fun y => (((y, ()), ()), ()) }
theorem g16.ok : FOk Try.prog g16.sp := fn_ok (κ := kap) g16.G_ok follows (L := []) (fn := Try.f16) (c := bodyOf Try.f16) rfl (by decide) rfl (lam_by (fn := Try.f16) (by kernel_rfl) lamAll_nil) (un := fun z => z.1.1.1) (fun _ => rfl) (by decide) (fun x => by kernel_rfl)
/-! ### (*strings.Builder).WriteString -/
noncomputable def g64.G : List FSpec := [g119.sp]
theorem g64.G_ok : ∀ sp ∈ g64.G, FOk Try.prog sp := allOk_cons g119.ok allOk_nil
noncomputable def g64.f (b0 : ByteArray) (b1 : List Int) : Option (Int × List Int) :=
  (g119.f b1).bind fun (y1 : List Int) =>
  if nz y1.length + nz ((strBytes b0).length) ≤ room Try.prog 5 then some (nz b0.size, y1 ++ (strBytes b0)) else none
noncomputable def g64.sp : FSpec := { f := 64, ins := [(false, [.ptr 0 0]), (false, [.k .str])], inE := [some (.cells [.np 0, .sl 1] 91), some (.lst 5 (.int .u8))], outs := [(false, [.k (.int .i64)]), (false, [.ci])], outE := [some (.cells [.np 0, .sl 2] 91), none, some (.lst 5 (.int .u8))], raw := Int × List Int, sem := fun x => g64.f x.1.2.1.1 x.2.2.1, ret := fun y => (((y.1, ()), ((), ()), ()), (((), (), ()), y.2, ())) }
theorem g64.ok : FOk Try.prog g64.sp := fn_ok (κ := kap) g64.G_ok follows (L := []) (fn := Try.f64) (c := bodyOf Try.f64) rfl (by decide) rfl (lam_by (fn := Try.f64) (by kernel_rfl) lamAll_nil) (un := fun z => (z.1.1.1, z.2.2.1)) (fun _ => rfl) (by decide) (fun x => by kernel_rfl)
/-! ### beadroll/rdata.Read$1 -/
/-! ### beadroll/rdata.walk -/
/-! ### (*strings.Builder).Len -/
/-! ### beadroll/rdata.Read -/
/-! ### beadroll/rdata.Fold$1 -/
noncomputable def g62.G : List FSpec := [g63.sp, g64.sp]
theorem g62.G_ok : ∀ sp ∈ g62.G, FOk Try.prog sp := allOk_cons g63.ok (allOk_cons g64.ok allOk_nil)
noncomputable def g62.f (b0 : Int) (b1 : ByteArray) (b2 : List Int) : Option (List Int) :=
  if b0 = (-1) then ((g63.f b1).bind fun (y1 : ByteArray) =>
   (g64.f y1 b2).bind fun (y2 : Int × List Int) =>
   some y2.2)
  else if b0 = (-2) then ((g63.f b1).bind fun (y3 : ByteArray) =>
   (g64.f y3 b2).bind fun (y4 : Int × List Int) =>
   some y4.2)
  else (g64.f b1 b2).bind fun (y5 : Int × List Int) =>
  some y5.2
noncomputable def g62.sp : FSpec := { f := 62, ins := [(false, [.k (.int .i64)]), (false, [.k .str]), (false, [.ptr 0 0])], inE := [some (.cells [.np 0, .sl 1] 91), some (.lst 5 (.int .u8))], outs := [], outE := [some (.cells [.np 0, .sl 2] 91), none, some (.lst 5 (.int .u8))], raw := List Int, sem := fun x => g62.f x.1.1.1 x.1.2.1.1 x.2.2.1, ret := fun y => ((), (((), (), ()), y, ())) }
theorem g62.ok : FOk Try.prog g62.sp := fn_ok (κ := kap) g62.G_ok follows (L := []) (fn := Try.f62) (c := bodyOf Try.f62) rfl (by decide) rfl (lam_by (fn := Try.f62) (by kernel_rfl) lamAll_nil) (un := fun z => z.2.2.1) (fun _ => rfl) (by decide) (fun x => by kernel_rfl)
/-! ### beadroll/rdata.walk -/
noncomputable def g59v2.G : List FSpec := [g115.sp, g116.sp, g62.sp]
theorem g59v2.G_ok : ∀ sp ∈ g59v2.G, FOk Try.prog sp := allOk_cons g115.ok (allOk_cons g116.ok (allOk_cons g62.ok allOk_nil))
noncomputable def g59v2.s2 (again : ByteArray → Int → Int → List Int → Int → Int → List Int → Option ((Bool × List Int) ⊕ (Int × Int × List Int))) (a0 : ByteArray) (a1 : Int) (a2 : Int) (a3 : List Int) (a4 : Int) (a5 : Int) (a6 : List Int) : Option ((Bool × List Int) ⊕ (Int × Int × List Int)) :=
  if a5 < a4 then (if 0 ≤ a5 then if a5 < nz a3.length then (match a3[a5.toNat]? with
   | some x2 => (g116.f a0 a1 a2 x2).bind fun (y3 : ByteArray × Int × Bool) =>
    if (!y3.2.2) = true then some (.inl (false, a6))
    else (g62.f x2 y3.1 a6).bind fun (y4 : List Int) =>
    again a0 y3.2.1 a2 a3 a4 (wrap64 (a5 + 1)) y4
   | none => none)
   else none
   else none)
  else some (.inr (a1, a2, a6))
noncomputable def g59v2.l2 : Nat → ByteArray → Int → Int → List Int → Int → Int → List Int → Option ((Bool × List Int) ⊕ (Int × Int × List Int))
  | 0, _, _, _, _, _, _, _ => none
  | k + 1, a0, a1, a2, a3, a4, a5, a6 => g59v2.s2 (g59v2.l2 k) a0 a1 a2 a3 a4 a5 a6
def g59v2.n2 : Norm := ⟨[0, 1, 2, 4, 17, 18, 19], [(false, [.k .str]), (false, [.k (.int .i64)]), (false, [.k (.int .i64)]), (false, [.clo 62 [0]]), (false, [.k (.list 3 (.int .i64))]), (false, [.k (.int .i64)]), (false, [.k (.int .i64)])], [some (.cells [.np 0, .sl 1] 91), some (.lst 5 (.int .u8))]⟩
def g59v2.x2 : List ExitS := [{ e := .ret, n := ⟨[10], [(false, [.k .bool])], [some (.cells [.np 0, .sl 1] 91), some (.lst 5 (.int .u8))]⟩, raw := Bool × List Int, ret := fun y => (((y.1, ()), ()), (((), (), ()), y.2, ())), un := fun z => (z.1.1.1, z.2.2.1) },
  { e := .exit 0, n := ⟨[1, 2], [(false, [.k (.int .i64)]), (false, [.k (.int .i64)])], [some (.cells [.np 0, .sl 1] 91), some (.lst 5 (.int .u8))]⟩, raw := Int × Int × List Int, ret := fun y => (((y.1, ()), (y.2.1, ()), ()), (((), (), ()), y.2.2, ())), un := fun z => (z.1.1.1, z.1.2.1.1, z.2.2.1) }]
noncomputable def g59v2.m2 (k : Nat) (x : g59v2.n2.X) : Option (SumR g59v2.x2) := g59v2.l2 k x.1.1.1 x.1.2.1.1 x.1.2.2.1.1 x.1.2.2.2.2.1.1 x.1.2.2.2.2.2.1.1 x.1.2.2.2.2.2.2.1.1 x.2.2.1
noncomputable def g59v2.L2 : LSpec := { id := 2, n := g59v2.n2, exits := g59v2.x2, sem := g59v2.m2 9223372036854775808 }
theorem g59v2.e2 : ∀ k x, g59v2.m2 (k + 1) x = roundS Try.prog kap g59v2.G [] (loopAt Try.f59 2) 43 1 g59v2.n2 g59v2.x2 (g59v2.m2 k) x := fun k x => by kernel_rfl
theorem g59v2.k2 : LOk Try.prog 1 43 g59v2.L2 (loopAt Try.f59 2) := LOk.of (κ := kap) (l := g59v2.L2) g59v2.G_ok follows (L := []) (lam_by (fn := Try.f59) (by kernel_rfl) lamAll_nil) g59v2.m2 (unAll_cons (fun _ => rfl) (unAll_cons (fun _ => rfl) unAll_nil)) (fun _ => rfl) g59v2.e2 9223372036854775808 rfl
noncomputable def g59v2.f (b0 : ByteArray) (b1 : Int) (b2 : Int) (b3 : Int) : Option (Bool × List Int) :=
  (g115.f b3).bind fun (y1 : List Int) =>
  (g59v2.l2 9223372036854775808 b0 b1 b2 y1 (nz y1.length) 0 ([] : List Int)).bind fun (y5 : (Bool × List Int) ⊕ (Int × Int × List Int)) =>
  (match y5 with
  | .inl y6 => some y6
  | .inr y7 => some (decide (y7.1 = y7.2.1), y7.2.2))
noncomputable def g59v2.sp : FSpec := { f := 59, ins := [(false, [.k .str]), (false, [.k (.int .i64)]), (false, [.k (.int .i64)]), (false, [.k (.int .i64)]), (false, [.clo 62 [0]])], inE := [some (.cells [.np 0, .cn] 91)], outs := [(false, [.k .bool])], outE := [some (.cells [.np 0, .sl 1] 91), some (.lst 5 (.int .u8))], raw := Bool × List Int, sem := fun x => g59v2.f x.1.1.1 x.1.2.1.1 x.1.2.2.1.1 x.1.2.2.2.1.1, ret := fun y => (((y.1, ()), ()), (((), (), ()), y.2, ())) }
theorem g59v2.ok : FOk Try.prog g59v2.sp := fn_ok (κ := kap) g59v2.G_ok follows (L := [g59v2.L2]) (fn := Try.f59) (c := bodyOf Try.f59) rfl (by decide) rfl (lam_by (fn := Try.f59) (by kernel_rfl) (lamAll_cons g59v2.k2 lamAll_nil)) (un := fun z => (z.1.1.1, z.2.2.1)) (fun _ => rfl) (by decide) (fun x => by kernel_rfl)
/-! ### beadroll/rdata.Fold -/
noncomputable def g18.G : List FSpec := [g16.sp, g59v2.sp, g65.sp]
theorem g18.G_ok : ∀ sp ∈ g18.G, FOk Try.prog sp := allOk_cons g16.ok (allOk_cons g59v2.ok (allOk_cons g65.ok allOk_nil))
noncomputable def g18.f (b0 : Int) (b1 : ByteArray) : Option ByteArray :=
  (g16.f b0 b1).bind fun (y1 : Bool) =>
  if (!y1) = true then some (⟨#[]⟩ : ByteArray)
  else (g59v2.f b1 0 (nz b1.size) b0).bind fun (y2 : Bool × List Int) =>
  (g65.f y2.2).bind fun (y3 : ByteArray) =>
  some y3
noncomputable def g18.sp : FSpec := { f := 18, ins := [(false, [.k (.int .i64)]), (false, [.k .str])], inE := [], outs := [(false, [.k .str])], outE := [], raw := ByteArray, sem := fun x => g18.f x.1.1.1 x.1.2.1.1, ret := fun y => (((y, ()), ()), ()) }
theorem g18.ok : FOk Try.prog g18.sp := fn_ok (κ := kap) g18.G_ok follows (L := []) (fn := Try.f18) (c := bodyOf Try.f18) rfl (by decide) rfl (lam_by (fn := Try.f18) (by kernel_rfl) lamAll_nil) (un := fun z => z.1.1.1) (fun _ => rfl) (by decide) (fun x => by kernel_rfl)
/-! ### beadroll/record.typed -/
/-! ### beadroll/record.Right -/
/-! ### beadroll/pack.New -/
/-! ### beadroll/octets.most -/
noncomputable def g131.G : List FSpec := []
theorem g131.G_ok : ∀ sp ∈ g131.G, FOk Try.prog sp := allOk_nil
noncomputable def g131.f (b0 : Int) : Option Int :=
  if (wrap64 ((64 : Int) - (wrap64 ((8 : Int) * b0)))) < 0 then none
  else some ((18446744073709551615 : Int).fdiv (2 ^ min (wrap64 ((64 : Int) - (wrap64 ((8 : Int) * b0)))).toNat 64))
noncomputable def g131.sp : FSpec := { f := 131, ins := [(false, [.k (.int .i64)])], inE := [], outs := [(false, [.k (.int .u64)])], outE := [], raw := Int, sem := fun x => g131.f x.1.1.1, ret := fun y => (((y, ()), ()), ()) }
theorem g131.ok : FOk Try.prog g131.sp := fn_ok (κ := kap) g131.G_ok follows (L := []) (fn := Try.f131) (c := bodyOf Try.f131) rfl (by decide) rfl (lam_by (fn := Try.f131) (by kernel_rfl) lamAll_nil) (un := fun z => z.1.1.1) (fun _ => rfl) (by decide) (fun x => by kernel_rfl)
/-! ### beadroll/octets.bytes -/
noncomputable def g132.G : List FSpec := []
theorem g132.G_ok : ∀ sp ∈ g132.G, FOk Try.prog sp := allOk_nil
noncomputable def g132.s3 (again : Int → Int → List Int → Option (List Int)) (a0 : Int) (a1 : Int) (a2 : List Int) : Option (List Int) :=
  if (0 : Int) ≤ a1 then (if (wrap64 ((8 : Int) * a1)) < 0 then none
   else if nz a2.length + nz (([IntKind.wrap .u8 (a0.fdiv (2 ^ min (wrap64 ((8 : Int) * a1)).toNat 64))] : List Int).length) ≤ room Try.prog 5 then again a0 (wrap64 (a1 - 1)) (a2 ++ ([IntKind.wrap .u8 (a0.fdiv (2 ^ min (wrap64 ((8 : Int) * a1)).toNat 64))] : List Int)) else none)
  else some a2
noncomputable def g132.l3 : Nat → Int → Int → List Int → Option (List Int)
  | 0, _, _, _ => none
  | k + 1, a0, a1, a2 => g132.s3 (g132.l3 k) a0 a1 a2
def g132.n3 : Norm := ⟨[0, 5, 6], [(false, [.k (.int .u64)]), (false, [.sl 0]), (false, [.k (.int .i64)])], [some (.lst 5 (.int .u8))]⟩
def g132.x3 : List ExitS := [{ e := .exit 0, n := ⟨[5], [(false, [.sl 0])], [some (.lst 5 (.int .u8))]⟩, raw := List Int, ret := fun y => ((((), ()), ()), (y, ())), un := fun z => z.2.1 }]
noncomputable def g132.m3 (k : Nat) (x : g132.n3.X) : Option (SumR g132.x3) := g132.l3 k x.1.1.1 x.1.2.2.1.1 x.2.1
noncomputable def g132.L3 : LSpec := { id := 3, n := g132.n3, exits := g132.x3, sem := g132.m3 9223372036854775808 }
theorem g132.e3 : ∀ k x, g132.m3 (k + 1) x = roundS Try.prog kap g132.G [] (loopAt Try.f132 3) 22 0 g132.n3 g132.x3 (g132.m3 k) x := fun k x => by kernel_rfl
theorem g132.k3 : LOk Try.prog 0 22 g132.L3 (loopAt Try.f132 3) := LOk.of (κ := kap) (l := g132.L3) g132.G_ok follows (L := []) (lam_by (fn := Try.f132) (by kernel_rfl) lamAll_nil) g132.m3 (unAll_cons (fun _ => rfl) unAll_nil) (fun _ => rfl) g132.e3 9223372036854775808 rfl
noncomputable def g132.f (b0 : Int) (b1 : Int) : Option (List Int) :=
  (g132.l3 9223372036854775808 b0 (wrap64 (b1 - 1)) ([] : List Int)).bind fun (y1 : List Int) =>
  some y1
noncomputable def g132.sp : FSpec := { f := 132, ins := [(false, [.k (.int .u64)]), (false, [.k (.int .i64)])], inE := [], outs := [(false, [.k (.list 5 (.int .u8))])], outE := [], raw := List Int, sem := fun x => g132.f x.1.1.1 x.1.2.1.1, ret := fun y => (((y, ()), ()), ()) }
theorem g132.ok : FOk Try.prog g132.sp := fn_ok (κ := kap) g132.G_ok follows (L := [g132.L3]) (fn := Try.f132) (c := bodyOf Try.f132) rfl (by decide) rfl (lam_by (fn := Try.f132) (by kernel_rfl) (lamAll_cons g132.k3 lamAll_nil)) (un := fun z => z.1.1.1) (fun _ => rfl) (by decide) (fun x => by kernel_rfl)
/-! ### beadroll/octets.Join -/
noncomputable def g80.G : List FSpec := [g125.sp, g131.sp, g132.sp]
theorem g80.G_ok : ∀ sp ∈ g80.G, FOk Try.prog sp := allOk_cons g125.ok (allOk_cons g131.ok (allOk_cons g132.ok allOk_nil))
noncomputable def g80.s5 (again : List Int → List Int → Int → Int → List Int → Option ((ByteArray × Int) ⊕ List Int)) (a0 : List Int) (a1 : List Int) (a2 : Int) (a3 : Int) (a4 : List Int) : Option ((ByteArray × Int) ⊕ List Int) :=
  if a3 < a2 then (if 0 ≤ a3 then if a3 < nz a1.length then (match a1[a3.toNat]? with
   | some x2 => if 0 ≤ a3 then if a3 < nz a0.length then (match a0[a3.toNat]? with
    | some x3 => (g131.f x2).bind fun (y4 : Int) =>
     if y4 < x3 then some (.inl ((⟨#[]⟩ : ByteArray), 1))
     else if 0 ≤ a3 then if a3 < nz a0.length then (match a0[a3.toNat]? with
     | some x5 => (g132.f x5 x2).bind fun (y6 : List Int) =>
      if nz a4.length + nz y6.length ≤ room Try.prog 5 then again a0 a1 a2 (wrap64 (a3 + 1)) (a4 ++ y6) else none
     | none => none)
     else none
     else none
    | none => none)
    else none
    else none
   | none => none)
   else none
   else none)
  else some (.inr a4)
noncomputable def g80.l5 : Nat → List Int → List Int → Int → Int → List Int → Option ((ByteArray × Int) ⊕ List Int)
  | 0, _, _, _, _, _ => none
  | k + 1, a0, a1, a2, a3, a4 => g80.s5 (g80.l5 k) a0 a1 a2 a3 a4
def g80.n5 : Norm := ⟨[0, 6, 19, 20, 21], [(false, [.k (.list 111 (.int .u64))]), (false, [.sl 0]), (false, [.k (.list 3 (.int .i64))]), (false, [.k (.int .i64)]), (false, [.k (.int .i64)])], [some (.lst 5 (.int .u8))]⟩
def g80.x5 : List ExitS := [{ e := .ret, n := ⟨[4, 5], [(false, [.k .str]), (false, [.k (.int .i64)])], []⟩, raw := ByteArray × Int, ret := fun y => (((y.1, ()), (y.2, ()), ()), ()), un := fun z => (z.1.1.1, z.1.2.1.1) },
  { e := .exit 0, n := ⟨[6], [(false, [.sl 0])], [some (.lst 5 (.int .u8))]⟩, raw := List Int, ret := fun y => ((((), ()), ()), (y, ())), un := fun z => z.2.1 }]
noncomputable def g80.m5 (k : Nat) (x : g80.n5.X) : Option (SumR g80.x5) := g80.l5 k x.1.1.1 x.1.2.2.1.1 x.1.2.2.2.1.1 x.1.2.2.2.2.1.1 x.2.1
noncomputable def g80.L5 : LSpec := { id := 5, n := g80.n5, exits := g80.x5, sem := g80.m5 9223372036854775808 }
theorem g80.e5 : ∀ k x, g80.m5 (k + 1) x = roundS Try.prog kap g80.G [] (loopAt Try.f80 5) 44 0 g80.n5 g80.x5 (g80.m5 k) x := fun k x => by kernel_rfl
theorem g80.k5 : LOk Try.prog 0 44 g80.L5 (loopAt Try.f80 5) := LOk.of (κ := kap) (l := g80.L5) g80.G_ok follows (L := []) (lam_by (fn := Try.f80) (by kernel_rfl) lamAll_nil) g80.m5 (unAll_cons (fun _ => rfl) (unAll_cons (fun _ => rfl) unAll_nil)) (fun _ => rfl) g80.e5 9223372036854775808 rfl
noncomputable def g80.f (b0 : List Int) (b1 : List Int) : Option (ByteArray × Int) :=
  (g125.f b1).bind fun (y1 : Bool) =>
  if (!y1) = true then some ((⟨#[]⟩ : ByteArray), 1)
  else if (nz b0.length) = (nz b1.length) then ((g80.l5 9223372036854775808 b0 b1 (nz b1.length) 0 ([] : List Int)).bind fun (y7 : (ByteArray × Int) ⊕ List Int) =>
   (match y7 with
   | .inl y8 => some y8
   | .inr y9 => some (bytesStr y9, 0)))
  else some ((⟨#[]⟩ : ByteArray), 1)
noncomputable def g80.sp : FSpec := { f := 80, ins := [(false, [.k (.list 111 (.int .u64))]), (false, [.k (.list 3 (.int .i64))])], inE := [], outs := [(false, [.k .str]), (false, [.k (.int .i64)])], outE := [], raw := ByteArray × Int, sem := fun x => g80.f x.1.1.1 x.1.2.1.1, ret := fun y => (((y.1, ()), (y.2, ()), ()), ()) }
theorem g80.ok : FOk Try.prog g80.sp := fn_ok (κ := kap) g80.G_ok follows (L := [g80.L5]) (fn := Try.f80) (c := bodyOf Try.f80) rfl (by decide) rfl (lam_by (fn := Try.f80) (by kernel_rfl) (lamAll_cons g80.k5 lamAll_nil)) (un := fun z => (z.1.1.1, z.1.2.1.1)) (fun _ => rfl) (by decide) (fun x => by kernel_rfl)
/-! ### (*beadroll/pack.Packer).Raw -/
/-! ### (*beadroll/pack.Packer).Name -/
/-! ### (*beadroll/pack.Packer).Clone -/
/-! ### (*beadroll/pack.Packer).Len -/
/-! ### beadroll/rdata.Write$1 -/
/-! ### beadroll/rdata.walk -/
/-! ### beadroll/rdata.Write -/
/-! ### beadroll/record.data -/
/-! ### beadroll/record.Write -/
/-! ### (*beadroll/pack.Packer).Bytes -/
/-! ### beadroll/entry.Own -/
/-! ### (beadroll/beadrollref09.Packer).find -/
/-! ### (beadroll/beadrollref09.Packer).Name -/
/-! ### beadroll/beadrollref01.Bytes -/
noncomputable def g113.G : List FSpec := []
theorem g113.G_ok : ∀ sp ∈ g113.G, FOk Try.prog sp := allOk_nil
noncomputable def g113.s3 (again : Int → Int → ByteArray → Int → Option ByteArray) (a0 : Int) (a1 : Int) (a2 : ByteArray) (a3 : Int) : Option ByteArray :=
  if a3 < a1 then (if (nz ((bytesStr ([IntKind.wrap .u8 (a0.tmod (256 : Int))] : List Int)).size)) + (nz a2.size) ≤ 9223372036854775807 then again (IntKind.wrap .u64 (a0.tdiv (256 : Int))) a1 ((bytesStr ([IntKind.wrap .u8 (a0.tmod (256 : Int))] : List Int)) ++ a2) (wrap64 (a3 + 1)) else none)
  else some a2
noncomputable def g113.l3 : Nat → Int → Int → ByteArray → Int → Option ByteArray
  | 0, _, _, _, _ => none
  | k + 1, a0, a1, a2, a3 => g113.s3 (g113.l3 k) a0 a1 a2 a3
def g113.n3 : Norm := ⟨[0, 1, 5, 6], [(false, [.k (.int .u64)]), (false, [.k (.int .i64)]), (false, [.k .str]), (false, [.k (.int .i64)])], []⟩
def g113.x3 : List ExitS := [{ e := .exit 0, n := ⟨[5], [(false, [.k .str])], []⟩, raw := ByteArray, ret := fun y => (((y, ()), ()), ()), un := fun z => z.1.1.1 }]
noncomputable def g113.m3 (k : Nat) (x : g113.n3.X) : Option (SumR g113.x3) := g113.l3 k x.1.1.1 x.1.2.1.1 x.1.2.2.1.1 x.1.2.2.2.1.1
noncomputable def g113.L3 : LSpec := { id := 3, n := g113.n3, exits := g113.x3, sem := g113.m3 9223372036854775808 }
theorem g113.e3 : ∀ k x, g113.m3 (k + 1) x = roundS Try.prog kap g113.G [] (loopAt Try.f113 3) 22 0 g113.n3 g113.x3 (g113.m3 k) x := fun k x => by kernel_rfl
theorem g113.k3 : LOk Try.prog 0 22 g113.L3 (loopAt Try.f113 3) := LOk.of (κ := kap) (l := g113.L3) g113.G_ok follows (L := []) (lam_by (fn := Try.f113) (by kernel_rfl) lamAll_nil) g113.m3 (unAll_cons (fun _ => rfl) unAll_nil) (fun _ => rfl) g113.e3 9223372036854775808 rfl
noncomputable def g113.f (b0 : Int) (b1 : Int) : Option ByteArray :=
  (g113.l3 9223372036854775808 b0 b1 (⟨#[]⟩ : ByteArray) 0).bind fun (y1 : ByteArray) =>
  some y1
noncomputable def g113.sp : FSpec := { f := 113, ins := [(false, [.k (.int .u64)]), (false, [.k (.int .i64)])], inE := [], outs := [(false, [.k .str])], outE := [], raw := ByteArray, sem := fun x => g113.f x.1.1.1 x.1.2.1.1, ret := fun y => (((y, ()), ()), ()) }
theorem g113.ok : FOk Try.prog g113.sp := fn_ok (κ := kap) g113.G_ok follows (L := [g113.L3]) (fn := Try.f113) (c := bodyOf Try.f113) rfl (by decide) rfl (lam_by (fn := Try.f113) (by kernel_rfl) (lamAll_cons g113.k3 lamAll_nil)) (un := fun z => z.1.1.1) (fun _ => rfl) (by decide) (fun x => by kernel_rfl)
/-! ### beadroll/beadrollref10.Write -/
/-! ### beadroll/beadrollref11.Write -/
/-! ### beadroll/beadrollref17.Own -/
/-! ### slices.Grow[[]beadroll/api.RR,beadroll/api.RR] -/
/-! ### slices.Concat[[]beadroll/api.RR,beadroll/api.RR] -/
/-! ### beadroll/octets.Piece -/
/-! ### beadroll/entry.pieces -/
/-! ### beadroll/entry.Bytes -/
/-! ### beadroll/beadrollref17.four -/
/-! ### beadroll/beadrollref17.Pieces -/
/-! ### beadroll/beadrollref17.Bytes -/
/-! ### beadroll/beadrollref17.Formed -/
/-! ### beadroll/beadrollref17.Few -/
/-! ### beadroll/message.within -/
/-! ### (*beadroll/message.Msg).sections -/
/-! ### beadroll/message.Formed$1 -/
/-! ### slices.IndexFunc[[]beadroll/api.RR,beadroll/api.RR] -/
/-! ### slices.ContainsFunc[[]beadroll/api.RR,beadroll/api.RR] -/
/-! ### beadroll/message.asked -/
/-! ### beadroll/message.Formed$2 -/
/-! ### slices.IndexFunc[[]beadroll/api.Question,beadroll/api.Question] -/
/-! ### slices.ContainsFunc[[]beadroll/api.Question,beadroll/api.Question] -/
/-! ### beadroll/message.Formed -/
/-! ### beadroll/message.bit -/
/-! ### (*beadroll/message.Msg).flags -/
/-! ### beadroll/message.Encode -/
/-! ### beadroll/beadrollref12.one -/
/-! ### beadroll/beadrollref12.two -/
/-! ### beadroll/beadrollref12.Bytes -/
/-! ### beadroll/beadrollref12.in -/
/-! ### beadroll/beadrollref12.rights -/
/-! ### beadroll/beadrollref12.Formed -/
/-! ### beadroll/beadrollref12.Few -/
/-! ### beadroll/record.Read -/
/-! ### beadroll/beadrolllaw10.awake -/
noncomputable def g15.G : List FSpec := [g16.sp, g18.sp]
theorem g15.G_ok : ∀ sp ∈ g15.G, FOk Try.prog sp := allOk_cons g16.ok (allOk_cons g18.ok allOk_nil)
noncomputable def g15.f : Option Bool :=
  (g16.f 1 (⟨#[127, 0, 0, 1]⟩ : ByteArray)).bind fun (y1 : Bool) =>
  if y1 = true then ((g18.f 2 (⟨#[1, 65, 0]⟩ : ByteArray)).bind fun (y2 : ByteArray) =>
   some (decide (y2 = (⟨#[1, 97, 0]⟩ : ByteArray))))
  else some false
noncomputable def g15.sp : FSpec := { f := 15, ins := [], inE := [], outs := [(false, [.k .bool])], outE := [], raw := Bool, sem := fun x => g15.f, ret := fun y => (((y, ()), ()), ()) }
theorem g15.ok : FOk Try.prog g15.sp := fn_ok (κ := kap) g15.G_ok follows (L := []) (fn := Try.f15) (c := bodyOf Try.f15) rfl (by decide) rfl (lam_by (fn := Try.f15) (by kernel_rfl) lamAll_nil) (un := fun z => z.1.1.1) (fun _ => rfl) (by decide) (fun x => by kernel_rfl)
/-! ### beadroll/beadrolllaw10.RdataWrites -/
/-! ### beadroll/beadrollref11.Same -/
/-! ### beadroll/beadrollref12.Same -/
/-! ### beadroll/name.Alike -/
/-! ### beadroll/record.Said -/
/-! ### beadroll/record.One -/
/-! ### beadroll/beadrolllaw11.awake -/
/-! ### beadroll/beadrolllaw11.few -/
/-! ### beadroll/beadrolllaw11.RecordWrites -/
/-! ### beadroll/rdata.Soa$1 -/
noncomputable def g75.G : List FSpec := []
theorem g75.G_ok : ∀ sp ∈ g75.G, FOk Try.prog sp := allOk_nil
noncomputable def g75.f (b0 : Int) (b1 : ByteArray) (b2 : List ByteArray) : Option (List ByteArray) :=
  if nz b2.length + nz (([b1] : List ByteArray).length) ≤ room Try.prog 9 then some (b2 ++ ([b1] : List ByteArray)) else none
noncomputable def g75.sp : FSpec := { f := 75, ins := [(false, [.k (.int .i64)]), (false, [.k .str]), (false, [.ptr 0 0])], inE := [some (.cells [.sl 1] 97), some (.lst 9 .str)], outs := [], outE := [some (.cells [.sl 2] 97), none, some (.lst 9 .str)], raw := List ByteArray, sem := fun x => g75.f x.1.1.1 x.1.2.1.1 x.2.2.1, ret := fun y => ((), (((), ()), y, ())) }
theorem g75.ok : FOk Try.prog g75.sp := fn_ok (κ := kap) g75.G_ok follows (L := []) (fn := Try.f75) (c := bodyOf Try.f75) rfl (by decide) rfl (lam_by (fn := Try.f75) (by kernel_rfl) lamAll_nil) (un := fun z => z.2.2.1) (fun _ => rfl) (by decide) (fun x => by kernel_rfl)
/-! ### beadroll/rdata.walk -/
noncomputable def g59v4.G : List FSpec := [g115.sp, g116.sp, g75.sp]
theorem g59v4.G_ok : ∀ sp ∈ g59v4.G, FOk Try.prog sp := allOk_cons g115.ok (allOk_cons g116.ok (allOk_cons g75.ok allOk_nil))
noncomputable def g59v4.s2 (again : ByteArray → Int → Int → List Int → Int → Int → List ByteArray → Option ((Bool × List ByteArray) ⊕ (Int × Int × List ByteArray))) (a0 : ByteArray) (a1 : Int) (a2 : Int) (a3 : List Int) (a4 : Int) (a5 : Int) (a6 : List ByteArray) : Option ((Bool × List ByteArray) ⊕ (Int × Int × List ByteArray)) :=
  if a5 < a4 then (if 0 ≤ a5 then if a5 < nz a3.length then (match a3[a5.toNat]? with
   | some x2 => (g116.f a0 a1 a2 x2).bind fun (y3 : ByteArray × Int × Bool) =>
    if (!y3.2.2) = true then some (.inl (false, a6))
    else (g75.f x2 y3.1 a6).bind fun (y4 : List ByteArray) =>
    again a0 y3.2.1 a2 a3 a4 (wrap64 (a5 + 1)) y4
   | none => none)
   else none
   else none)
  else some (.inr (a1, a2, a6))
noncomputable def g59v4.l2 : Nat → ByteArray → Int → Int → List Int → Int → Int → List ByteArray → Option ((Bool × List ByteArray) ⊕ (Int × Int × List ByteArray))
  | 0, _, _, _, _, _, _, _ => none
  | k + 1, a0, a1, a2, a3, a4, a5, a6 => g59v4.s2 (g59v4.l2 k) a0 a1 a2 a3 a4 a5 a6
def g59v4.n2 : Norm := ⟨[0, 1, 2, 4, 17, 18, 19], [(false, [.k .str]), (false, [.k (.int .i64)]), (false, [.k (.int .i64)]), (false, [.clo 75 [0]]), (false, [.k (.list 3 (.int .i64))]), (false, [.k (.int .i64)]), (false, [.k (.int .i64)])], [some (.cells [.sl 1] 97), some (.lst 9 .str)]⟩
def g59v4.x2 : List ExitS := [{ e := .ret, n := ⟨[10], [(false, [.k .bool])], [some (.cells [.sl 1] 97), some (.lst 9 .str)]⟩, raw := Bool × List ByteArray, ret := fun y => (((y.1, ()), ()), (((), ()), y.2, ())), un := fun z => (z.1.1.1, z.2.2.1) },
  { e := .exit 0, n := ⟨[1, 2], [(false, [.k (.int .i64)]), (false, [.k (.int .i64)])], [some (.cells [.sl 1] 97), some (.lst 9 .str)]⟩, raw := Int × Int × List ByteArray, ret := fun y => (((y.1, ()), (y.2.1, ()), ()), (((), ()), y.2.2, ())), un := fun z => (z.1.1.1, z.1.2.1.1, z.2.2.1) }]
noncomputable def g59v4.m2 (k : Nat) (x : g59v4.n2.X) : Option (SumR g59v4.x2) := g59v4.l2 k x.1.1.1 x.1.2.1.1 x.1.2.2.1.1 x.1.2.2.2.2.1.1 x.1.2.2.2.2.2.1.1 x.1.2.2.2.2.2.2.1.1 x.2.2.1
noncomputable def g59v4.L2 : LSpec := { id := 2, n := g59v4.n2, exits := g59v4.x2, sem := g59v4.m2 9223372036854775808 }
theorem g59v4.e2 : ∀ k x, g59v4.m2 (k + 1) x = roundS Try.prog kap g59v4.G [] (loopAt Try.f59 2) 43 1 g59v4.n2 g59v4.x2 (g59v4.m2 k) x := fun k x => by kernel_rfl
theorem g59v4.k2 : LOk Try.prog 1 43 g59v4.L2 (loopAt Try.f59 2) := LOk.of (κ := kap) (l := g59v4.L2) g59v4.G_ok follows (L := []) (lam_by (fn := Try.f59) (by kernel_rfl) lamAll_nil) g59v4.m2 (unAll_cons (fun _ => rfl) (unAll_cons (fun _ => rfl) unAll_nil)) (fun _ => rfl) g59v4.e2 9223372036854775808 rfl
noncomputable def g59v4.f (b0 : ByteArray) (b1 : Int) (b2 : Int) (b3 : Int) : Option (Bool × List ByteArray) :=
  (g115.f b3).bind fun (y1 : List Int) =>
  (g59v4.l2 9223372036854775808 b0 b1 b2 y1 (nz y1.length) 0 ([] : List ByteArray)).bind fun (y5 : (Bool × List ByteArray) ⊕ (Int × Int × List ByteArray)) =>
  (match y5 with
  | .inl y6 => some y6
  | .inr y7 => some (decide (y7.1 = y7.2.1), y7.2.2))
noncomputable def g59v4.sp : FSpec := { f := 59, ins := [(false, [.k .str]), (false, [.k (.int .i64)]), (false, [.k (.int .i64)]), (false, [.k (.int .i64)]), (false, [.clo 75 [0]])], inE := [some (.cells [.cn] 97)], outs := [(false, [.k .bool])], outE := [some (.cells [.k (.list 9 .str)] 97)], raw := Bool × List ByteArray, sem := fun x => g59v4.f x.1.1.1 x.1.2.1.1 x.1.2.2.1.1 x.1.2.2.2.1.1, ret := fun y => (((y.1, ()), ()), ((y.2, ()), ())) }
theorem g59v4.ok : FOk Try.prog g59v4.sp := fn_ok (κ := kap) g59v4.G_ok follows (L := [g59v4.L2]) (fn := Try.f59) (c := bodyOf Try.f59) rfl (by decide) rfl (lam_by (fn := Try.f59) (by kernel_rfl) (lamAll_cons g59v4.k2 lamAll_nil)) (un := fun z => (z.1.1.1, z.2.1.1)) (fun _ => rfl) (by decide) (fun x => by kernel_rfl)
/-! ### beadroll/rdata.Soa -/
noncomputable def g26.G : List FSpec := [g16.sp, g59v4.sp, g77.sp, g76.sp]
theorem g26.G_ok : ∀ sp ∈ g26.G, FOk Try.prog sp := allOk_cons g16.ok (allOk_cons g59v4.ok (allOk_cons g77.ok (allOk_cons g76.ok allOk_nil)))
noncomputable def g26.f (b0 : ByteArray) : Option ((ByteArray × ByteArray × Int × Int × Int × Int × Int) × Int) :=
  (g16.f 6 b0).bind fun (y1 : Bool) =>
  if (!y1) = true then some (((⟨#[]⟩ : ByteArray), (⟨#[]⟩ : ByteArray), 0, 0, 0, 0, 0), 2)
  else (g59v4.f b0 0 (nz b0.size) 6).bind fun (y2 : Bool × List ByteArray) =>
  if (2 : Int) ≤ (nz y2.2.length) then (g77.f ((y2.2.take y2.2.length).drop 2) (⟨#[]⟩ : ByteArray)).bind fun (y3 : ByteArray) =>
  (g76.f y3 ([4, 4, 4, 4, 4] : List Int)).bind fun (y4 : List Int × ByteArray × Int) =>
  if (0 : Int) < nz y2.2.length then (match y2.2[0]? with
  | some x5 => if (1 : Int) < nz y2.2.length then (match y2.2[1]? with
   | some x6 => if (0 : Int) < nz y4.1.length then (match y4.1[0]? with
    | some x7 => if (1 : Int) < nz y4.1.length then (match y4.1[1]? with
     | some x8 => if (2 : Int) < nz y4.1.length then (match y4.1[2]? with
      | some x9 => if (3 : Int) < nz y4.1.length then (match y4.1[3]? with
       | some x10 => if (4 : Int) < nz y4.1.length then (match y4.1[4]? with
        | some x11 => some ((x5, x6, IntKind.wrap .u32 x7, IntKind.wrap .u32 x8, IntKind.wrap .u32 x9, IntKind.wrap .u32 x10, IntKind.wrap .u32 x11), 0)
        | none => none)
        else none
       | none => none)
       else none
      | none => none)
      else none
     | none => none)
     else none
    | none => none)
    else none
   | none => none)
   else none
  | none => none)
  else none
  else none
noncomputable def g26.sp : FSpec := { f := 26, ins := [(false, [.k .str])], inE := [], outs := [(true, [.k (.pair .str (.pair .str (.pair (.int .u32) (.pair (.int .u32) (.pair (.int .u32) (.pair (.int .u32) (.int .u32)))))))]), (false, [.k (.int .i64)])], outE := [], raw := (ByteArray × ByteArray × Int × Int × Int × Int × Int) × Int, sem := fun x => g26.f x.1.1.1, ret := fun y => (((y.1, ()), (y.2, ()), ()), ()) }
theorem g26.ok : FOk Try.prog g26.sp := fn_ok (κ := kap) g26.G_ok follows (L := []) (fn := Try.f26) (c := bodyOf Try.f26) rfl (by decide) rfl (lam_by (fn := Try.f26) (by kernel_rfl) lamAll_nil) (un := fun z => (z.1.1.1, z.1.2.1.1)) (fun _ => rfl) (by decide) (fun x => by kernel_rfl)
/-! ### beadroll/beadrollref10.Soa -/
noncomputable def g27.G : List FSpec := [g17.sp, g66.sp, g78.sp]
theorem g27.G_ok : ∀ sp ∈ g27.G, FOk Try.prog sp := allOk_cons g17.ok (allOk_cons g66.ok (allOk_cons g78.ok allOk_nil))
noncomputable def g27.s6 (again : List ByteArray → Int → ByteArray × ByteArray × Int × Int × Int × Int × Int → List Int → Option (List ByteArray × (ByteArray × ByteArray × Int × Int × Int × Int × Int) × List Int)) (a0 : List ByteArray) (a1 : Int) (a2 : ByteArray × ByteArray × Int × Int × Int × Int × Int) (a3 : List Int) : Option (List ByteArray × (ByteArray × ByteArray × Int × Int × Int × Int × Int) × List Int) :=
  if a1 < 7 then (if 0 ≤ a1 then if a1 < nz a0.length then (match a0[a1.toNat]? with
   | some x3 => (g78.f x3).bind fun (y4 : Int) =>
    if nz a3.length + nz (([IntKind.wrap .u32 y4] : List Int).length) ≤ room Try.prog 42 then again a0 (wrap64 (a1 + 1)) a2 (a3 ++ ([IntKind.wrap .u32 y4] : List Int)) else none
   | none => none)
   else none
   else none)
  else some (a0, a2, a3)
noncomputable def g27.l6 : Nat → List ByteArray → Int → ByteArray × ByteArray × Int × Int × Int × Int × Int → List Int → Option (List ByteArray × (ByteArray × ByteArray × Int × Int × Int × Int × Int) × List Int)
  | 0, _, _, _, _ => none
  | k + 1, a0, a1, a2, a3 => g27.s6 (g27.l6 k) a0 a1 a2 a3
def g27.n6 : Norm := ⟨[2, 4, 6, 7], [(false, [.ptr 0 0]), (false, [.k (.list 9 .str)]), (false, [.sl 1]), (false, [.k (.int .i64)])], [some (.cells [.k (.pair .str (.pair .str (.pair (.int .u32) (.pair (.int .u32) (.pair (.int .u32) (.pair (.int .u32) (.int .u32)))))))] 44), some (.lst 42 (.int .u32))]⟩
def g27.x6 : List ExitS := [{ e := .exit 0, n := ⟨[2, 4, 6], [(false, [.ptr 0 0]), (false, [.k (.list 9 .str)]), (false, [.sl 1])], [some (.cells [.k (.pair .str (.pair .str (.pair (.int .u32) (.pair (.int .u32) (.pair (.int .u32) (.pair (.int .u32) (.int .u32)))))))] 44), some (.lst 42 (.int .u32))]⟩, raw := List ByteArray × (ByteArray × ByteArray × Int × Int × Int × Int × Int) × List Int, ret := fun y => ((((), ()), (y.1, ()), ((), ()), ()), ((y.2.1, ()), y.2.2, ())), un := fun z => (z.1.2.1.1, z.2.1.1, z.2.2.1) }]
noncomputable def g27.m6 (k : Nat) (x : g27.n6.X) : Option (SumR g27.x6) := g27.l6 k x.1.2.1.1 x.1.2.2.2.1.1 x.2.1.1 x.2.2.1
noncomputable def g27.L6 : LSpec := { id := 6, n := g27.n6, exits := g27.x6, sem := g27.m6 9223372036854775808 }
theorem g27.e6 : ∀ k x, g27.m6 (k + 1) x = roundS Try.prog kap g27.G [] (loopAt Try.f27 6) 54 0 g27.n6 g27.x6 (g27.m6 k) x := fun k x => by kernel_rfl
theorem g27.k6 : LOk Try.prog 0 54 g27.L6 (loopAt Try.f27 6) := LOk.of (κ := kap) (l := g27.L6) g27.G_ok follows (L := []) (lam_by (fn := Try.f27) (by kernel_rfl) lamAll_nil) g27.m6 (unAll_cons (fun _ => rfl) unAll_nil) (fun _ => rfl) g27.e6 9223372036854775808 rfl
noncomputable def g27.f (b0 : ByteArray) : Option ((ByteArray × ByteArray × Int × Int × Int × Int × Int) × Bool) :=
  (g17.f 6 b0).bind fun (y1 : Bool) =>
  if (!y1) = true then some (((⟨#[]⟩ : ByteArray), (⟨#[]⟩ : ByteArray), 0, 0, 0, 0, 0), false)
  else (g66.f b0 0 (nz b0.size) 6).bind fun (y2 : List ByteArray × Bool) =>
  (g27.l6 9223372036854775808 y2.1 2 ((⟨#[]⟩ : ByteArray), (⟨#[]⟩ : ByteArray), 0, 0, 0, 0, 0) ([] : List Int)).bind fun (y5 : (List ByteArray × (ByteArray × ByteArray × Int × Int × Int × Int × Int) × List Int)) =>
  if (0 : Int) < nz y5.1.length then (match y5.1[0]? with
  | some x6 => if (1 : Int) < nz y5.1.length then (match y5.1[1]? with
   | some x7 => if (0 : Int) < nz y5.2.2.length then (match y5.2.2[0]? with
    | some x8 => if (1 : Int) < nz y5.2.2.length then (match y5.2.2[1]? with
     | some x9 => if (2 : Int) < nz y5.2.2.length then (match y5.2.2[2]? with
      | some x10 => if (3 : Int) < nz y5.2.2.length then (match y5.2.2[3]? with
       | some x11 => if (4 : Int) < nz y5.2.2.length then (match y5.2.2[4]? with
        | some x12 => some ((x6, x7, x8, x9, x10, x11, x12), true)
        | none => none)
        else none
       | none => none)
       else none
      | none => none)
      else none
     | none => none)
     else none
    | none => none)
    else none
   | none => none)
   else none
  | none => none)
  else none
noncomputable def g27.sp : FSpec := { f := 27, ins := [(false, [.k .str])], inE := [], outs := [(true, [.k (.pair .str (.pair .str (.pair (.int .u32) (.pair (.int .u32) (.pair (.int .u32) (.pair (.int .u32) (.int .u32)))))))]), (false, [.k .bool])], outE := [], raw := (ByteArray × ByteArray × Int × Int × Int × Int × Int) × Bool, sem := fun x => g27.f x.1.1.1, ret := fun y => (((y.1, ()), (y.2, ()), ()), ()) }
theorem g27.ok : FOk Try.prog g27.sp := fn_ok (κ := kap) g27.G_ok follows (L := [g27.L6]) (fn := Try.f27) (c := bodyOf Try.f27) rfl (by decide) rfl (lam_by (fn := Try.f27) (by kernel_rfl) (lamAll_cons g27.k6 lamAll_nil)) (un := fun z => (z.1.1.1, z.1.2.1.1)) (fun _ => rfl) (by decide) (fun x => by kernel_rfl)
/-! ### beadroll/rdata.Data -/
noncomputable def g28.G : List FSpec := [g79.sp, g80.sp]
theorem g28.G_ok : ∀ sp ∈ g28.G, FOk Try.prog sp := allOk_cons g79.ok (allOk_cons g80.ok allOk_nil)
noncomputable def g28.f (b0 : ByteArray × ByteArray × Int × Int × Int × Int × Int) : Option (ByteArray × Int) :=
  (g79.f b0.1).bind fun (y1 : Bool) =>
  if (!y1) = true then some ((⟨#[]⟩ : ByteArray), 2)
  else (g79.f b0.2.1).bind fun (y2 : Bool) =>
  if (!y2) = true then some ((⟨#[]⟩ : ByteArray), 2)
  else (g80.f ([IntKind.wrap .u64 b0.2.2.1, IntKind.wrap .u64 b0.2.2.2.1, IntKind.wrap .u64 b0.2.2.2.2.1, IntKind.wrap .u64 b0.2.2.2.2.2.1, IntKind.wrap .u64 b0.2.2.2.2.2.2] : List Int) ([4, 4, 4, 4, 4] : List Int)).bind fun (y3 : ByteArray × Int) =>
  if (nz b0.1.size) + (nz b0.2.1.size) ≤ 9223372036854775807 then if (nz ((b0.1 ++ b0.2.1).size)) + (nz y3.1.size) ≤ 9223372036854775807 then some ((b0.1 ++ b0.2.1) ++ y3.1, 0) else none
  else none
noncomputable def g28.sp : FSpec := { f := 28, ins := [(true, [.k (.pair .str (.pair .str (.pair (.int .u32) (.pair (.int .u32) (.pair (.int .u32) (.pair (.int .u32) (.int .u32)))))))])], inE := [], outs := [(false, [.k .str]), (false, [.k (.int .i64)])], outE := [], raw := ByteArray × Int, sem := fun x => g28.f x.1.1.1, ret := fun y => (((y.1, ()), (y.2, ()), ()), ()) }
theorem g28.ok : FOk Try.prog g28.sp := fn_ok (κ := kap) g28.G_ok follows (L := []) (fn := Try.f28) (c := bodyOf Try.f28) rfl (by decide) rfl (lam_by (fn := Try.f28) (by kernel_rfl) lamAll_nil) (un := fun z => (z.1.1.1, z.1.2.1.1)) (fun _ => rfl) (by decide) (fun x => by kernel_rfl)
/-! ### beadroll/beadrollref10.four -/
noncomputable def g82.G : List FSpec := [g113.sp]
theorem g82.G_ok : ∀ sp ∈ g82.G, FOk Try.prog sp := allOk_cons g113.ok allOk_nil
noncomputable def g82.f (b0 : Int) : Option ByteArray :=
  (g113.f (IntKind.wrap .u64 b0) 4).bind fun (y1 : ByteArray) =>
  some y1
noncomputable def g82.sp : FSpec := { f := 82, ins := [(false, [.k (.int .u32)])], inE := [], outs := [(false, [.k .str])], outE := [], raw := ByteArray, sem := fun x => g82.f x.1.1.1, ret := fun y => (((y, ()), ()), ()) }
theorem g82.ok : FOk Try.prog g82.sp := fn_ok (κ := kap) g82.G_ok follows (L := []) (fn := Try.f82) (c := bodyOf Try.f82) rfl (by decide) rfl (lam_by (fn := Try.f82) (by kernel_rfl) lamAll_nil) (un := fun z => z.1.1.1) (fun _ => rfl) (by decide) (fun x => by kernel_rfl)
/-! ### beadroll/beadrollref10.Data -/
noncomputable def g30.G : List FSpec := [g82.sp]
theorem g30.G_ok : ∀ sp ∈ g30.G, FOk Try.prog sp := allOk_cons g82.ok allOk_nil
noncomputable def g30.f (b0 : ByteArray × ByteArray × Int × Int × Int × Int × Int) : Option ByteArray :=
  if (nz b0.1.size) + (nz b0.2.1.size) ≤ 9223372036854775807 then (g82.f b0.2.2.1).bind fun (y1 : ByteArray) =>
  if (nz ((b0.1 ++ b0.2.1).size)) + (nz y1.size) ≤ 9223372036854775807 then (g82.f b0.2.2.2.1).bind fun (y2 : ByteArray) =>
  if (nz (((b0.1 ++ b0.2.1) ++ y1).size)) + (nz y2.size) ≤ 9223372036854775807 then (g82.f b0.2.2.2.2.1).bind fun (y3 : ByteArray) =>
  if (nz ((((b0.1 ++ b0.2.1) ++ y1) ++ y2).size)) + (nz y3.size) ≤ 9223372036854775807 then (g82.f b0.2.2.2.2.2.1).bind fun (y4 : ByteArray) =>
  if (nz (((((b0.1 ++ b0.2.1) ++ y1) ++ y2) ++ y3).size)) + (nz y4.size) ≤ 9223372036854775807 then (g82.f b0.2.2.2.2.2.2).bind fun (y5 : ByteArray) =>
  if (nz ((((((b0.1 ++ b0.2.1) ++ y1) ++ y2) ++ y3) ++ y4).size)) + (nz y5.size) ≤ 9223372036854775807 then some ((((((b0.1 ++ b0.2.1) ++ y1) ++ y2) ++ y3) ++ y4) ++ y5) else none
  else none
  else none
  else none
  else none
  else none
noncomputable def g30.sp : FSpec := { f := 30, ins := [(true, [.k (.pair .str (.pair .str (.pair (.int .u32) (.pair (.int .u32) (.pair (.int .u32) (.pair (.int .u32) (.int .u32)))))))])], inE := [], outs := [(false, [.k .str])], outE := [], raw := ByteArray, sem := fun x => g30.f x.1.1.1, ret := fun y => (((y, ()), ()), ()) }
theorem g30.ok : FOk Try.prog g30.sp := fn_ok (κ := kap) g30.G_ok follows (L := []) (fn := Try.f30) (c := bodyOf Try.f30) rfl (by decide) rfl (lam_by (fn := Try.f30) (by kernel_rfl) lamAll_nil) (un := fun z => z.1.1.1) (fun _ => rfl) (by decide) (fun x => by kernel_rfl)
/-! ### beadroll/beadrolllaw10.RdataSoa -/
noncomputable def g6.G : List FSpec := [g15.sp, g26.sp, g27.sp, g28.sp, g29.sp, g30.sp]
theorem g6.G_ok : ∀ sp ∈ g6.G, FOk Try.prog sp := allOk_cons g15.ok (allOk_cons g26.ok (allOk_cons g27.ok (allOk_cons g28.ok (allOk_cons g29.ok (allOk_cons g30.ok allOk_nil)))))
noncomputable def g6.f (b0 : ByteArray) (b1 : ByteArray × ByteArray × Int × Int × Int × Int × Int) : Option Bool :=
  (g15.f).bind fun (y1 : Bool) =>
  if (!y1) = true then ((g15.f).bind fun (y2 : Bool) =>
   some y2)
  else if (2000 : Int) < (nz b0.size) then ((g15.f).bind fun (y3 : Bool) =>
   some y3)
  else if (2000 : Int) < (wrap64 ((nz b1.1.size) + (nz b1.2.1.size))) then ((g15.f).bind fun (y4 : Bool) =>
   some y4)
  else (g26.f b0).bind fun (y5 : (ByteArray × ByteArray × Int × Int × Int × Int × Int) × Int) =>
  (g27.f b0).bind fun (y6 : (ByteArray × ByteArray × Int × Int × Int × Int × Int) × Bool) =>
  (g28.f b1).bind fun (y7 : ByteArray × Int) =>
  if y5.1.1 = y6.1.1 ∧ y5.1.2.1 = y6.1.2.1 ∧ y5.1.2.2.1 = y6.1.2.2.1 ∧ y5.1.2.2.2.1 = y6.1.2.2.2.1 ∧ y5.1.2.2.2.2.1 = y6.1.2.2.2.2.1 ∧ y5.1.2.2.2.2.2.1 = y6.1.2.2.2.2.2.1 ∧ y5.1.2.2.2.2.2.2 = y6.1.2.2.2.2.2.2 ∧ True then (if y6.2 = (decide (y5.2 = 0)) then (if (!y6.2) = true then (if y5.2 = 2 then ((g29.f b1.1).bind fun (y8 : Bool) =>
      if (!y8) = true then (if y7.1 = (⟨#[]⟩ : ByteArray) then some (decide (y7.2 = 2))
       else some false)
      else (g29.f b1.2.1).bind fun (y9 : Bool) =>
      if (!y9) = true then (if y7.1 = (⟨#[]⟩ : ByteArray) then some (decide (y7.2 = 2))
       else some false)
      else (g26.f y7.1).bind fun (y10 : (ByteArray × ByteArray × Int × Int × Int × Int × Int) × Int) =>
      (g30.f b1).bind fun (y11 : ByteArray) =>
      if y7.1 = y11 then (if y7.2 = 0 then (if y10.1.1 = b1.1 ∧ y10.1.2.1 = b1.2.1 ∧ y10.1.2.2.1 = b1.2.2.1 ∧ y10.1.2.2.2.1 = b1.2.2.2.1 ∧ y10.1.2.2.2.2.1 = b1.2.2.2.2.1 ∧ y10.1.2.2.2.2.2.1 = b1.2.2.2.2.2.1 ∧ y10.1.2.2.2.2.2.2 = b1.2.2.2.2.2.2 ∧ True then some (decide (y10.2 = 0))
        else some false)
       else some false)
      else some false)
     else some false)
    else (g29.f b1.1).bind fun (y12 : Bool) =>
    if (!y12) = true then (if y7.1 = (⟨#[]⟩ : ByteArray) then some (decide (y7.2 = 2))
     else some false)
    else (g29.f b1.2.1).bind fun (y13 : Bool) =>
    if (!y13) = true then (if y7.1 = (⟨#[]⟩ : ByteArray) then some (decide (y7.2 = 2))
     else some false)
    else (g26.f y7.1).bind fun (y14 : (ByteArray × ByteArray × Int × Int × Int × Int × Int) × Int) =>
    (g30.f b1).bind fun (y15 : ByteArray) =>
    if y7.1 = y15 then (if y7.2 = 0 then (if y14.1.1 = b1.1 ∧ y14.1.2.1 = b1.2.1 ∧ y14.1.2.2.1 = b1.2.2.1 ∧ y14.1.2.2.2.1 = b1.2.2.2.1 ∧ y14.1.2.2.2.2.1 = b1.2.2.2.2.1 ∧ y14.1.2.2.2.2.2.1 = b1.2.2.2.2.2.1 ∧ y14.1.2.2.2.2.2.2 = b1.2.2.2.2.2.2 ∧ True then some (decide (y14.2 = 0))
      else some false)
     else some false)
    else some false)
   else some false)
  else some false
noncomputable def g6.sp : FSpec := { f := 6, ins := [(false, [.k .str]), (true, [.k (.pair .str (.pair .str (.pair (.int .u32) (.pair (.int .u32) (.pair (.int .u32) (.pair (.int .u32) (.int .u32)))))))])], inE := [], outs := [(false, [.k .bool])], outE := [], raw := Bool, sem := fun x => g6.f x.1.1.1 x.1.2.1.1, ret := fun y => (((y, ()), ()), ()) }
theorem g6.ok : FOk Try.prog g6.sp := fn_ok (κ := kap) g6.G_ok follows (L := []) (fn := Try.f6) (c := bodyOf Try.f6) rfl (by decide) rfl (lam_by (fn := Try.f6) (by kernel_rfl) lamAll_nil) (un := fun z => z.1.1.1) (fun _ => rfl) (by decide) (fun x => by kernel_rfl)
end
end Go.Proofs.Ytofkjgialkdidaa.E
